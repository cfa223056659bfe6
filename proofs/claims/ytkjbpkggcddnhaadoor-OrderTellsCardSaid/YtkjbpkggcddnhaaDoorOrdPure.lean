/- Plain laws of the clocks: joins, what is held, how far clocks count. No program, no memory. -/
import Derived.Test.YtkjbpkggcddnhaaDoorOrdSpec
namespace Go.Proofs.YtkjbpkggcddnhaaDoor
set_option linter.unusedVariables false
set_option linter.unusedSimpArgs false
open Go.RowKit

/-! ### joins -/
theorem getL_append_zero (l : List Int) (g : Int) : getL (l ++ [0]) g = getL l g := by
  unfold getL
  by_cases h : 0 ≤ g ∧ g < l.length
  · rw [if_pos h, if_pos ⟨h.1, by simp; omega⟩, List.getD_eq_getElem?_getD, List.getD_eq_getElem?_getD, List.getElem?_append_left (by omega)]
  · rw [if_neg h]
    by_cases h2 : 0 ≤ g ∧ g < (l ++ [0]).length
    · rw [if_pos h2]
      have : g.toNat = l.length := by simp at h2; omega
      rw [this, List.getD_eq_getElem?_getD, List.getElem?_append_right (Nat.le_refl _)]
      simp
    · rw [if_neg h2]
theorem getL_trimL (l : List Int) (g : Int) : getL (trimL l) g = getL l g := by
  induction h : l.length generalizing l with
  | zero => rw [List.eq_nil_of_length_eq_zero h]; rfl
  | succ n ih =>
    have hne : l ≠ [] := fun e => by rw [e] at h; simp at h
    obtain ⟨t, x, rfl⟩ : ∃ t x, l = t ++ [x] := ⟨l.dropLast, l.getLast hne, (List.dropLast_concat_getLast hne).symm⟩
    rw [trimL_snoc]
    by_cases hx : x = 0
    · rw [if_pos hx, hx, getL_append_zero]
      exact ih t (by simp at h; exact h)
    · rw [if_neg hx]
theorem getL_maxL {a b : List Int} (g : Int) : getL (maxL a b (max a.length b.length)) g = max (getL a g) (getL b g) := by
  by_cases h : 0 ≤ g ∧ g < (max a.length b.length : Nat)
  · obtain ⟨k, rfl⟩ := Int.eq_ofNat_of_zero_le h.1
    have hk : k < max a.length b.length := by omega
    rw [getL_nat (by simpa using hk)]
    have : (maxL a b (max a.length b.length)).getD k 0 = max (getL a k) (getL b k) := by
      simp [maxL, hk]
    rw [this]
    have := getL_nonneg a k
    omega
  · have h1 : getL (maxL a b (max a.length b.length)) g = 0 := by unfold getL; rw [if_neg (by rw [maxL_length]; exact h)]
    have h2 : getL a g = 0 := by unfold getL; rw [if_neg (by omega)]
    have h3 : getL b g = 0 := by unfold getL; rw [if_neg (by omega)]
    rw [h1, h2, h3]; rfl
theorem getL_joinL (a b : List Int) (g : Int) : getL (joinL a b) g = max (getL a g) (getL b g) := by
  unfold joinL; rw [getL_trimL, getL_maxL]
theorem getL_one {g : Nat} {x : Int} (hx : 0 ≤ x) (h : Int) : getL (List.replicate g 0 ++ [x]) h = if h = g then x else 0 := by
  by_cases hh : 0 ≤ h ∧ h < (g + 1 : Nat)
  · obtain ⟨k, rfl⟩ := Int.eq_ofNat_of_zero_le hh.1
    have hk : k < g + 1 := by omega
    rw [getL_nat (by simp; omega)]
    by_cases e : k = g
    · subst e; simp; omega
    · have : k < g := by omega
      rw [if_neg (by omega)]
      simp [List.getElem?_append, this]
  · have : getL (List.replicate g 0 ++ [x]) h = 0 := by unfold getL; rw [if_neg (by simp; omega)]
    rw [this, if_neg (by omega)]
theorem getL_tickL {c : List Int} {g : Int} (hg : 0 ≤ g) (h : Int) : getL (tickL c g) h = if h = g then getL c g + 1 else getL c h := by
  unfold tickL
  obtain ⟨k, rfl⟩ := Int.eq_ofNat_of_zero_le hg
  have h0 := getL_nonneg c k
  rw [getL_joinL, Int.toNat_natCast, getL_one (by omega)]
  by_cases e : h = k
  · rw [if_pos e, if_pos e, e]; omega
  · rw [if_neg e, if_neg e]; have := getL_nonneg c h; omega
theorem getL_nil (g : Int) : getL [] g = 0 := by unfold getL; split <;> simp

/-! ### what is held -/
inductive Held (s : WS) : List Int → Prop
  | own (g : Int) : Held s (s.own g)
  | mu (i : Int) : Held s (s.mu i)
  | am (i : Int) : Held s (s.am i)
  | sent (i : Int) (c : List Int) (h : c ∈ (s.pp i).sent) : Held s c
  | got (i : Int) (c : List Int) (h : c ∈ (s.pp i).got) : Held s c
theorem held_init {X : List Int} (h : Held WS.init X) : X = [] := by
  cases h <;> first | rfl | (rename_i h; simp [WS.init] at h)
theorem getD_mem {α : Type} {l : List α} {k : Nat} {d : α} (h : k < l.length) : l.getD k d ∈ l := by
  rw [List.getD_eq_getElem?_getD, List.getElem?_eq_getElem h]; exact List.getElem_mem h
theorem comes_cases (rooms : List Int) (s : WS) (e : Ev) : comesL rooms s e = s.own e.g ∨ ∃ Y, Held s Y ∧ comesL rooms s e = joinL (s.own e.g) Y := by
  unfold comesL
  split
  · exact .inr ⟨_, .mu _, rfl⟩
  split
  · exact .inr ⟨_, .am _, rfl⟩
  split
  · split
    · rename_i h
      exact .inr ⟨_, .got e.obj _ (getD_mem (by omega)), rfl⟩
    · exact .inl rfl
  split
  · split
    · rename_i h
      exact .inr ⟨_, .sent e.obj _ (getD_mem h), rfl⟩
    · exact .inl rfl
  · exact .inl rfl
theorem held_setOwn {s : WS} {g : Int} {c X : List Int} (h : Held (s.setOwn g c) X) : Held s X ∨ X = c := by
  cases h with
  | own g' =>
    show _ ∨ upd s.own g c g' = c
    by_cases e : g' = g
    · right; rw [e, upd_same]
    · left; show Held s (upd s.own g c g'); rw [upd_other _ _ e]; exact .own _
  | mu i => exact .inl (.mu i)
  | am i => exact .inl (.am i)
  | sent i c h => exact .inl (.sent i _ h)
  | got i c h => exact .inl (.got i _ h)
theorem held_leaves {rooms : List Int} {s : WS} {e : Ev} {c X : List Int} (h : Held (leavesL rooms s e c) X) : Held s X ∨ X = c ∨ ∃ Y, Held s Y ∧ X = joinL Y c := by
  unfold leavesL at h
  split at h
  · cases h with
    | own g => exact .inl (.own g)
    | mu i =>
      show Held s (upd s.mu e.obj (joinL (s.mu e.obj) c) i) ∨ _
      by_cases hi : i = e.obj
      · right; right; exact ⟨_, .mu e.obj, by show upd _ _ _ _ = _; rw [hi, upd_same]⟩
      · left; rw [upd_other _ _ hi]; exact .mu i
    | am i => exact .inl (.am i)
    | sent i c h => exact .inl (.sent i _ h)
    | got i c h => exact .inl (.got i _ h)
  split at h
  · cases h with
    | own g => exact .inl (.own g)
    | mu i => exact .inl (.mu i)
    | am i =>
      show Held s (upd s.am e.obj c i) ∨ _
      by_cases hi : i = e.obj
      · right; left; show upd _ _ _ _ = _; rw [hi, upd_same]
      · left; rw [upd_other _ _ hi]; exact .am i
    | sent i c h => exact .inl (.sent i _ h)
    | got i c h => exact .inl (.got i _ h)
  split at h
  · rcases held_setOwn h with h | h
    · exact .inl h
    · exact .inr (.inr ⟨_, .own _, h⟩)
  split at h
  · cases h with
    | own g => exact .inl (.own g)
    | mu i => exact .inl (.mu i)
    | am i => exact .inl (.am i)
    | sent i c' h =>
      by_cases hi : i = e.obj
      · subst hi
        have h : X ∈ (upd s.pp e.obj _ e.obj).sent := h
        rw [upd_same] at h
        rcases List.mem_append.1 h with h | h
        · exact .inl (.sent _ _ h)
        · right; left; simpa using h
      · have h : X ∈ (upd s.pp e.obj _ i).sent := h
        rw [upd_other _ _ hi] at h
        exact .inl (.sent _ _ h)
    | got i c' h =>
      by_cases hi : i = e.obj
      · subst hi
        have h : X ∈ (upd s.pp e.obj _ e.obj).got := h
        rw [upd_same] at h
        exact .inl (.got _ _ h)
      · have h : X ∈ (upd s.pp e.obj _ i).got := h
        rw [upd_other _ _ hi] at h
        exact .inl (.got _ _ h)
  split at h
  · have hp : ∀ X, Held { s with pp := upd s.pp e.obj ⟨(s.pp e.obj).sent, (s.pp e.obj).got ++ [c], (s.pp e.obj).frm⟩ } X → Held s X ∨ X = c := by
      intro X h
      cases h with
      | own g => exact .inl (.own g)
      | mu i => exact .inl (.mu i)
      | am i => exact .inl (.am i)
      | sent i c' h =>
        by_cases hi : i = e.obj
        · subst hi
          have h : X ∈ (upd s.pp e.obj _ e.obj).sent := h
          rw [upd_same] at h
          exact .inl (.sent _ _ h)
        · have h : X ∈ (upd s.pp e.obj _ i).sent := h
          rw [upd_other _ _ hi] at h
          exact .inl (.sent _ _ h)
      | got i c' h =>
        by_cases hi : i = e.obj
        · subst hi
          have h : X ∈ (upd s.pp e.obj _ e.obj).got := h
          rw [upd_same] at h
          rcases List.mem_append.1 h with h | h
          · exact .inl (.got _ _ h)
          · right; simpa using h
        · have h : X ∈ (upd s.pp e.obj _ i).got := h
          rw [upd_other _ _ hi] at h
          exact .inl (.got _ _ h)
    simp only at h
    split at h
    · rcases held_setOwn h with h | h
      · rcases hp _ h with h | h
        · exact .inl h
        · exact .inr (.inl h)
      · exact .inr (.inr ⟨_, .own _, h⟩)
    · rcases hp _ h with h | h
      · exact .inl h
      · exact .inr (.inl h)
  · exact .inl h
theorem held_step {rooms : List Int} {s : WS} {e : Ev} {X : List Int} (h : Held (stepL rooms s e) X) :
    Held s X ∨ X = clockL rooms s e ∨ ∃ Y, (Held s Y ∨ Y = clockL rooms s e) ∧ X = joinL Y (clockL rooms s e) := by
  unfold stepL at h
  rcases held_leaves h with h | h | ⟨Y, hY, h⟩
  · rcases held_setOwn h with h | h
    · exact .inl h
    · exact .inr (.inl h)
  · exact .inr (.inl h)
  · exact .inr (.inr ⟨Y, held_setOwn hY, h⟩)

/-! ### how far clocks count -/
def Upto (s : WS) (n : Int) : Prop := ∀ X, Held s X → ∀ h, getL X h ≤ n
theorem upto_init : Upto WS.init 0 := fun X hX h => by rw [held_init hX, getL_nil]; exact Int.le_refl 0
theorem upto_comes {rooms : List Int} {s : WS} {n : Int} (hs : Upto s n) (e : Ev) (h : Int) : getL (comesL rooms s e) h ≤ n := by
  rcases comes_cases rooms s e with hc | ⟨Y, hY, hc⟩
  · rw [hc]; exact hs _ (.own _) h
  · rw [hc, getL_joinL]; have h1 := hs _ (.own e.g) h; have h2 := hs _ hY h; omega
theorem upto_clock {rooms : List Int} {s : WS} {n : Int} (hs : Upto s n) (e : Ev) (hg : 0 ≤ e.g) (h : Int) : getL (clockL rooms s e) h ≤ n + 1 := by
  unfold clockL
  rw [getL_tickL hg]
  have h1 := upto_comes (rooms := rooms) hs e
  split
  · have := h1 e.g; omega
  · have := h1 h; omega
theorem upto_step {rooms : List Int} {s : WS} {n : Int} (hs : Upto s n) (e : Ev) (hg : 0 ≤ e.g) : Upto (stepL rooms s e) (n + 1) := by
  intro X hX h
  have hc := upto_clock (rooms := rooms) hs e hg
  rcases held_step hX with hX | hX | ⟨Y, hY, hX⟩
  · have := hs X hX h; omega
  · rw [hX]; exact hc h
  · rw [hX, getL_joinL]
    have h1 := hc h
    rcases hY with hY | hY
    · have := hs Y hY h; omega
    · rw [hY]; omega
theorem stateL_snoc (rooms : List Int) (s : WS) (t : List Ev) (e : Ev) : stateL rooms s (t ++ [e]) = stepL rooms (stateL rooms s t) e := by
  unfold stateL; rw [List.foldl_append]; rfl
theorem upto_state {rooms : List Int} : ∀ (t : List Ev), (∀ e ∈ t, 0 ≤ e.g) → Upto (stateL rooms WS.init t) t.length := by
  intro t
  induction h : t.length generalizing t with
  | zero => intro _; rw [List.eq_nil_of_length_eq_zero h]; exact upto_init
  | succ n ih =>
    intro ht
    have hne : t ≠ [] := fun e => by rw [e] at h; simp at h
    obtain ⟨u, x, rfl⟩ : ∃ u x, t = u ++ [x] := ⟨t.dropLast, t.getLast hne, (List.dropLast_concat_getLast hne).symm⟩
    rw [stateL_snoc]
    have hn : u.length = n := by simp at h; exact h
    have := ih u hn (fun e he => ht e (by simp [he]))
    have h2 := upto_step (rooms := rooms) this x (ht x (by simp))
    intro X hX g
    have := h2 X hX g
    omega

/-! ### the clocks of a trace, one by one -/
theorem clocksFrom_snoc (rooms : List Int) : ∀ (s : WS) (t : List Ev) (e : Ev), clocksFrom rooms s (t ++ [e]) = clocksFrom rooms s t ++ [clockL rooms (stateL rooms s t) e]
  | _, [], _ => rfl
  | s, x :: t, e => by
    rw [List.cons_append, clocksFrom, clocksFrom, clocksFrom_snoc rooms (stepL rooms s x) t e]
    rfl
theorem clocksFrom_length (rooms : List Int) : ∀ (s : WS) (t : List Ev), (clocksFrom rooms s t).length = t.length
  | _, [] => rfl
  | s, x :: t => by rw [clocksFrom, List.length_cons, clocksFrom_length, List.length_cons]
theorem clocksL_snoc (rooms : List Int) (t : List Ev) (e : Ev) : clocksL rooms (t ++ [e]) = clocksL rooms t ++ [clockL rooms (stateL rooms WS.init t) e] := clocksFrom_snoc rooms _ t e
theorem clocksL_length (rooms : List Int) (t : List Ev) : (clocksL rooms t).length = t.length := clocksFrom_length rooms _ t
theorem clocksFrom_append (rooms : List Int) : ∀ (s : WS) (t u : List Ev), clocksFrom rooms s (t ++ u) = clocksFrom rooms s t ++ clocksFrom rooms (stateL rooms s t) u
  | _, [], _ => rfl
  | s, x :: t, u => by
    rw [List.cons_append, clocksFrom, clocksFrom, clocksFrom_append rooms (stepL rooms s x) t u]
    rfl
theorem clocksL_take (rooms : List Int) (t : List Ev) (k : Nat) : clocksL rooms (t.take k) = (clocksL rooms t).take k := by
  have h : clocksL rooms t = clocksL rooms (t.take k) ++ clocksFrom rooms (stateL rooms WS.init (t.take k)) (t.drop k) := by
    conv => lhs; rw [← List.take_append_drop k t]
    exact clocksFrom_append rooms _ _ _
  by_cases hk : k ≤ t.length
  · have hl : (clocksL rooms (t.take k)).length = k := by rw [clocksL_length, List.length_take]; omega
    have h2 := congrArg (List.take k) h
    rw [List.take_append_of_le_length (by omega), List.take_of_length_le (l := clocksL rooms (t.take k)) (by omega)] at h2
    exact h2.symm
  · rw [List.take_of_length_le (by omega), List.take_of_length_le (by rw [clocksL_length]; omega)]
end Go.Proofs.YtkjbpkggcddnhaaDoor
