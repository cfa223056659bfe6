/- Plain law: what happens before what is an order. No program, no memory. -/
import Derived.Test.YtkjbpkggcddnhaaDoorRaceSpec
namespace Go.Proofs.YtkjbpkggcddnhaaDoor
set_option linter.unusedVariables false
set_option linter.unusedSimpArgs false
open Go.RowKit

theorem getD_snoc_lt' {α : Type} {l : List α} {j : Nat} {x d : α} (h : j < l.length) : (l ++ [x]).getD j d = l.getD j d := by
  rw [List.getD_eq_getElem?_getD, List.getElem?_append_left h, ← List.getD_eq_getElem?_getD]
theorem getD_snoc_last' {α : Type} {l : List α} {x d : α} : (l ++ [x]).getD l.length d = x := by
  rw [List.getD_eq_getElem?_getD, List.getElem?_append_right (Nat.le_refl _)]; simp

theorem setOwn_own (s : WS) (g : Int) (c : List Int) (h : Int) : (s.setOwn g c).own h = if h = g then c else s.own h := rfl
/-- What is seen is not forgotten. -/
theorem own_leaves (rooms : List Int) (s : WS) (e : Ev) (c : List Int) (h k : Int) : getL (s.own h) k ≤ getL ((leavesL rooms s e c).own h) k := by
  have hj : ∀ (s0 : WS), (∀ x, s0.own x = s.own x) → ∀ g d, getL (s.own h) k ≤ getL ((s0.setOwn g (joinL (s.own g) d)).own h) k := fun s0 h0 g d => by
    rw [setOwn_own]
    split
    · rename_i e; rw [getL_joinL, ← e]; omega
    · rw [h0]; omega
  unfold leavesL
  split
  · exact Int.le_refl _
  split
  · exact Int.le_refl _
  split
  · exact hj s (fun _ => rfl) _ _
  split
  · exact Int.le_refl _
  split
  · simp only
    split
    · exact hj _ (fun _ => rfl) _ _
    · exact Int.le_refl _
  · exact Int.le_refl _
theorem comes_own (rooms : List Int) (s : WS) (e : Ev) (k : Int) : getL (s.own e.g) k ≤ getL (comesL rooms s e) k := by
  rcases comes_cases rooms s e with hc | ⟨Y, hY, hc⟩
  · rw [hc]; omega
  · rw [hc, getL_joinL]; omega
theorem clock_comes (rooms : List Int) (s : WS) (e : Ev) (hg : 0 ≤ e.g) (k : Int) : getL (comesL rooms s e) k ≤ getL (clockL rooms s e) k := by
  unfold clockL
  rw [getL_tickL hg]
  split
  · rename_i h; rw [h]; omega
  · omega
theorem own_step (rooms : List Int) (s : WS) (e : Ev) (hg : 0 ≤ e.g) (h k : Int) : getL (s.own h) k ≤ getL ((stepL rooms s e).own h) k := by
  have h1 := own_leaves rooms (s.setOwn e.g (clockL rooms s e)) e (clockL rooms s e) h k
  have h2 : getL (s.own h) k ≤ getL ((s.setOwn e.g (clockL rooms s e)).own h) k := by
    rw [setOwn_own]
    split
    · rename_i hh
      rw [hh]
      have := comes_own rooms s e k
      have := clock_comes rooms s e hg k
      omega
    · omega
  unfold stepL
  omega
theorem clock_step (rooms : List Int) (s : WS) (e : Ev) (k : Int) : getL (clockL rooms s e) k ≤ getL ((stepL rooms s e).own e.g) k := by
  have h1 := own_leaves rooms (s.setOwn e.g (clockL rooms s e)) e (clockL rooms s e) e.g k
  rw [setOwn_own, if_pos rfl] at h1
  exact h1

/-- What the clocks of a trace keep. -/
structure Chain (rooms : List Int) (t : List Ev) : Prop where
  top : ∀ X, Held (stateL rooms WS.init t) X → ∀ g, getL X g ≤ getL ((stateL rooms WS.init t).own g) g
  flow : ∀ X, Held (stateL rooms WS.init t) X → ∀ i, i < t.length → getL ((clocksL rooms t).getD i []) (t.getD i default).g ≤ getL X (t.getD i default).g → ∀ h, getL ((clocksL rooms t).getD i []) h ≤ getL X h
  mine : ∀ i, i < t.length → ∀ h, getL ((clocksL rooms t).getD i []) h ≤ getL ((stateL rooms WS.init t).own (t.getD i default).g) h
theorem chain_nil (rooms : List Int) : Chain rooms [] := by
  refine ⟨fun X hX g => ?_, fun X hX i hi => absurd hi (Nat.not_lt_zero _), fun i hi => absurd hi (Nat.not_lt_zero _)⟩
  have := held_init (show Held WS.init X from hX)
  rw [this, getL_nil]
  exact getL_nonneg _ _
/-- Also of the clock that comes next. -/
theorem Chain.next {rooms : List Int} {t : List Ev} (H : Chain rooms t) (e : Ev) (hg : 0 ≤ e.g) {i : Nat} (hi : i < t.length)
    (hle : getL ((clocksL rooms t).getD i []) (t.getD i default).g ≤ getL (clockL rooms (stateL rooms WS.init t) e) (t.getD i default).g) (h : Int) :
    getL ((clocksL rooms t).getD i []) h ≤ getL (clockL rooms (stateL rooms WS.init t) e) h := by
  have hcc := clock_comes rooms (stateL rooms WS.init t) e hg h
  have hco := comes_own rooms (stateL rooms WS.init t) e h
  by_cases hgi : (t.getD i default).g = e.g
  · have := H.mine i hi h
    rw [hgi] at this
    omega
  · have h1 : getL (clockL rooms (stateL rooms WS.init t) e) (t.getD i default).g = getL (comesL rooms (stateL rooms WS.init t) e) (t.getD i default).g := by
      unfold clockL; rw [getL_tickL hg, if_neg hgi]
    rw [h1] at hle
    rcases comes_cases rooms (stateL rooms WS.init t) e with hc | ⟨Y, hY, hc⟩
    · rw [hc] at hle
      have := H.flow _ (.own _) i hi hle h
      omega
    · have h2 := getL_joinL ((stateL rooms WS.init t).own e.g) Y h
      rw [← hc] at h2
      rw [hc, getL_joinL] at hle
      by_cases hq : getL ((clocksL rooms t).getD i []) (t.getD i default).g ≤ getL ((stateL rooms WS.init t).own e.g) (t.getD i default).g
      · have := H.flow _ (.own _) i hi hq h
        omega
      · have := H.flow _ hY i hi (by omega) h
        omega
theorem chain_snoc {rooms : List Int} {t : List Ev} (H : Chain rooms t) (e : Ev) (hg : 0 ≤ e.g) : Chain rooms (t ++ [e]) := by
  have hlen : (clocksL rooms t).length = t.length := clocksL_length rooms t
  have hCi : ∀ i, i < t.length → (clocksL rooms (t ++ [e])).getD i [] = (clocksL rooms t).getD i [] := fun i hi => by rw [clocksL_snoc, getD_snoc_lt' (by omega)]
  have hCn : (clocksL rooms (t ++ [e])).getD t.length [] = clockL rooms (stateL rooms WS.init t) e := by
    rw [clocksL_snoc, ← hlen, getD_snoc_last']
  have hti : ∀ i, i < t.length → (t ++ [e]).getD i default = t.getD i default := fun i hi => getD_snoc_lt' hi
  have htn : (t ++ [e]).getD t.length default = e := getD_snoc_last'
  have hst := stateL_snoc rooms WS.init t e
  have hown := own_step rooms (stateL rooms WS.init t) e hg
  have hclk := clock_step rooms (stateL rooms WS.init t) e
  have hcn : getL (clockL rooms (stateL rooms WS.init t) e) e.g = getL (comesL rooms (stateL rooms WS.init t) e) e.g + 1 := by unfold clockL; rw [getL_tickL hg, if_pos rfl]
  have hco := comes_own rooms (stateL rooms WS.init t) e
  have htopC : ∀ g, getL (clockL rooms (stateL rooms WS.init t) e) g ≤ getL ((stepL rooms (stateL rooms WS.init t) e).own g) g := fun g => by
    by_cases hge : g = e.g
    · rw [hge]; exact hclk e.g
    · have h1 : getL (clockL rooms (stateL rooms WS.init t) e) g = getL (comesL rooms (stateL rooms WS.init t) e) g := by unfold clockL; rw [getL_tickL hg, if_neg hge]
      have h2 := hown g g
      rcases comes_cases rooms (stateL rooms WS.init t) e with hc | ⟨Y, hY, hc⟩
      · rw [hc] at h1
        have := H.top _ (.own e.g) g
        omega
      · rw [hc, getL_joinL] at h1
        have h3 := H.top _ (.own e.g) g
        have h4 := H.top _ hY g
        omega
  refine ⟨fun X hX g => ?_, fun X hX i hi hle h => ?_, fun i hi h => ?_⟩
  · rw [hst] at hX ⊢
    rcases held_step hX with hX | hX | ⟨Y, hY, hX⟩
    · have := H.top X hX g; have := hown g g; omega
    · rw [hX]; exact htopC g
    · rw [hX, getL_joinL]
      have h1 := htopC g
      rcases hY with hY | hY
      · have := H.top Y hY g; have := hown g g; omega
      · rw [hY]; omega
  · rw [hst] at hX
    simp only [List.length_append, List.length_cons, List.length_nil] at hi
    by_cases hit : i < t.length
    · rw [hCi i hit, hti i hit] at hle
      rw [hCi i hit]
      rcases held_step hX with hX | hX | ⟨Y, hY, hX⟩
      · exact H.flow X hX i hit hle h
      · rw [hX] at hle ⊢
        exact H.next e hg hit hle h
      · rw [hX, getL_joinL] at hle ⊢
        by_cases hq : getL ((clocksL rooms t).getD i []) (t.getD i default).g ≤ getL (clockL rooms (stateL rooms WS.init t) e) (t.getD i default).g
        · have := H.next e hg hit hq h
          omega
        · rcases hY with hY | hY
          · have := H.flow Y hY i hit (by omega) h
            omega
          · rw [hY] at hle; omega
    · obtain rfl : i = t.length := by omega
      rw [hCn, htn] at hle
      rw [hCn]
      rcases held_step hX with hX | hX | ⟨Y, hY, hX⟩
      · have h1 := H.top X hX e.g
        have h2 := hco e.g
        omega
      · rw [hX]; omega
      · rw [hX, getL_joinL]; omega
  · rw [hst]
    simp only [List.length_append, List.length_cons, List.length_nil] at hi
    by_cases hit : i < t.length
    · rw [hCi i hit, hti i hit]
      have h1 := H.mine i hit h
      have h2 := hown (t.getD i default).g h
      omega
    · obtain rfl : i = t.length := by omega
      rw [hCn, htn]
      exact hclk h
theorem chain_all (rooms : List Int) : ∀ (t : List Ev), (∀ e ∈ t, 0 ≤ e.g) → Chain rooms t := by
  intro t
  induction h : t.length generalizing t with
  | zero => intro _; rw [List.eq_nil_of_length_eq_zero h]; exact chain_nil rooms
  | succ n ih =>
    intro ht
    have hne : t ≠ [] := fun e => by rw [e] at h; simp at h
    obtain ⟨u, x, rfl⟩ : ∃ u x, t = u ++ [x] := ⟨t.dropLast, t.getLast hne, (List.dropLast_concat_getLast hne).symm⟩
    exact chain_snoc (ih u (by simp at h; exact h) (fun e he => ht e (by simp [he]))) x (ht x (by simp))
theorem take_snoc_ev' {l : List Ev} {k : Nat} (hk : k < l.length) : l.take (k + 1) = l.take k ++ [l.getD k default] := by
  rw [List.take_succ_eq_append_getElem hk]
  simp [hk]
theorem clocksL_getD' (rooms : List Int) {l : List Ev} {k : Nat} (hk : k < l.length) : (clocksL rooms l).getD k [] = clockL rooms (stateL rooms WS.init (l.take k)) (l.getD k default) := by
  have h := clocksL_take rooms l (k + 1)
  rw [take_snoc_ev' hk, clocksL_snoc] at h
  have h1 := congrArg (fun m => m.getD k []) h
  have hl : (clocksL rooms (l.take k)).length = k := by rw [clocksL_length, List.length_take]; omega
  have h2 := getD_snoc_last' (l := clocksL rooms (l.take k)) (x := clockL rooms (stateL rooms WS.init (l.take k)) (l.getD k default)) (d := [])
  rw [hl] at h2
  rw [h2] at h1
  rw [h1, List.getD_eq_getElem?_getD, List.getD_eq_getElem?_getD, List.getElem?_take, if_pos (by omega)]
/-- An event that happens before another has no larger clock. -/
theorem clocks_flow {rooms : List Int} {l : List Ev} (hl : ∀ e ∈ l, 0 ≤ e.g) {i j : Nat} (hij : i < j) (hj : j < l.length) (hle : aheadL l (clocksL rooms l) i j = true) (h : Int) :
    getL ((clocksL rooms l).getD i []) h ≤ getL ((clocksL rooms l).getD j []) h := by
  unfold aheadL at hle
  rw [decide_eq_true_eq] at hle
  have H := chain_all rooms (l.take j) (fun e he => hl e (List.mem_of_mem_take he))
  have hlt : i < (l.take j).length := by rw [List.length_take]; omega
  have h1 : (clocksL rooms (l.take j)).getD i [] = (clocksL rooms l).getD i [] := by
    rw [clocksL_take, List.getD_eq_getElem?_getD, List.getD_eq_getElem?_getD, List.getElem?_take, if_pos hij]
  have h2 : (l.take j).getD i default = l.getD i default := by
    rw [List.getD_eq_getElem?_getD, List.getD_eq_getElem?_getD, List.getElem?_take, if_pos hij]
  have hn := H.next (l.getD j default) (hl _ (getD_mem hj)) hlt
  rw [h1, h2, ← clocksL_getD' rooms hj] at hn
  exact hn hle h
theorem ahead_trans {rooms : List Int} {l : List Ev} (hl : ∀ e ∈ l, 0 ≤ e.g) {a b c : Nat} (hab : a < b) (hbc : b < c) (hc : c < l.length) (h1 : aheadL l (clocksL rooms l) a b = true) (h2 : aheadL l (clocksL rooms l) b c = true) :
    aheadL l (clocksL rooms l) a c = true := by
  have h3 := clocks_flow hl hbc hc h2 (l.getD a default).g
  unfold aheadL at h1 ⊢
  rw [decide_eq_true_eq] at h1 ⊢
  omega
end Go.Proofs.YtkjbpkggcddnhaaDoor
