/- Plain law: the clocks count what happens before. No program, no memory. -/
import Derived.Test.YtkjbpkggcddnhaaDoorChain
import Derived.Test.YtkjbpkggcddnhaaDoorRacesPure
namespace Go.Proofs.YtkjbpkggcddnhaaDoor
set_option linter.unusedVariables false
set_option linter.unusedSimpArgs false
open Go.RowKit


/-! ### counting -/
def cq (q : Nat → Bool) (n : Nat) : Nat := (List.range n).countP q
theorem cq_zero (q : Nat → Bool) : cq q 0 = 0 := rfl
theorem cq_succ (q : Nat → Bool) (n : Nat) : cq q (n + 1) = cq q n + if q n then 1 else 0 := by
  unfold cq; rw [List.range_succ, List.countP_append]; simp [List.countP_cons]
theorem cq_mono (q : Nat → Bool) {m n : Nat} (h : m ≤ n) : cq q m ≤ cq q n := by
  induction n with
  | zero => obtain rfl : m = 0 := by omega
            exact Nat.le_refl _
  | succ n ih =>
    by_cases e : m = n + 1
    · rw [e]; exact Nat.le_refl _
    · rw [cq_succ]; have := ih (by omega); omega
theorem cq_le (q : Nat → Bool) (n : Nat) : cq q n ≤ n := by
  induction n with
  | zero => exact Nat.le_refl _
  | succ n ih => rw [cq_succ]; split <;> omega
theorem cq_sub {p q : Nat → Bool} {n : Nat} (h : ∀ i, i < n → p i = true → q i = true) : cq p n ≤ cq q n := by
  induction n with
  | zero => exact Nat.le_refl _
  | succ n ih =>
    have := ih (fun i hi => h i (by omega))
    rw [cq_succ, cq_succ]
    cases hp : p n with
    | false => simp; omega
    | true => rw [h n (by omega) hp]; simp; omega
theorem cq_congr {p q : Nat → Bool} {n : Nat} (h : ∀ i, i < n → p i = q i) : cq p n = cq q n := by
  refine Nat.le_antisymm (cq_sub fun i hi hp => ?_) (cq_sub fun i hi hp => ?_)
  · rw [← h i hi]; exact hp
  · rw [h i hi]; exact hp
theorem cq_stop {q : Nat → Bool} {m n : Nat} (hm : m ≤ n) (h : ∀ i, m ≤ i → i < n → q i = false) : cq q n = cq q m := by
  induction n with
  | zero => obtain rfl : m = 0 := by omega
            rfl
  | succ n ih =>
    by_cases e : m = n + 1
    · rw [e]
    · rw [cq_succ, h n (by omega) (by omega), ih (by omega) (fun i h1 h2 => h i h1 (by omega))]; simp
/-- The k-th of them, from 0. -/
theorem cq_nth {q : Nat → Bool} {n k : Nat} (h : k < cq q n) : ∃ i, i < n ∧ q i = true ∧ cq q i = k := by
  induction n with
  | zero => rw [cq_zero] at h; omega
  | succ n ih =>
    rw [cq_succ] at h
    by_cases hk : k < cq q n
    · obtain ⟨i, hi, h1, h2⟩ := ih hk
      exact ⟨i, by omega, h1, h2⟩
    · cases hq : q n with
      | false => rw [hq] at h; simp at h; omega
      | true => rw [hq] at h; simp at h; exact ⟨n, by omega, hq, by omega⟩
theorem cq_lt {q : Nat → Bool} {i n : Nat} (hi : i < n) (hq : q i = true) : cq q i < cq q n := by
  have := cq_mono q (show i + 1 ≤ n by omega)
  rw [cq_succ, hq] at this
  simp at this; omega
theorem cq_inj {q : Nat → Bool} {i j : Nat} (hi : q i = true) (hj : q j = true) (h : cq q i = cq q j) : i = j := by
  rcases Nat.lt_trichotomy i j with h1 | h1 | h1
  · have := cq_lt h1 hi; omega
  · exact h1
  · have := cq_lt h1 hj; omega
/-- A first part of the q's: who is in it. -/
theorem first_part {p q : Nat → Bool} {n : Nat} (hpq : ∀ i, i < n → p i = true → q i = true) (hd : ∀ i m, i < m → m < n → p m = true → q i = true → p i = true) {m : Nat} (hm : m < n) (hq : q m = true) :
    p m = true ↔ cq q (m + 1) ≤ cq p n := by
  constructor
  · intro hp
    have h1 : cq q (m + 1) ≤ cq p (m + 1) := cq_sub fun i hi hqi => by
      by_cases e : i = m
      · rw [e]; exact hp
      · exact hd i m (by omega) hm hp hqi
    exact Nat.le_trans h1 (cq_mono p (by omega))
  · intro h
    cases hp : p m with
    | true => rfl
    | false =>
      have h1 : cq p n = cq p m := cq_stop (by omega) fun i h1 h2 => by
        cases hpi : p i with
        | false => rfl
        | true =>
          by_cases e : i = m
          · rw [e, hp] at hpi; cases hpi
          · rw [hd m i (by omega) h2 hpi hq] at hp; cases hp
      have h2 : cq p m ≤ cq q m := cq_sub fun i hi h => hpq i (by omega) h
      rw [cq_succ, hq] at h
      simp at h
      omega
theorem cq_rank (q : Nat → Bool) (c n : Nat) : cq (fun m => q m && decide (cq q (m + 1) ≤ c)) n = min c (cq q n) := by
  induction n with
  | zero => simp [cq_zero]
  | succ n ih =>
    rw [cq_succ, cq_succ q n, ih]
    cases hq : q n with
    | false => simp
    | true =>
      simp only [Bool.true_and, if_true, decide_eq_true_eq]
      split <;> omega

/-! ### the document's answer -/
def isAt (l : List Ev) (kind obj : Int) (i : Nat) : Bool := decide ((l.getD i default).kind = kind) && decide ((l.getD i default).obj = obj)
def whichL (l : List Ev) (i : Nat) : Nat := cq (isAt l (l.getD i default).kind (l.getD i default).obj) i
def nthL (l : List Ev) (kind obj : Int) (k : Nat) : Option Nat := (List.range l.length).find? fun i => isAt l kind obj i && decide (cq (isAt l kind obj) i = k)
theorem nthL_some {l : List Ev} {kind obj : Int} {k s : Nat} : nthL l kind obj k = some s ↔ s < l.length ∧ isAt l kind obj s = true ∧ cq (isAt l kind obj) s = k := by
  unfold nthL
  constructor
  · intro h
    have h1 := List.find?_some h
    have h2 := List.mem_of_find?_eq_some h
    simp only [Bool.and_eq_true, decide_eq_true_eq] at h1
    exact ⟨List.mem_range.1 h2, h1.1, h1.2⟩
  · rintro ⟨h1, h2, h3⟩
    cases hf : (List.range l.length).find? fun i => isAt l kind obj i && decide (cq (isAt l kind obj) i = k) with
    | none =>
      rw [List.find?_eq_none] at hf
      have := hf s (List.mem_range.2 h1)
      simp [h2, h3] at this
    | some s' =>
      have h4 := List.find?_some hf
      simp only [Bool.and_eq_true, decide_eq_true_eq] at h4
      rw [cq_inj h4.1 h2 (by rw [h4.2, h3])]
def atomicK (k : Int) : Bool := decide (k = 7) || decide (k = 8) || decide (k = 9)
/-- The goroutine of the send that a receive without room took. -/
def handB (rooms : List Int) (l : List Ev) (i : Nat) (g : Int) : Bool :=
  decide ((l.getD i default).kind = 6) && decide (roomL rooms (l.getD i default).obj = 0) &&
    match nthL l 5 (l.getD i default).obj (whichL l i) with
    | some s => decide (s < i) && decide ((l.getD s default).g = g)
    | none => false
def dirL (rooms : List Int) (l : List Ev) (i j : Nat) : Bool :=
  decide ((l.getD i default).g = (l.getD j default).g) || (decide ((l.getD i default).kind = 10) && decide ((l.getD i default).obj = (l.getD j default).g)) || handB rooms l i (l.getD j default).g ||
  (decide ((l.getD i default).obj = (l.getD j default).obj) &&
    ((decide ((l.getD i default).kind = 4) && decide ((l.getD j default).kind = 3) || atomicK (l.getD i default).kind && atomicK (l.getD j default).kind) ||
     (decide ((l.getD i default).kind = 5) && decide ((l.getD j default).kind = 6) && decide (whichL l i = whichL l j)) ||
     (decide ((l.getD i default).kind = 6) && decide ((l.getD j default).kind = 5) && (decide (0 < roomL rooms (l.getD i default).obj) && decide (roomL rooms (l.getD i default).obj ≤ whichL l j) && decide ((whichL l j : Int) - roomL rooms (l.getD i default).obj = whichL l i)))))

def hbF (D : Nat → Nat → Bool) : Nat → Nat → Nat → Bool
  | 0, _, _ => false
  | f + 1, i, j => (List.range j).any fun m => D m j && (decide (m = i) || hbF D f i m)
/-- Happens i before j? D: directly. -/
def hbD (D : Nat → Nat → Bool) (i j : Nat) : Bool := hbF D j i j
theorem hbF_fuel (D : Nat → Nat → Bool) (i : Nat) : ∀ (f j : Nat), j ≤ f → hbF D f i j = hbF D j i j
  | 0, j, h => by obtain rfl : j = 0 := by omega
                  rfl
  | f + 1, 0, _ => by simp [hbF]
  | f + 1, j + 1, h => by
    have e : ∀ m, m ≤ j → hbF D f i m = hbF D j i m := fun m hm => by rw [hbF_fuel D i f m (by omega), hbF_fuel D i j m hm]
    simp only [hbF]
    rw [Bool.eq_iff_iff, List.any_eq_true, List.any_eq_true]
    constructor
    · rintro ⟨m, hm, h⟩
      exact ⟨m, hm, by rw [← e m (by have := List.mem_range.1 hm; omega)]; exact h⟩
    · rintro ⟨m, hm, h⟩
      exact ⟨m, hm, by rw [e m (by have := List.mem_range.1 hm; omega)]; exact h⟩
theorem hbD_iff {D : Nat → Nat → Bool} {i j : Nat} : hbD D i j = true ↔ ∃ m, m < j ∧ D m j = true ∧ (m = i ∨ hbD D i m = true) := by
  cases j with
  | zero => simp [hbD, hbF]
  | succ j =>
    unfold hbD
    simp only [hbF]
    rw [List.any_eq_true]
    constructor
    · rintro ⟨m, hm, h⟩
      have hm := List.mem_range.1 hm
      simp only [Bool.and_eq_true, Bool.or_eq_true, decide_eq_true_eq] at h
      refine ⟨m, hm, h.1, h.2.imp id fun h => ?_⟩
      rw [← hbF_fuel D i j m (by omega)]; exact h
    · rintro ⟨m, hm, h1, h2⟩
      refine ⟨m, List.mem_range.2 hm, ?_⟩
      simp only [Bool.and_eq_true, Bool.or_eq_true, decide_eq_true_eq]
      refine ⟨h1, h2.imp id fun h => ?_⟩
      rw [hbF_fuel D i j m (by omega)]; exact h
theorem hbD_lt {D : Nat → Nat → Bool} {i : Nat} : ∀ (j : Nat), hbD D i j = true → i < j := by
  intro j
  induction j using Nat.strongRecOn with
  | _ j ih =>
    intro h
    obtain ⟨m, hm, _, h | h⟩ := hbD_iff.1 h
    · omega
    · have := ih m hm h; omega
theorem hbD_trans {D : Nat → Nat → Bool} {a b : Nat} (hab : hbD D a b = true) : ∀ (c : Nat), hbD D b c = true → hbD D a c = true := by
  intro c
  induction c using Nat.strongRecOn with
  | _ c ih =>
    intro h
    obtain ⟨m, hm, h1, h | h⟩ := hbD_iff.1 h
    · rw [h] at h1 hm; exact hbD_iff.2 ⟨b, hm, h1, .inr hab⟩
    · exact hbD_iff.2 ⟨m, hm, h1, .inr (ih m hm h)⟩
theorem hbD_dir {D : Nat → Nat → Bool} {i j : Nat} (h : i < j) (hD : D i j = true) : hbD D i j = true := hbD_iff.2 ⟨i, h, hD, .inl rfl⟩
abbrev hbL (rooms : List Int) (l : List Ev) (i j : Nat) : Bool := hbD (dirL rooms l) i j
/-- Is an event of a goroutine up to j's moment? -/
def upB (rooms : List Int) (l : List Ev) (j : Nat) (h : Int) (i : Nat) : Bool := (decide (i = j) || hbL rooms l i j) && decide ((l.getD i default).g = h)
def ckL (rooms : List Int) (l : List Ev) (j : Nat) (h : Int) : Nat := cq (upB rooms l j h) (j + 1)

/-! ### clocks as least upper bounds -/
def Sup (L : List (List Int)) (k : Nat) (P : Nat → Prop) (X : List Int) : Prop :=
  (∀ i, i < k → P i → ∀ h, getL (L.getD i []) h ≤ getL X h) ∧ ∀ h, getL X h = 0 ∨ ∃ i, i < k ∧ P i ∧ getL X h ≤ getL (L.getD i []) h
theorem Sup.congr {L : List (List Int)} {k : Nat} {P Q : Nat → Prop} {X : List Int} (h : Sup L k P X) (hPQ : ∀ i, i < k → (P i ↔ Q i)) : Sup L k Q X :=
  ⟨fun i hi hq h' => h.1 i hi ((hPQ i hi).2 hq) h', fun h' => (h.2 h').imp id fun ⟨i, hi, hp, hle⟩ => ⟨i, hi, (hPQ i hi).1 hp, hle⟩⟩
theorem Sup.join {L : List (List Int)} {k : Nat} {P Q : Nat → Prop} {X Y : List Int} (h1 : Sup L k P X) (h2 : Sup L k Q Y) : Sup L k (fun i => P i ∨ Q i) (joinL X Y) := by
  refine ⟨fun i hi hp h => ?_, fun h => ?_⟩
  · rw [getL_joinL]
    rcases hp with hp | hp
    · have := h1.1 i hi hp h; omega
    · have := h2.1 i hi hp h; omega
  · rw [getL_joinL]
    have hx := getL_nonneg X h
    have hy := getL_nonneg Y h
    rcases Int.le_total (getL X h) (getL Y h) with hle | hle
    · rw [Int.max_eq_right hle]
      exact (h2.2 h).imp id fun ⟨i, hi, hp, h3⟩ => ⟨i, hi, .inr hp, h3⟩
    · rw [Int.max_eq_left hle]
      exact (h1.2 h).imp id fun ⟨i, hi, hp, h3⟩ => ⟨i, hi, .inl hp, h3⟩
theorem Sup.nil (L : List (List Int)) : Sup L 0 (fun _ => False) [] := ⟨fun i hi => absurd hi (Nat.not_lt_zero _), fun h => .inl (getL_nil h)⟩
theorem Sup.empty {L : List (List Int)} {k : Nat} {P : Nat → Prop} (hP : ∀ i, i < k → ¬ P i) : Sup L k P [] := ⟨fun i hi hp => absurd hp (hP i hi), fun h => .inl (getL_nil h)⟩
/-- Of a further event that P does not speak of. -/
theorem Sup.more {L : List (List Int)} {k : Nat} {P : Nat → Prop} {X : List Int} (h : Sup L k P X) : Sup L (k + 1) (fun i => i < k ∧ P i) X :=
  ⟨fun i _ hp h' => h.1 i hp.1 hp.2 h', fun h' => (h.2 h').imp id fun ⟨i, hi, hp, hle⟩ => ⟨i, by omega, ⟨hi, hp⟩, hle⟩⟩
theorem Sup.one (L : List (List Int)) (k : Nat) : Sup L (k + 1) (fun i => i = k) (L.getD k []) :=
  ⟨fun i _ hp h => by rw [hp]; exact Int.le_refl _, fun h => .inr ⟨k, by omega, rfl, Int.le_refl _⟩⟩
/-- What is above all that P speaks of, and is itself the clock of the new event. -/
theorem Sup.top {L : List (List Int)} {k : Nat} {P : Nat → Prop} {X : List Int} (h : Sup L k P X) (hle : ∀ h, getL X h ≤ getL (L.getD k []) h) : Sup L (k + 1) (fun i => i < k ∧ P i ∨ i = k) (L.getD k []) := by
  refine ⟨fun i _ hp h' => ?_, fun h' => .inr ⟨k, by omega, .inr rfl, Int.le_refl _⟩⟩
  rcases hp with hp | hp
  · have := h.1 i hp.1 hp.2 h'; have := hle h'; omega
  · rw [hp]; exact Int.le_refl _

/-- Events that a goroutine's clock has learned of. -/
def ownP (rooms : List Int) (l : List Ev) (g : Int) (i : Nat) : Prop := (l.getD i default).g = g ∨ ((l.getD i default).kind = 10 ∧ (l.getD i default).obj = g) ∨ handB rooms l i g = true
theorem handB_iff {rooms : List Int} {l : List Ev} {i : Nat} (hi : i < l.length) {g : Int} : handB rooms l i g = true ↔ (l.getD i default).kind = 6 ∧ roomL rooms (l.getD i default).obj = 0 ∧
    ∃ s, s < i ∧ isAt l 5 (l.getD i default).obj s = true ∧ cq (isAt l 5 (l.getD i default).obj) s = whichL l i ∧ (l.getD s default).g = g := by
  unfold handB
  simp only [Bool.and_eq_true, decide_eq_true_eq, and_assoc]
  refine and_congr_right fun _ => and_congr_right fun _ => ?_
  constructor
  · intro h
    cases hn : nthL l 5 (l.getD i default).obj (whichL l i) with
    | none => rw [hn] at h; simp at h
    | some s =>
      rw [hn] at h
      simp only [Bool.and_eq_true, decide_eq_true_eq] at h
      obtain ⟨_, h2, h3⟩ := nthL_some.1 hn
      exact ⟨s, h.1, h2, h3, h.2⟩
  · rintro ⟨s, h1, h2, h3, h4⟩
    rw [nthL_some.2 ⟨by omega, h2, h3⟩]
    simp only [Bool.and_eq_true, decide_eq_true_eq]
    exact ⟨h1, h4⟩

/-- The pipes hold the clocks of the sends and receives so far. -/
structure PipeOk (l : List Ev) (L : List (List Int)) (k : Nat) (o : Int) (p : Pipe) : Prop where
  slen : p.sent.length = cq (isAt l 5 o) k
  flen : p.frm.length = cq (isAt l 5 o) k
  glen : p.got.length = cq (isAt l 6 o) k
  sent : ∀ i, i < k → isAt l 5 o i = true → p.sent.getD (cq (isAt l 5 o) i) [] = L.getD i [] ∧ p.frm.getD (cq (isAt l 5 o) i) 0 = (l.getD i default).g
  got : ∀ i, i < k → isAt l 6 o i = true → p.got.getD (cq (isAt l 6 o) i) [] = L.getD i []

structure Tells (rooms : List Int) (l : List Ev) (L : List (List Int)) (k : Nat) (s : WS) : Prop where
  own : ∀ g, Sup L k (ownP rooms l g) (s.own g)
  mu : ∀ o, Sup L k (fun i => isAt l 4 o i = true) (s.mu o)
  am : ∀ o, Sup L k (fun i => atomicK (l.getD i default).kind = true ∧ (l.getD i default).obj = o) (s.am o)
  pp : ∀ o, PipeOk l L k o (s.pp o)

theorem tells_init (rooms : List Int) (l : List Ev) (L : List (List Int)) : Tells rooms l L 0 WS.init :=
  ⟨fun _ => Sup.empty (fun i hi => absurd hi (Nat.not_lt_zero _)), fun _ => Sup.empty (fun i hi => absurd hi (Nat.not_lt_zero _)), fun _ => Sup.empty (fun i hi => absurd hi (Nat.not_lt_zero _)),
    fun _ => ⟨rfl, rfl, rfl, fun i hi => absurd hi (Nat.not_lt_zero _), fun i hi => absurd hi (Nat.not_lt_zero _)⟩⟩

theorem isAt_iff {l : List Ev} {kind obj : Int} {i : Nat} : isAt l kind obj i = true ↔ (l.getD i default).kind = kind ∧ (l.getD i default).obj = obj := by
  unfold isAt; simp

/-- What an event comes to is the least upper bound of what is directly ahead of it. -/
theorem comes_sup {rooms : List Int} {l : List Ev} {L : List (List Int)} {k : Nat} {s : WS} (H : Tells rooms l L k s) (hk : k < l.length) :
    Sup L k (fun i => dirL rooms l i k = true) (comesL rooms s (l.getD k default)) := by
  have ho := H.own (l.getD k default).g
  have hP := H.pp (l.getD k default).obj
  have hwk : ∀ kd, (l.getD k default).kind = kd → whichL l k = cq (isAt l kd (l.getD k default).obj) k := fun kd e => by unfold whichL; rw [e]
  generalize hev : l.getD k default = e at ho hP hwk
  obtain ⟨g, kd, ob, ea⟩ := e
  simp only at ho hP hwk
  have key : ∀ i, (dirL rooms l i k = true ↔ ownP rooms l g i ∨ ((l.getD i default).obj = ob ∧ (((l.getD i default).kind = 4 ∧ kd = 3 ∨ atomicK (l.getD i default).kind = true ∧ atomicK kd = true) ∨ ((l.getD i default).kind = 5 ∧ kd = 6 ∧ whichL l i = whichL l k) ∨
      ((l.getD i default).kind = 6 ∧ kd = 5 ∧ (0 < roomL rooms (l.getD i default).obj ∧ roomL rooms (l.getD i default).obj ≤ whichL l k ∧ (whichL l k : Int) - roomL rooms (l.getD i default).obj = whichL l i))))) := fun i => by
    unfold dirL ownP
    rw [hev]
    simp only [Bool.or_eq_true, Bool.and_eq_true, decide_eq_true_eq, or_assoc, and_assoc]
  unfold comesL
  simp only
  by_cases h3 : kd = 3
  · subst h3
    rw [if_pos rfl]
    refine (ho.join (H.mu ob)).congr fun i hi => ?_
    rw [key, isAt_iff]
    refine or_congr_right ⟨fun h => ⟨h.2, .inl (.inl ⟨h.1, rfl⟩)⟩, fun h => ?_⟩
    rcases h with ⟨h0, (h1 | h1) | h1 | h1⟩
    · exact ⟨h1.1, h0⟩
    · have := h1.2; simp [atomicK] at this
    · have := h1.2.1; omega
    · have := h1.2.1; omega
  rw [if_neg h3]
  by_cases hat : kd = 7 ∨ kd = 8 ∨ kd = 9
  · rw [if_pos hat]
    have hak : atomicK kd = true := by unfold atomicK; simp; omega
    refine (ho.join (H.am ob)).congr fun i hi => ?_
    rw [key]
    refine or_congr_right ⟨fun h => ⟨h.2, .inl (.inr ⟨h.1, hak⟩)⟩, fun h => ?_⟩
    rcases h with ⟨h0, (h1 | h1) | h1 | h1⟩
    · have := h1.2; omega
    · exact ⟨h1.1, h0⟩
    · have := h1.2.1; omega
    · have := h1.2.1; omega
  rw [if_neg hat]
  have hak : atomicK kd = false := by unfold atomicK; simp; omega
  by_cases h5 : kd = 5
  · subst h5
    rw [if_pos rfl]
    have hw := hwk 5 rfl
    have hother : ∀ i, (dirL rooms l i k = true ↔ ownP rooms l g i ∨ ((l.getD i default).obj = ob ∧ (l.getD i default).kind = 6 ∧ 0 < roomL rooms ob ∧ roomL rooms ob ≤ whichL l k ∧ (whichL l k : Int) - roomL rooms ob = whichL l i)) := fun i => by
      rw [key]
      refine or_congr_right ⟨fun h => ?_, fun h => ⟨h.1, .inr (.inr ⟨h.2.1, rfl, by rw [h.1]; exact h.2.2⟩)⟩⟩
      rcases h with ⟨h0, (h1 | h1) | h1 | h1⟩
      · have := h1.2; omega
      · have := h1.2; rw [hak] at this; cases this
      · have := h1.2.1; omega
      · rw [h0] at h1; exact ⟨h0, h1.1, h1.2.2⟩
    have hsl := hP.slen
    have hgl := hP.glen
    by_cases hc : 0 < roomL rooms ob ∧ roomL rooms ob ≤ (s.pp ob).sent.length ∧ ((s.pp ob).sent.length : Int) - roomL rooms ob < (s.pp ob).got.length
    · rw [if_pos hc]
      obtain ⟨n, hn⟩ := Int.eq_ofNat_of_zero_le (show 0 ≤ ((s.pp ob).sent.length : Int) - roomL rooms ob by omega)
      rw [hn, Int.toNat_natCast]
      obtain ⟨m, hm, hm1, hm2⟩ := cq_nth (q := isAt l 6 ob) (n := k) (k := n) (by omega)
      have hg := hP.got m hm hm1
      rw [hm2] at hg
      rw [hg]
      have hone : Sup L k (fun i => i = m) (L.getD m []) := ⟨fun i _ hp h => by rw [hp]; exact Int.le_refl _, fun h => .inr ⟨m, hm, rfl, Int.le_refl _⟩⟩
      refine (ho.join hone).congr fun i hi => ?_
      rw [hother]
      refine or_congr_right ⟨fun h => ?_, fun h => ?_⟩
      · subst h
        obtain ⟨h1, h2⟩ := isAt_iff.1 hm1
        refine ⟨h2, h1, hc.1, by omega, ?_⟩
        have : whichL l i = cq (isAt l 6 ob) i := by unfold whichL; rw [h1, h2]
        rw [this, hm2]; omega
      · obtain ⟨h1, h2, _, _, h5⟩ := h
        have h6 : whichL l i = cq (isAt l 6 ob) i := by unfold whichL; rw [h1, h2]
        refine cq_inj (isAt_iff.2 ⟨h2, h1⟩) hm1 ?_
        rw [hm2]; omega
    · rw [if_neg hc]
      refine ho.congr fun i hi => ?_
      rw [hother]
      refine ⟨.inl, fun h => h.resolve_right fun h => ?_⟩
      obtain ⟨h1, h2, h3, h4, h5⟩ := h
      have h6 : whichL l i = cq (isAt l 6 ob) i := by unfold whichL; rw [h1, h2]
      have h7 := cq_lt hi (isAt_iff.2 ⟨h2, h1⟩)
      exact hc ⟨h3, by omega, by omega⟩
  rw [if_neg h5]
  by_cases h6 : kd = 6
  · subst h6
    rw [if_pos rfl]
    have hw := hwk 6 rfl
    have hother : ∀ i, (dirL rooms l i k = true ↔ ownP rooms l g i ∨ ((l.getD i default).obj = ob ∧ (l.getD i default).kind = 5 ∧ whichL l i = whichL l k)) := fun i => by
      rw [key]
      refine or_congr_right ⟨fun h => ?_, fun h => ⟨h.1, .inr (.inl ⟨h.2.1, rfl, h.2.2⟩)⟩⟩
      rcases h with ⟨h0, (h1 | h1) | h1 | h1⟩
      · have := h1.2; omega
      · have := h1.2; rw [hak] at this; cases this
      · exact ⟨h0, h1.1, h1.2.2⟩
      · have := h1.2.1; omega
    have hsl := hP.slen
    have hgl := hP.glen
    by_cases hc : (s.pp ob).got.length < (s.pp ob).sent.length
    · rw [if_pos hc]
      obtain ⟨m, hm, hm1, hm2⟩ := cq_nth (q := isAt l 5 ob) (n := k) (k := (s.pp ob).got.length) (by omega)
      have hg := (hP.sent m hm hm1).1
      rw [hm2] at hg
      rw [hg]
      have hone : Sup L k (fun i => i = m) (L.getD m []) := ⟨fun i _ hp h => by rw [hp]; exact Int.le_refl _, fun h => .inr ⟨m, hm, rfl, Int.le_refl _⟩⟩
      refine (ho.join hone).congr fun i hi => ?_
      rw [hother]
      refine or_congr_right ⟨fun h => ?_, fun h => ?_⟩
      · subst h
        obtain ⟨h1, h2⟩ := isAt_iff.1 hm1
        refine ⟨h2, h1, ?_⟩
        have : whichL l i = cq (isAt l 5 ob) i := by unfold whichL; rw [h1, h2]
        rw [this, hm2]; omega
      · obtain ⟨h1, h2, h5⟩ := h
        have h6 : whichL l i = cq (isAt l 5 ob) i := by unfold whichL; rw [h1, h2]
        refine cq_inj (isAt_iff.2 ⟨h2, h1⟩) hm1 ?_
        rw [hm2]; omega
    · rw [if_neg hc]
      refine ho.congr fun i hi => ?_
      rw [hother]
      refine ⟨.inl, fun h => h.resolve_right fun h => ?_⟩
      obtain ⟨h1, h2, h5⟩ := h
      have h6 : whichL l i = cq (isAt l 5 ob) i := by unfold whichL; rw [h1, h2]
      have h7 := cq_lt hi (isAt_iff.2 ⟨h2, h1⟩)
      omega
  rw [if_neg h6]
  refine ho.congr fun i hi => ?_
  rw [key]
  refine ⟨.inl, fun h => h.resolve_right fun h => ?_⟩
  rcases h with ⟨h0, (h1 | h1) | h1 | h1⟩
  · exact h3 h1.2
  · have := h1.2; rw [hak] at this; cases this
  · exact h6 h1.2.1
  · exact h5 h1.2.1

theorem sup_upd {L : List (List Int)} {k : Nat} {P : Int → Nat → Prop} {f : Int → List Int} {o : Int} {X : List Int} (h : ∀ x, x ≠ o → Sup L k (P x) (f x)) (hX : Sup L k (P o) X) : ∀ x, Sup L k (P x) (upd f o X x) := fun x => by
  by_cases e : x = o
  · rw [e, upd_same]; exact hX
  · rw [upd_other _ _ e]; exact h x e
theorem PipeOk.idle {l : List Ev} {L : List (List Int)} {k : Nat} {o : Int} {p : Pipe} (h : PipeOk l L k o p) (h5 : isAt l 5 o k = false) (h6 : isAt l 6 o k = false) : PipeOk l L (k + 1) o p := by
  refine ⟨by rw [cq_succ, h5]; simpa using h.slen, by rw [cq_succ, h5]; simpa using h.flen, by rw [cq_succ, h6]; simpa using h.glen, fun i hi hq => ?_, fun i hi hq => ?_⟩
  · by_cases e : i = k
    · rw [e, h5] at hq; cases hq
    · exact h.sent i (by omega) hq
  · by_cases e : i = k
    · rw [e, h6] at hq; cases hq
    · exact h.got i (by omega) hq
theorem getD_app_lt {α : Type} {l : List α} {j : Nat} {x d : α} (h : j < l.length) : (l ++ [x]).getD j d = l.getD j d := by
  rw [List.getD_eq_getElem?_getD, List.getElem?_append_left h, ← List.getD_eq_getElem?_getD]
theorem getD_app_last {α : Type} {l : List α} {j : Nat} {x d : α} (h : j = l.length) : (l ++ [x]).getD j d = x := by
  rw [h, List.getD_eq_getElem?_getD, List.getElem?_append_right (Nat.le_refl _)]; simp
theorem PipeOk.send {l : List Ev} {L : List (List Int)} {k : Nat} {o : Int} {p : Pipe} (h : PipeOk l L k o p) (h5 : isAt l 5 o k = true) (h6 : isAt l 6 o k = false) : PipeOk l L (k + 1) o ⟨p.sent ++ [L.getD k []], p.got, p.frm ++ [(l.getD k default).g]⟩ := by
  have h1 := h.slen
  have h2 := h.flen
  refine ⟨by rw [cq_succ, h5]; simpa using h1, by rw [cq_succ, h5]; simpa using h2, by rw [cq_succ, h6]; simpa using h.glen, fun i hi hq => ?_, fun i hi hq => ?_⟩
  · by_cases e : i = k
    · rw [e]; exact ⟨getD_app_last h1.symm, getD_app_last h2.symm⟩
    · have hlt := cq_lt (show i < k by omega) hq
      simp only
      rw [getD_app_lt (by omega), getD_app_lt (by omega)]
      exact h.sent i (by omega) hq
  · by_cases e : i = k
    · rw [e, h6] at hq; cases hq
    · exact h.got i (by omega) hq
theorem PipeOk.recv {l : List Ev} {L : List (List Int)} {k : Nat} {o : Int} {p : Pipe} (h : PipeOk l L k o p) (h5 : isAt l 5 o k = false) (h6 : isAt l 6 o k = true) : PipeOk l L (k + 1) o ⟨p.sent, p.got ++ [L.getD k []], p.frm⟩ := by
  have h1 := h.glen
  refine ⟨by rw [cq_succ, h5]; simpa using h.slen, by rw [cq_succ, h5]; simpa using h.flen, by rw [cq_succ, h6]; simpa using h1, fun i hi hq => ?_, fun i hi hq => ?_⟩
  · by_cases e : i = k
    · rw [e, h5] at hq; cases hq
    · exact h.sent i (by omega) hq
  · by_cases e : i = k
    · rw [e]; exact getD_app_last h1.symm
    · have hlt := cq_lt (show i < k by omega) hq
      simp only
      rw [getD_app_lt (by omega)]
      exact h.got i (by omega) hq

theorem tells_step {rooms : List Int} {l : List Ev} {L : List (List Int)} {k : Nat} {s : WS} (H : Tells rooms l L k s) (hk : k < l.length) (hg : 0 ≤ (l.getD k default).g) (hL : L.getD k [] = clockL rooms s (l.getD k default)) :
    Tells rooms l L (k + 1) (stepL rooms s (l.getD k default)) := by
  have hcl : ∀ h, getL (comesL rooms s (l.getD k default)) h ≤ getL (L.getD k []) h := fun h => by rw [hL]; exact clock_comes rooms s _ hg h
  have hco : ∀ h, getL (s.own (l.getD k default).g) h ≤ getL (L.getD k []) h := fun h => Int.le_trans (comes_own rooms s _ h) (hcl h)
  have hwk : ∀ kd, (l.getD k default).kind = kd → whichL l k = cq (isAt l kd (l.getD k default).obj) k := fun kd e => by unfold whichL; rw [e]
  have hat : ∀ kd o, isAt l kd o k = true ↔ (l.getD k default).kind = kd ∧ (l.getD k default).obj = o := fun kd o => isAt_iff
  have hhand : ∀ g, handB rooms l k g = true ↔ _ := fun g => handB_iff (rooms := rooms) hk
  have hold : ∀ i, i < k + 1 → ∀ g, (i < k ∧ ownP rooms l g i ∨ i = k ∧ ownP rooms l g k ↔ ownP rooms l g i) := fun i hi g => by
    constructor
    · rintro (h | ⟨rfl, h⟩)
      · exact h.2
      · exact h
    · intro h
      by_cases e : i = k
      · right; rw [e] at h; exact ⟨e, h⟩
      · left; exact ⟨by omega, h⟩
  unfold stepL
  rw [← hL]
  generalize hC : L.getD k [] = C at hcl hco
  have hone := Sup.one L k
  rw [hC] at hone
  -- the goroutines behind the event's own count
  have hown1 : ∀ g, Sup L (k + 1) (fun i => i < k ∧ ownP rooms l g i ∨ i = k ∧ (l.getD k default).g = g) ((s.setOwn (l.getD k default).g C).own g) := fun g => by
    rw [setOwn_own]
    split
    · rename_i e
      rw [← hC]
      refine ((H.own (l.getD k default).g).top (fun h => by rw [hC]; exact hco h)).congr fun i hi => ?_
      rw [e]
      simp
    · rename_i e
      refine (H.own g).more.congr fun i hi => ⟨.inl, fun h => h.resolve_right fun h => e h.2.symm⟩
  have hown0 : (∀ g, ownP rooms l g k → (l.getD k default).g = g) → ∀ g, Sup L (k + 1) (ownP rooms l g) ((s.setOwn (l.getD k default).g C).own g) := fun h g => by
    refine (hown1 g).congr fun i hi => Iff.trans ?_ (hold i hi g)
    exact or_congr_right (and_congr_right fun e => ⟨fun h => .inl h, fun h' => h g h'⟩)
  have hmu0 : (l.getD k default).kind ≠ 4 → ∀ o, Sup L (k + 1) (fun i => isAt l 4 o i = true) (s.mu o) := fun h4 o => (H.mu o).more.congr fun i hi => by
    refine ⟨fun h => h.2, fun h => ⟨?_, h⟩⟩
    by_cases e : i = k
    · rw [e] at h; exact absurd ((hat 4 o).1 h).1 h4
    · omega
  have ham0 : atomicK (l.getD k default).kind = false → ∀ o, Sup L (k + 1) (fun i => atomicK (l.getD i default).kind = true ∧ (l.getD i default).obj = o) (s.am o) := fun ha o => (H.am o).more.congr fun i hi => by
    refine ⟨fun h => h.2, fun h => ⟨?_, h⟩⟩
    by_cases e : i = k
    · rw [e, ha] at h; cases h.1
    · omega
  have hpp0 : (l.getD k default).kind ≠ 5 → (l.getD k default).kind ≠ 6 → ∀ o, PipeOk l L (k + 1) o (s.pp o) := fun h5 h6 o => by
    refine (H.pp o).idle ?_ ?_
    · cases h : isAt l 5 o k
      · rfl
      · exact absurd ((hat 5 o).1 h).1 h5
    · cases h : isAt l 6 o k
      · rfl
      · exact absurd ((hat 6 o).1 h).1 h6
  have hpo := H.pp (l.getD k default).obj
  generalize hev : l.getD k default = e at *
  obtain ⟨g, kd, ob, ea⟩ := e
  simp only at *
  unfold leavesL
  simp only
  by_cases h4 : kd = 4
  · subst h4
    rw [if_pos rfl]
    refine ⟨hown0 fun g' h => ?_, ?_, ham0 (by decide), hpp0 (by decide) (by decide)⟩
    · rcases h with h | h | h
      · rw [hev] at h; exact h
      · rw [hev] at h; simp at h
      · exact absurd ((hhand g').1 h).1 (by decide)
    · refine sup_upd (P := fun o i => isAt l 4 o i = true) (fun o ho => (H.mu o).more.congr fun i hi => ⟨fun h => h.2, fun h => ⟨?_, h⟩⟩) (((H.mu ob).more.join hone).congr fun i hi => ?_)
      · by_cases e : i = k
        · rw [e] at h; exact absurd ((hat 4 o).1 h).2 (fun e => ho e.symm)
        · omega
      · constructor
        · rintro (h | rfl)
          · exact h.2
          · exact (hat 4 ob).2 ⟨rfl, rfl⟩
        · intro h
          by_cases e : i = k
          · exact .inr e
          · exact .inl ⟨by omega, h⟩
  rw [if_neg h4]
  by_cases hak : kd = 7 ∨ kd = 8 ∨ kd = 9
  · rw [if_pos hak]
    have hak' : atomicK kd = true := by unfold atomicK; simp; omega
    refine ⟨hown0 fun g' h => ?_, hmu0 h4, ?_, hpp0 (by omega) (by omega)⟩
    · rcases h with h | h | h
      · rw [hev] at h; exact h
      · rw [hev] at h; have := h.1; simp at this; omega
      · have := ((hhand g').1 h).1; omega
    · refine sup_upd (P := fun o i => atomicK (l.getD i default).kind = true ∧ (l.getD i default).obj = o) (fun o ho => (H.am o).more.congr fun i hi => ⟨fun h => h.2, fun h => ⟨?_, h⟩⟩) ?_
      · by_cases e : i = k
        · rw [e, hev] at h; exact absurd h.2.symm ho
        · omega
      · have hle : ∀ h, getL (s.am ob) h ≤ getL (L.getD k []) h := fun h => by
          rw [hC]
          have h1 := hcl h
          unfold comesL at h1
          simp only at h1
          rw [if_neg (by omega), if_pos hak, getL_joinL] at h1
          omega
        have := (H.am ob).top hle
        rw [hC] at this
        refine this.congr fun i hi => ?_
        constructor
        · rintro (h | rfl)
          · exact h.2
          · rw [hev]; exact ⟨hak', rfl⟩
        · intro h
          by_cases e : i = k
          · exact .inr e
          · exact .inl ⟨by omega, h⟩
  rw [if_neg hak]
  have hak' : atomicK kd = false := by unfold atomicK; simp; omega
  by_cases h10 : kd = 10
  · subst h10
    rw [if_pos rfl]
    refine ⟨fun g' => ?_, hmu0 h4, ham0 hak', hpp0 (by decide) (by decide)⟩
    have hno : handB rooms l k g' = true → False := fun h => by exact absurd ((hhand g').1 h).1 (by decide)
    rw [setOwn_own]
    split
    · rename_i e
      subst e
      refine ((hown1 g').join hone).congr fun i hi => Iff.trans ?_ (hold i hi g')
      rw [or_assoc]
      refine or_congr_right ?_
      constructor
      · rintro (h | rfl)
        · exact ⟨h.1, .inl (by rw [hev]; exact h.2)⟩
        · exact ⟨rfl, .inr (.inl (by rw [hev]; exact ⟨rfl, rfl⟩))⟩
      · rintro ⟨h, _⟩; exact .inr h
    · rename_i e
      refine (hown1 g').congr fun i hi => Iff.trans ?_ (hold i hi g')
      refine or_congr_right (and_congr_right fun _ => ⟨fun h => .inl (by rw [hev]; exact h), fun h => ?_⟩)
      rcases h with h | h | h
      · rw [hev] at h; exact h
      · rw [hev] at h; exact absurd h.2.symm e
      · exact (hno h).elim
  rw [if_neg h10]
  by_cases h5 : kd = 5
  · subst h5
    rw [if_pos rfl]
    refine ⟨hown0 fun g' h => ?_, hmu0 h4, ham0 hak', fun o => ?_⟩
    · rcases h with h | h | h
      · rw [hev] at h; exact h
      · rw [hev] at h; simp at h
      · exact absurd ((hhand g').1 h).1 (by decide)
    · have h6 : isAt l 6 o k = false := by
        cases h : isAt l 6 o k
        · rfl
        · exact absurd ((hat 6 o).1 h).1 (by decide)
      show PipeOk l L (k + 1) o (upd s.pp ob _ o)
      by_cases ho : o = ob
      · rw [ho, upd_same]
        have := hpo.send ((hat 5 ob).2 ⟨rfl, rfl⟩) (by rw [← ho]; exact h6)
        rw [hC, hev] at this
        exact this
      · rw [upd_other _ _ ho]
        refine (H.pp o).idle ?_ h6
        cases h : isAt l 5 o k
        · rfl
        · exact absurd ((hat 5 o).1 h).2.symm ho
  rw [if_neg h5]
  by_cases h6 : kd = 6
  · subst h6
    rw [if_pos rfl]
    have hpp : ∀ o, PipeOk l L (k + 1) o (upd s.pp ob ⟨(s.pp ob).sent, (s.pp ob).got ++ [C], (s.pp ob).frm⟩ o) := fun o => by
      have h5 : isAt l 5 o k = false := by
        cases h : isAt l 5 o k
        · rfl
        · exact absurd ((hat 5 o).1 h).1 (by decide)
      by_cases ho : o = ob
      · rw [ho, upd_same]
        have := hpo.recv (by rw [← ho]; exact h5) ((hat 6 ob).2 ⟨rfl, rfl⟩)
        rw [hC] at this
        exact this
      · rw [upd_other _ _ ho]
        refine (H.pp o).idle h5 ?_
        cases h : isAt l 6 o k
        · rfl
        · exact absurd ((hat 6 o).1 h).2.symm ho
    have hw := hwk 6 rfl
    have hgl := hpo.glen
    have hfl := hpo.flen
    have hhand' : ∀ g', handB rooms l k g' = true ↔ roomL rooms ob = 0 ∧ ∃ s, s < k ∧ isAt l 5 ob s = true ∧ cq (isAt l 5 ob) s = whichL l k ∧ (l.getD s default).g = g' := fun g' => by
      rw [hhand g']
      simp only [true_and]
    have hpr : (s.setOwn g C).pp = s.pp := rfl
    rw [hpr]
    by_cases hc : roomL rooms ob = 0 ∧ (s.pp ob).got.length < (s.pp ob).frm.length
    · rw [if_pos hc]
      obtain ⟨m, hm, hm1, hm2⟩ := cq_nth (q := isAt l 5 ob) (n := k) (k := (s.pp ob).got.length) (by omega)
      have hfm := (hpo.sent m hm hm1).2
      rw [hm2] at hfm
      rw [hfm]
      refine ⟨fun g' => ?_, hmu0 h4, ham0 hak', fun o => hpp o⟩
      have hon : ∀ x, ({ own := (s.setOwn g C).own, mu := (s.setOwn g C).mu, am := (s.setOwn g C).am, pp := upd s.pp ob ⟨(s.pp ob).sent, (s.pp ob).got ++ [C], (s.pp ob).frm⟩ } : WS).own x = (s.setOwn g C).own x := fun _ => rfl
      have hhg : handB rooms l k g' = true ↔ (l.getD m default).g = g' := by
        rw [hhand']
        constructor
        · rintro ⟨_, s', h1, h2, h3, h4⟩
          rw [← h4, cq_inj h2 hm1 (by rw [h3, hm2, hw, hgl])]
        · intro h
          exact ⟨hc.1, m, hm, hm1, by rw [hm2, hw, hgl], h⟩
      show Sup L (k + 1) (ownP rooms l g') ((WS.setOwn _ (l.getD m default).g (joinL ((s.setOwn g C).own (l.getD m default).g) C)).own g')
      rw [setOwn_own]
      split
      · rename_i e
        rw [← e]
        refine ((hown1 _).join hone).congr fun i hi => Iff.trans ?_ (hold i hi g')
        rw [or_assoc]
        refine or_congr_right ?_
        constructor
        · rintro (h | rfl)
          · exact ⟨h.1, .inl (by rw [hev]; exact h.2)⟩
          · exact ⟨rfl, .inr (.inr (hhg.2 e.symm))⟩
        · rintro ⟨h, _⟩; exact .inr h
      · rename_i e
        refine (hown1 g').congr fun i hi => Iff.trans ?_ (hold i hi g')
        refine or_congr_right (and_congr_right fun _ => ⟨fun h => .inl (by rw [hev]; exact h), fun h => ?_⟩)
        rcases h with h | h | h
        · rw [hev] at h; exact h
        · rw [hev] at h; simp at h
        · exact absurd (hhg.1 h).symm e
    · rw [if_neg hc]
      refine ⟨hown0 fun g' h => ?_, hmu0 h4, ham0 hak', hpp⟩
      rcases h with h | h | h
      · rw [hev] at h; exact h
      · rw [hev] at h; simp at h
      · obtain ⟨h1, s', h2, h3, h4, _⟩ := (hhand' g').1 h
        have := cq_lt h2 h3
        exact absurd ⟨h1, by omega⟩ hc
  rw [if_neg h6]
  refine ⟨hown0 fun g' h => ?_, hmu0 h4, ham0 hak', hpp0 h5 h6⟩
  rcases h with h | h | h
  · rw [hev] at h; exact h
  · rw [hev] at h; exact absurd h.1 h10
  · exact absurd ((hhand g').1 h).1 h6

theorem tells_all {rooms : List Int} {l : List Ev} (hl : ∀ e ∈ l, 0 ≤ e.g) : ∀ k, k ≤ l.length → Tells rooms l (clocksL rooms l) k (stateL rooms WS.init (l.take k))
  | 0, _ => by rw [List.take_zero]; exact tells_init rooms l _
  | k + 1, hk => by
    have ih := tells_all (rooms := rooms) hl k (by omega)
    rw [take_snoc_ev' (show k < l.length by omega), stateL_snoc]
    exact tells_step ih (by omega) (hl _ (getD_mem (by omega))) (clocksL_getD' rooms (by omega))

/-! ### a clock counts what happens before -/
theorem upB_down {rooms : List Int} {l : List Ev} {j : Nat} {h : Int} {i m : Nat} (him : i < m) (hp : upB rooms l j h m = true) (hq : (l.getD i default).g = h) : upB rooms l j h i = true := by
  unfold upB at hp ⊢
  simp only [Bool.and_eq_true, Bool.or_eq_true, decide_eq_true_eq] at hp ⊢
  refine ⟨.inr ?_, hq⟩
  have hd : hbL rooms l i m = true := hbD_dir him (by unfold dirL; rw [hq, hp.2]; simp)
  rcases hp.1 with h1 | h1
  · rw [h1] at hd; exact hd
  · exact hbD_trans hd j h1
theorem upB_le {rooms : List Int} {l : List Ev} {j : Nat} {h : Int} {i : Nat} (hp : upB rooms l j h i = true) : i ≤ j := by
  unfold upB at hp
  simp only [Bool.and_eq_true, Bool.or_eq_true, decide_eq_true_eq] at hp
  rcases hp.1 with h1 | h1
  · omega
  · have := hbD_lt j h1; omega
theorem ckL_any {rooms : List Int} {l : List Ev} {j n : Nat} {h : Int} (hj : j < n) : cq (upB rooms l j h) n = ckL rooms l j h := by
  unfold ckL
  refine cq_stop hj fun i h1 _ => ?_
  cases hp : upB rooms l j h i with
  | false => rfl
  | true => have := upB_le hp; omega
def gB (l : List Ev) (h : Int) (i : Nat) : Bool := decide ((l.getD i default).g = h)
theorem upB_rank {rooms : List Int} {l : List Ev} {j n : Nat} {h : Int} (hj : j < n) {m : Nat} (hm : m < n) (hg : (l.getD m default).g = h) : upB rooms l j h m = true ↔ cq (gB l h) (m + 1) ≤ ckL rooms l j h := by
  rw [← ckL_any hj]
  refine first_part (p := upB rooms l j h) (q := gB l h) (fun i _ hp => ?_) (fun i m' him _ hp hq => upB_down him hp (by simpa [gB] using hq)) hm (by simp only [gB, decide_eq_true_eq]; exact hg)
  unfold upB at hp
  simp only [Bool.and_eq_true, decide_eq_true_eq] at hp
  simp only [gB, decide_eq_true_eq]
  exact hp.2
/-- An event's clock, number by number. -/
theorem clock_counts {rooms : List Int} {l : List Ev} (hl : ∀ e ∈ l, 0 ≤ e.g) : ∀ (j : Nat), j < l.length → ∀ h, getL ((clocksL rooms l).getD j []) h = ckL rooms l j h := by
  intro j
  induction j using Nat.strongRecOn with
  | _ j ih =>
    intro hj h
    have hT := tells_all (rooms := rooms) hl j (by omega)
    have hS := comes_sup hT hj
    have hcl := clocksL_getD' rooms hj
    have hg := hl _ (getD_mem (d := default) hj)
    generalize hX : comesL rooms (stateL rooms WS.init (l.take j)) (l.getD j default) = X at hS
    have hget : getL ((clocksL rooms l).getD j []) h = getL X h + if (l.getD j default).g = h then 1 else 0 := by
      rw [hcl]; unfold clockL; rw [hX, getL_tickL hg]
      by_cases e : h = (l.getD j default).g
      · rw [if_pos e, if_pos e.symm, e]
      · rw [if_neg e, if_neg (fun e' => e e'.symm)]; omega
    have hx0 := getL_nonneg X h
    obtain ⟨c, hc⟩ := Int.eq_ofNat_of_zero_le hx0
    -- who is below j
    have hmem : ∀ m, m < j → (upB rooms l j h m = true ↔ (gB l h m && decide (cq (gB l h) (m + 1) ≤ c)) = true) := fun m hm => by
      simp only [Bool.and_eq_true, decide_eq_true_eq]
      constructor
      · intro hp
        have hp' := hp
        unfold upB at hp
        simp only [Bool.and_eq_true, Bool.or_eq_true, decide_eq_true_eq] at hp
        have hgm : gB l h m = true := by simp only [gB, decide_eq_true_eq]; exact hp.2
        refine ⟨hgm, ?_⟩
        have hb : hbL rooms l m j = true := hp.1.resolve_left (by omega)
        obtain ⟨i, hi, hd, hmi⟩ := hbD_iff.1 hb
        have h1 := hS.1 i hi hd h
        rw [ih i hi (by omega) h, hc] at h1
        have hup : upB rooms l i h m = true := by
          unfold upB
          simp only [Bool.and_eq_true, Bool.or_eq_true, decide_eq_true_eq]
          exact ⟨hmi.imp (fun e => e.symm) id, hp.2⟩
        have h2 := (upB_rank (n := j) hi hm hp.2).1 hup
        omega
      · rintro ⟨hgm, hle⟩
        have hgm' : (l.getD m default).g = h := by simpa only [gB, decide_eq_true_eq] using hgm
        have hpos : 0 < cq (gB l h) (m + 1) := by rw [cq_succ, hgm]; simp
        rcases hS.2 h with h0 | ⟨i, hi, hd, h1⟩
        · omega
        · rw [ih i hi (by omega) h, hc] at h1
          have hup := (upB_rank (rooms := rooms) (n := j) hi hm hgm').2 (by omega)
          unfold upB at hup ⊢
          simp only [Bool.and_eq_true, Bool.or_eq_true, decide_eq_true_eq] at hup ⊢
          refine ⟨.inr (hbD_iff.2 ⟨i, hi, hd, hup.1.imp (fun e => e.symm) id⟩), hup.2⟩
    have hcount : cq (upB rooms l j h) j = c := by
      rw [cq_congr (q := fun m => gB l h m && decide (cq (gB l h) (m + 1) ≤ c)) (fun m hm => Bool.eq_iff_iff.2 (hmem m hm)), cq_rank]
      have hle : c ≤ cq (gB l h) j := by
        rcases hS.2 h with h0 | ⟨i, hi, hd, h1⟩
        · omega
        · rw [ih i hi (by omega) h, hc] at h1
          have h2 : ckL rooms l i h ≤ cq (gB l h) j := by
            rw [← ckL_any hi]
            refine cq_sub fun m _ hp => ?_
            unfold upB at hp
            simp only [Bool.and_eq_true, decide_eq_true_eq] at hp
            simp only [gB, decide_eq_true_eq]
            exact hp.2
          omega
      omega
    rw [hget, hc]
    unfold ckL
    have hb : upB rooms l j h j = decide ((l.getD j default).g = h) := by unfold upB; rw [decide_eq_true (rfl : j = j), Bool.true_or, Bool.true_and]
    rw [cq_succ, hcount, hb]
    by_cases e : (l.getD j default).g = h
    · rw [if_pos e, if_pos (decide_eq_true e)]; omega
    · rw [if_neg e, if_neg (by rw [decide_eq_false e]; decide)]; omega
/-- What the clocks tell is what happens before. -/
theorem ahead_hb {rooms : List Int} {l : List Ev} (hl : ∀ e ∈ l, 0 ≤ e.g) {i j : Nat} (hij : i < j) (hj : j < l.length) : aheadL l (clocksL rooms l) i j = hbL rooms l i j := by
  rw [Bool.eq_iff_iff]
  unfold aheadL
  rw [decide_eq_true_eq, clock_counts hl i (by omega), clock_counts hl j hj]
  have h1 : cq (gB l (l.getD i default).g) (i + 1) = ckL rooms l i (l.getD i default).g := by
    unfold ckL
    refine cq_congr fun m hm => ?_
    rw [Bool.eq_iff_iff]
    constructor
    · intro hg
      by_cases e : m = i
      · rw [e]; unfold upB; simp
      · exact upB_down (m := i) (by omega) (by unfold upB; simp) (by simpa only [gB, decide_eq_true_eq] using hg)
    · intro hp
      unfold upB at hp
      simp only [Bool.and_eq_true, decide_eq_true_eq] at hp
      simp only [gB, decide_eq_true_eq]
      exact hp.2
  have h2 := upB_rank (rooms := rooms) (l := l) (j := j) (n := j + 1) (m := i) (by omega) (by omega) rfl
  rw [h1] at h2
  have h3 : upB rooms l j (l.getD i default).g i = true ↔ hbL rooms l i j = true := by
    unfold upB
    simp only [Bool.and_eq_true, Bool.or_eq_true, decide_eq_true_eq, and_true]
    exact ⟨fun h => h.resolve_left (by omega), .inr⟩
  rw [← h3, h2]
  omega
end Go.Proofs.YtkjbpkggcddnhaaDoor
