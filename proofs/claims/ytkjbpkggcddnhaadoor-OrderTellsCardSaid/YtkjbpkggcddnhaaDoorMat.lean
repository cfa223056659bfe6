/- A square of bools in memory, as the reference's Before makes it; what its rows say while they are made. No walk. -/
import Derived.Test.YtkjbpkggcddnhaaDoorTells
import Derived.Test.YtkjbpkggcddnhaaDoorEvHead
import Derived.Test.YtkjbpkggcddnhaaDoorAppend
namespace Go.Proofs.YtkjbpkggcddnhaaDoor
set_option linter.unusedVariables false
set_option linter.unusedSimpArgs false
open Go.RowKit

/-! ### the rows while they are made -/
def partB (D : Nat → Nat → Bool) (i j k : Nat) : Bool := (List.range j).any fun m => decide (i ≤ m) && D m j && (decide (m = k) || hbD D k m)
theorem partB_iff {D : Nat → Nat → Bool} {i j k : Nat} : partB D i j k = true ↔ ∃ m, m < j ∧ i ≤ m ∧ D m j = true ∧ (m = k ∨ hbD D k m = true) := by
  unfold partB
  rw [List.any_eq_true]
  simp only [Bool.and_eq_true, Bool.or_eq_true, decide_eq_true_eq, List.mem_range, and_assoc]
theorem partB_top (D : Nat → Nat → Bool) (j k : Nat) : partB D j j k = false := by
  cases h : partB D j j k with
  | false => rfl
  | true => obtain ⟨m, h1, h2, _⟩ := partB_iff.1 h; omega
theorem partB_zero (D : Nat → Nat → Bool) (j k : Nat) : partB D 0 j k = hbD D k j := by
  rw [Bool.eq_iff_iff, partB_iff, hbD_iff]
  exact ⟨fun ⟨m, h1, _, h3, h4⟩ => ⟨m, h1, h3, h4⟩, fun ⟨m, h1, h3, h4⟩ => ⟨m, h1, Nat.zero_le _, h3, h4⟩⟩
theorem partB_no {D : Nat → Nat → Bool} {i j : Nat} (hD : D i j = false) (k : Nat) : partB D i j k = partB D (i + 1) j k := by
  rw [Bool.eq_iff_iff, partB_iff, partB_iff]
  constructor
  · rintro ⟨m, h1, h2, h3, h4⟩
    refine ⟨m, h1, ?_, h3, h4⟩
    by_cases e : m = i
    · rw [e, hD] at h3; cases h3
    · omega
  · rintro ⟨m, h1, h2, h3, h4⟩; exact ⟨m, h1, by omega, h3, h4⟩
theorem partB_has {D : Nat → Nat → Bool} {i j : Nat} (h : partB D (i + 1) j i = true) (k : Nat) : partB D i j k = partB D (i + 1) j k := by
  obtain ⟨p, hp1, hp2, hp3, hp4⟩ := partB_iff.1 h
  have hip : hbD D i p = true := hp4.resolve_left (by omega)
  rw [Bool.eq_iff_iff, partB_iff, partB_iff]
  constructor
  · rintro ⟨m, h1, h2, h3, h4⟩
    by_cases e : m = i
    · subst e
      refine ⟨p, hp1, hp2, hp3, .inr ?_⟩
      rcases h4 with h4 | h4
      · rw [← h4]; exact hip
      · exact hbD_trans h4 p hip
    · exact ⟨m, h1, by omega, h3, h4⟩
  · rintro ⟨m, h1, h2, h3, h4⟩; exact ⟨m, h1, by omega, h3, h4⟩
theorem partB_new {D : Nat → Nat → Bool} {i j : Nat} (hij : i < j) (hD : D i j = true) (k : Nat) : partB D i j k = (partB D (i + 1) j k || (decide (i = k) || hbD D k i)) := by
  rw [Bool.eq_iff_iff]
  simp only [Bool.or_eq_true, partB_iff, decide_eq_true_eq]
  constructor
  · rintro ⟨m, h1, h2, h3, h4⟩
    by_cases e : m = i
    · subst e; exact .inr h4
    · exact .inl ⟨m, h1, by omega, h3, h4⟩
  · rintro (⟨m, h1, h2, h3, h4⟩ | h)
    · exact ⟨m, h1, by omega, h3, h4⟩
    · exact ⟨i, hij, Nat.le_refl _, hD, h⟩
/-- The new row while it takes in row i: up to k. -/
def takeB (D : Nat → Nat → Bool) (i j k k' : Nat) : Bool := if k' < k then partB D (i + 1) j k' || hbD D k' i else if k' = i then true else partB D (i + 1) j k'
theorem takeB_zero (D : Nat → Nat → Bool) (i j k' : Nat) : takeB D i j 0 k' = if k' = i then true else partB D (i + 1) j k' := by unfold takeB; rw [if_neg (Nat.not_lt_zero _)]
theorem takeB_end {D : Nat → Nat → Bool} {i j : Nat} (hij : i < j) (hD : D i j = true) (k' : Nat) : takeB D i j i k' = partB D i j k' := by
  rw [partB_new hij hD]
  unfold takeB
  by_cases h1 : k' < i
  · rw [if_pos h1, decide_eq_false (by omega : ¬ i = k'), Bool.false_or]
  · rw [if_neg h1]
    by_cases h2 : k' = i
    · rw [if_pos h2, decide_eq_true h2.symm]; simp
    · rw [if_neg h2]
      have : hbD D k' i = false := by
        cases h : hbD D k' i with
        | false => rfl
        | true => have := hbD_lt i h; omega
      rw [this, decide_eq_false (fun e => h2 e.symm)]; simp
theorem takeB_step {D : Nat → Nat → Bool} {i j k : Nat} (hk : k < i) (k' : Nat) : takeB D i j (k + 1) k' = if k' = k then (takeB D i j k k || hbD D k i) else takeB D i j k k' := by
  unfold takeB
  by_cases h1 : k' = k
  · rw [if_pos h1, h1, if_pos (by omega), if_neg (by omega), if_neg (by omega)]
  · rw [if_neg h1]
    by_cases h2 : k' < k
    · rw [if_pos (by omega), if_pos h2]
    · rw [if_neg (by omega), if_neg h2]

/-! ### in memory -/
def upd2 (M : Nat → Nat → Bool) (j k : Nat) (b : Bool) : Nat → Nat → Bool := fun j' k' => if j' = j ∧ k' = k then b else M j' k'
structure Mat (w0 : World) (O n cnt : Nat) (R : Nat → Nat) (M : Nat → Nat → Bool) (wr : World) : Prop where
  below : Below w0.heap.size w0 wr
  og : w0.heap.size ≤ O
  olt : O < wr.heap.size
  rg : ∀ j, j < cnt → w0.heap.size ≤ R j ∧ R j < wr.heap.size ∧ R j ≠ O
  rne : ∀ i j, i < cnt → j < cnt → i ≠ j → R i ≠ R j
  row : ∀ j, j < cnt → wr.cell? ⟨O, j, none⟩ = some (.slice (some ⟨R j, 0, none⟩) n n)
  rest : ∀ j, cnt ≤ j → j < n → wr.cell? ⟨O, j, none⟩ = some (.slice none 0 0)
  ofz : ∀ o, wr.frozen? ⟨O, o, none⟩ = false
  cell : ∀ j k, j < cnt → k < n → wr.cell? ⟨R j, k, none⟩ = some (.bool (M j k))
  rfz : ∀ j o, j < cnt → wr.frozen? ⟨R j, o, none⟩ = false
section
variable {w0 wr wb : World} {O n cnt : Nat} {R : Nat → Nat} {M : Nat → Nat → Bool}
theorem Mat.kept {S : Nat → Prop} (h : Mat w0 O n cnt R M wr) (hc : Chg S wr wb) (hO : ¬ S O) (hR : ∀ j, j < cnt → ¬ S (R j)) (hb : Below w0.heap.size w0 wb) : Mat w0 O n cnt R M wb :=
  ⟨hb, h.og, Nat.lt_of_lt_of_le h.olt hc.size, fun j hj => ⟨(h.rg j hj).1, Nat.lt_of_lt_of_le (h.rg j hj).2.1 hc.size, (h.rg j hj).2.2⟩, h.rne,
    fun j hj => hc.cell (h.row j hj) hO, fun j h1 h2 => hc.cell (h.rest j h1 h2) hO, fun o => (hc.frozen (a := ⟨O, o, none⟩) h.olt hO).trans (h.ofz o),
    fun j k hj hk => hc.cell (h.cell j k hj hk) (hR j hj), fun j o hj => (hc.frozen (a := ⟨R j, o, none⟩) (h.rg j hj).2.1 (hR j hj)).trans (h.rfz j o hj)⟩
theorem Mat.new (h : Mat w0 O n cnt R M wr) (hb : Below wr.heap.size wr wb) : Mat w0 O n cnt R M wb :=
  h.kept (S := fun _ => False) (Chg.of_new hb) id (fun _ _ => id) (h.below.trans (hb.mono h.below.size))
theorem Mat.congr {M' : Nat → Nat → Bool} (h : Mat w0 O n cnt R M wr) (hM : ∀ j k, j < cnt → k < n → M j k = M' j k) : Mat w0 O n cnt R M' wr :=
  ⟨h.below, h.og, h.olt, h.rg, h.rne, h.row, h.rest, h.ofz, fun j k hj hk => by rw [← hM j k hj hk]; exact h.cell j k hj hk, h.rfz⟩
theorem Mat.set (h : Mat w0 O n cnt R M wr) {j k : Nat} (hj : j < cnt) (hk : k < n) (b : Bool) : Mat w0 O n cnt R (upd2 M j k b) (wr.setCell ⟨R j, k, none⟩ (.bool b)) := by
  have hc : Chg (fun x => x = R j) wr (wr.setCell ⟨R j, k, none⟩ (.bool b)) := Chg.setCell (S := fun x => x = R j) wr (p := ⟨R j, k, none⟩) (.bool b) rfl
  have hsz : (wr.setCell ⟨R j, k, none⟩ (.bool b)).heap.size = wr.heap.size := by simp [World.setCell]
  have hO : ¬ O = R j := fun e => (h.rg j hj).2.2 e.symm
  refine ⟨h.below.setCell (h.rg j hj).1 _, h.og, by rw [hsz]; exact h.olt, fun i hi => ⟨(h.rg i hi).1, by rw [hsz]; exact (h.rg i hi).2.1, (h.rg i hi).2.2⟩, h.rne,
    fun i hi => hc.cell (h.row i hi) hO, fun i h1 h2 => hc.cell (h.rest i h1 h2) hO, fun o => (hc.frozen (a := ⟨O, o, none⟩) h.olt hO).trans (h.ofz o), fun i m hi hm => ?_, fun i o hi => ?_⟩
  · unfold upd2
    by_cases e : i = j
    · subst e
      by_cases e2 : m = k
      · subst e2
        rw [if_pos ⟨rfl, rfl⟩]
        exact World.cell?_setCell_same _ _ _ (h.cell i m hi hm)
      · rw [if_neg (fun h => e2 h.2), World.cell?_setCell_other wr ⟨R i, k, none⟩ ⟨R i, m, none⟩ _ (fun e => e2 (congrArg Addr.off e).symm)]
        exact h.cell i m hi hm
    · rw [if_neg (fun h => e h.1)]
      exact hc.cell (h.cell i m hi hm) (h.rne i j hi hj e)
  · rw [World.frozen?_setCell]
    exact h.rfz i o hi
/-- A row more: block B is new, all false; its slice is stored. -/
theorem Mat.push (h : Mat w0 O n cnt R M wr) (hcn : cnt < n) {B : Nat} (hB : wr.heap.size ≤ B) (hg : wr.grownBy wb none) (hBl : B < wb.heap.size) (hcell : ∀ k, k < n → wb.cell? ⟨B, k, none⟩ = some (.bool false)) (hfz : ∀ o, wb.frozen? ⟨B, o, none⟩ = false) :
    Mat w0 O n (cnt + 1) (fun j => if j = cnt then B else R j) (fun j k => if j = cnt then false else M j k) (wb.setCell ⟨O, cnt, none⟩ (.slice (some ⟨B, 0, none⟩) n n)) := by
  have hb0 : Below w0.heap.size w0 wb := h.below.grown hg h.below.size (fun k hk => by cases hk)
  have hc0 : Chg (fun _ => False) wr wb := Chg.grown hg (fun k hk => by cases hk)
  have h1 := h.kept hc0 id (fun _ _ => id) hb0
  have hc : Chg (fun x => x = O) wb (wb.setCell ⟨O, cnt, none⟩ (.slice (some ⟨B, 0, none⟩) n n)) := Chg.setCell (S := fun x => x = O) wb (p := ⟨O, cnt, none⟩) _ rfl
  have hsz : (wb.setCell ⟨O, cnt, none⟩ (.slice (some ⟨B, 0, none⟩) n n)).heap.size = wb.heap.size := by simp [World.setCell]
  have hBO : B ≠ O := by have := h.olt; omega
  have hBR : ∀ j, j < cnt → R j ≠ B := fun j hj => by have := (h.rg j hj).2.1; omega
  have hg0 := h.below.size
  refine ⟨h1.below.setCell h.og _, h.og, by rw [hsz]; exact h1.olt, fun j hj => ?_, fun i j hi hj hij => ?_, fun j hj => ?_, fun j h2 h3 => ?_, fun o => ?_, fun j k hj hk => ?_, fun j o hj => ?_⟩
  · rw [hsz]
    split
    · exact ⟨by omega, hBl, hBO⟩
    · exact h1.rg j (by omega)
  · split <;> split
    · omega
    · exact fun e => hBR j (by omega) e.symm
    · exact hBR i (by omega)
    · exact h.rne i j (by omega) (by omega) hij
  · split
    · rename_i e
      rw [e]
      exact World.cell?_setCell_same _ _ _ (h1.rest cnt (Nat.le_refl _) hcn)
    · rename_i e
      rw [World.cell?_setCell_other wb ⟨O, cnt, none⟩ ⟨O, j, none⟩ _ (fun e' => e (congrArg Addr.off e').symm)]
      exact h1.row j (by omega)
  · rw [World.cell?_setCell_other wb ⟨O, cnt, none⟩ ⟨O, j, none⟩ _ (fun e' => by have := congrArg Addr.off e'; simp at this; omega)]
    exact h1.rest j (by omega) h3
  · rw [World.frozen?_setCell]; exact h1.ofz o
  · split
    · exact hc.cell (hcell k hk) hBO
    · exact hc.cell (h1.cell j k (by omega) hk) (h1.rg j (by omega)).2.2
  · rw [World.frozen?_setCell]
    split
    · exact hfz o
    · exact h1.rfz j o (by omega)
end

/-- v reads as the n rows M of n bools each. -/
def MatAt (w : World) (v : Value) (n : Nat) (M : Nat → Nat → Bool) : Prop := ∃ (O : Nat) (R : Nat → Nat), v = .slice (some ⟨O, 0, none⟩) n n ∧ O < w.heap.size ∧ (∀ j, j < n → R j < w.heap.size) ∧
  (∀ j, j < n → w.cell? ⟨O, j, none⟩ = some (.slice (some ⟨R j, 0, none⟩) n n)) ∧ ∀ j k, j < n → k < n → w.cell? ⟨R j, k, none⟩ = some (.bool (M j k))
theorem MatAt.new {w w' : World} {v : Value} {n : Nat} {M : Nat → Nat → Bool} (h : MatAt w v n M) (hb : Below w.heap.size w w') : MatAt w' v n M := by
  obtain ⟨O, R, rfl, h1, h2, h3, h4⟩ := h
  exact ⟨O, R, rfl, Nat.lt_of_lt_of_le h1 hb.size, fun j hj => Nat.lt_of_lt_of_le (h2 j hj) hb.size, fun j hj => (hb.cell (p := ⟨O, j, none⟩) h1).trans (h3 j hj), fun j k hj hk => (hb.cell (p := ⟨R j, k, none⟩) (h2 j hj)).trans (h4 j k hj hk)⟩
theorem Mat.at {w0 wr : World} {O n : Nat} {R : Nat → Nat} {M : Nat → Nat → Bool} (h : Mat w0 O n n R M wr) : MatAt wr (.slice (some ⟨O, 0, none⟩) n n) n M :=
  ⟨O, R, rfl, h.olt, fun j hj => (h.rg j hj).2.1, h.row, h.cell⟩

theorem info_bools : (Tryd.prog.info? 50).map (fun i => (i.zero, i.size, i.bytes)) = some (some (.slice none 0 0), 1, 24) := by kernel_rfl
theorem info_bool : (Tryd.prog.info? 4).map (fun i => (i.zero, i.size, i.bytes)) = some (some (.bool false), 1, 1) := by kernel_rfl
/-- A row that was just made. -/
theorem made_row {w : World} {base b n k e : Nat} {z : Value} (h : w.ownsRow base e 1 (.slice (some ⟨b, 0, none⟩) n k) n (madeCells #[z] n).toList) :
    b < w.heap.size ∧ (∀ j, j < n → w.cell? ⟨b, j, none⟩ = some z) ∧ ∀ j, w.frozen? ⟨b, j, none⟩ = false := by
  rcases h.2 with ⟨h0, _⟩ | ⟨g, cap, cur, he, _, hg, hc, _, hs, ht⟩
  · cases h0
  · cases he
    refine ⟨(Array.getElem?_eq_some_iff.1 hg).1, fun j hj => ?_, fun j => ?_⟩
    · rw [cell_of_row w b j cur _ (0, 0) hg]
      have h1 : cur.toList[j]? = (madeCells #[z] n).toList[j]? := by rw [← ht, List.getElem?_take, if_pos (by omega)]
      rw [← Array.getElem?_toList, h1]
      simp [madeCells, hj, Nat.mod_one]
    · unfold World.frozen?; rw [hg]; simp
end Go.Proofs.YtkjbpkggcddnhaaDoor
