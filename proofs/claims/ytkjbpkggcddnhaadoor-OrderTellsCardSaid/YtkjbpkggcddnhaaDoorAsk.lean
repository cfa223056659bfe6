/- An argument stockadelaw18.Ask opened: a trace, rooms, two numbers. -/
import Derived.Test.YtkjbpkggcddnhaaDoorLawKit
import Derived.Lib.SmallJoins
namespace Go.Proofs.YtkjbpkggcddnhaaDoor
set_option linter.unusedVariables false
set_option linter.unusedSimpArgs false
open Go.ChangeShapes Go.WideShapes Go.ChangeAt Go.WideElems Go.RowKit Go.Deep

set_option maxRecDepth 100000 in
theorem ask_cells : Tryd.prog.cellTypes Tryd.prog.depth 40 = some [22, 23, 3, 3] := by kernel_rfl
set_option maxRecDepth 100000 in
theorem ask_of {H : Type} {enc : TypeId × Value → H} {W : World} {sp : Nat → Bool} {held : Bool} {b0 : Nat} {v : Value} {d : DataW H} {ps : List MemPlace} (hv : Value.okWide Tryd.prog W .any b0 40 v) (h : DataW.Trod enc Tryd.prog W 0 sp held 40 v d ps) :
    ∃ (va vb : Value) (a b : Int) (l : List Ev) (r : List Int), v = .agg #[va, vb, .int .i64 a, .int .i64 b] ∧ Evs W va l ∧ Ints W vb r ∧ (∀ e ∈ l, evWf e) ∧ ∀ z ∈ r, (Lit.int .i64 z).wf = true := by
  obtain ⟨v0, v1, v2, v3, y0, y1, y2, y3, n, rfl, rfl, rfl, t0, t1, t2, t3⟩ := Joins.open_agg4 Tryd.underlying40 (by kernel_rfl) (by kernel_rfl) hv h
  obtain ⟨a, e2, _, w2⟩ := DataW.trod_int Tryd.underlying3 t2
  obtain ⟨b, e3, _, w3⟩ := DataW.trod_int Tryd.underlying3 t3
  obtain rfl := (List.cons.inj e2).1
  obtain rfl := (List.cons.inj e3).1
  unfold Value.okWide at hv
  rw [Tryd.underlying40] at hv
  obtain ⟨cs, hcs, _, ts, hts, _, hall⟩ := hv
  obtain rfl := Value.agg.inj hcs
  obtain rfl := Option.some.inj (ask_cells.symm.trans hts)
  obtain ⟨u0, hu0, ok0⟩ := hall 0 _ rfl
  obtain ⟨u1, hu1, ok1⟩ := hall 1 _ rfl
  obtain rfl : 22 = u0 := Option.some.inj hu0
  obtain rfl : 23 = u1 := Option.some.inj hu1
  obtain ⟨l, hl, hwl⟩ := evs_of ok0 t0
  obtain ⟨r, hr, hwr⟩ := ints_of ok1 t1
  exact ⟨_, _, a, b, l, r, rfl, hl, hr, hwl, hwr⟩
end Go.Proofs.YtkjbpkggcddnhaaDoor
