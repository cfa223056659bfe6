/- The listed errors in memory: what the rows' condition on them gives a walk; a world that meets it. -/
import Derived.Test.YtkjbpkggcddnhaaDoorLawKit
namespace Go.Proofs.YtkjbpkggcddnhaaDoor
set_option linter.unusedVariables false
set_option linter.unusedSimpArgs false
open Go.ChangeShapes Go.WideShapes Go.ChangeAt Go.WideElems Go.RowKit Go.Deep

/-- What a listed error reads as. -/
def sentD (s : List UInt8) : DataW Unit := .iface "*errors.errorString" (.ptr (.agg [.lit (.string s)]))
/-- Variable g holds the error that lies at a. -/
structure Sent (W : World) (g : Nat) (a : Addr) : Prop where
  cell : W.cell? ⟨g, 0, none⟩ = some (.iface 213 (.pointer (some a)))
  blk : ∃ c t, W.heap[a.block]? = some (.cells c t (0, 0))
  str : ∃ s, W.cell? a = some (.string s) ∧ s.size ≤ maxLen

set_option maxRecDepth 100000 in
theorem name_err : Tryd.prog.typeName? 3 213 = some "*errors.errorString" := by kernel_rfl
theorem star_err : "*" ++ "errors.errorString" = "*errors.errorString" := by decide
set_option maxRecDepth 100000 in
theorem row_err (u : TypeId) (h : Tryd.prog.typeName? 3 u = some "*errors.errorString") : u = 213 :=
  typeName_ptr_named (nm := "errors.errorString") (by rw [star_err]; kernel_rfl) (by kernel_rfl) (by decide) u (by rw [star_err]; exact h)
set_option maxRecDepth 100000 in
theorem cells_errS : Tryd.prog.cellsOf 237 = 1 := by kernel_rfl
set_option maxRecDepth 100000 in
theorem cells_str : Tryd.prog.cellsOf 9 = 1 := by kernel_rfl

set_option maxRecDepth 100000 in
theorem sents_of {W : World} : ∀ (l : List (String × DataW Unit)) (ps : List MemPlace), DataW.LaidVars Tryd.prog W l ps →
    (∀ x ∈ l, ∃ s, x.2 = sentD s) → (∀ x ∈ l, ∀ g, Tryd.prog.globalNamed x.1 = some g → (Tryd.prog.globals[g]?).map (·.type) = some 28) →
    (∀ b off, MemPlace.cell b off ∈ ps → (∃ c t, W.heap[b]? = some (.cells c t (0, 0))) ∧ ∀ u v, W.cell? ⟨b, off, none⟩ = some (.iface u v) → Value.okWide Tryd.prog W .any 0 u v) →
    ∃ ys : List (Nat × Addr), ys.length = l.length ∧ (∀ (i : Nat) (x : String × DataW Unit), l[i]? = some x → ∃ y : Nat × Addr, ys[i]? = some y ∧ Tryd.prog.globalNamed x.1 = some y.1 ∧ Sent W y.1 y.2) ∧ (ys.map fun y => MemPlace.cell y.2.block y.2.off).Sublist ps
  | [], ps, h, _, _, _ => ⟨[], rfl, fun i x h => by simp at h, by simp⟩
  | (n, d) :: r, ps, h, hs, hg, hrows => by
    obtain ⟨g, t, cs, fuel, p, q, hg1, ht1, hv1, hd1, hr, rfl⟩ := h
    obtain ⟨s, hs1⟩ := hs (n, d) (List.mem_cons_self ..)
    have ht2 := hg (n, d) (List.mem_cons_self ..) g hg1
    obtain rfl := Option.some.inj (ht1.symm.trans ht2)
    simp only at hs1
    subst hs1
    obtain ⟨l1⟩ := cs
    have hcell0 : ∀ v, l1 = [v] → W.cell? ⟨g, 0, none⟩ = some v := fun v e => by
      subst e
      simpa using World.var?_cell hg1 hv1 0
    have ok : ∀ u v, l1 = [.iface u v] → Value.okWide Tryd.prog W .any 0 u v := fun u v e => by
      have hc := hcell0 _ e
      subst e
      exact (hrows g 0 (by simp [MemPlace.row])).2 u v hc
    obtain ⟨a, s', rfl, hc0, hs0, hz0, rfl⟩ := errorString_of_trod Tryd.underlying28 row_err Tryd.underlying213 Tryd.underlying237 rfl rfl Tryd.underlying9 cells_errS cells_str hd1 ok
    obtain ⟨ys, h1, h2, h3⟩ := sents_of r q hr (fun x hx => hs x (List.mem_cons_of_mem _ hx)) (fun x hx => hg x (List.mem_cons_of_mem _ hx)) (fun b off hb => hrows b off (by simp [hb]))
    have hb0 := (hrows a.block a.off (by simp [MemPlace.row])).1
    refine ⟨(g, a) :: ys, by simp [h1], fun i x hi => ?_, ?_⟩
    · cases i with
      | zero =>
        simp at hi
        subst hi
        exact ⟨(g, a), rfl, hg1, ⟨hcell0 _ rfl, hb0, s', hc0, hz0⟩⟩
      | succ i => exact h2 i x (by simpa using hi)
    · rw [List.map_cons]
      have e1 : MemPlace.row a 1 = [MemPlace.cell a.block a.off] := by simp [MemPlace.row]
      rw [e1, List.append_assoc]
      exact ((h3.cons_cons _).trans (List.sublist_append_right _ _))

/-- The condition of a row that lists the range error alone. -/
def laid1 : List (String × DataW Unit) := [("stockade/api.ErrRange", Rows.laid_stockade_api_ErrRange)]
set_option maxRecDepth 100000 in
theorem g_range : Tryd.prog.globalNamed "stockade/api.ErrRange" = some 0 := by kernel_rfl
set_option maxRecDepth 100000 in
theorem t_range : (Tryd.prog.globals[0]?).map (·.type) = some 28 := by kernel_rfl
set_option maxRecDepth 100000 in
theorem range_of_laid {W : World} (h : laidMetH Tryd.prog laid1 W) : ∃ a, Sent W 0 a := by
  rw [MakeChecks.laidMetH_plain _ _ _ (by kernel_rfl)] at h
  obtain ⟨ps, h1, _, hrows⟩ := h
  obtain ⟨ys, _, h2, _⟩ := sents_of laid1 ps h1 (fun x hx => by obtain rfl := List.mem_singleton.1 hx; exact ⟨_, rfl⟩) (fun x hx g hg => by
    obtain rfl := List.mem_singleton.1 hx
    obtain rfl := Option.some.inj (g_range.symm.trans hg)
    exact t_range) hrows
  obtain ⟨y, _, hy, hs⟩ := h2 0 _ rfl
  obtain ⟨g, a⟩ := y
  obtain rfl := Option.some.inj (g_range.symm.trans hy)
  exact ⟨a, hs⟩
set_option maxRecDepth 100000 in
theorem door_met1 (os : Os) (args : Array Value) : laidMetH Tryd.prog laid1 ((World.doorLaid Tryd.prog 400 os).forCall (fun _ _ => 0) ⟨#[], args, []⟩).memory :=
  laidMetH_of_parts3 (fuel := 8) (laidMet_of_run' 8 (by kernel_rfl) (by kernel_rfl)) (by kernel_rfl) (by kernel_rfl)
end Go.Proofs.YtkjbpkggcddnhaaDoor
