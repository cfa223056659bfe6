/- The seventeen listed errors: what the rows' condition on them gives; a world that meets it. -/
import Derived.Test.YtkjbpkggcddnhaaDoorNum
namespace Go.Proofs.YtkjbpkggcddnhaaDoor
set_option linter.unusedVariables false
set_option linter.unusedSimpArgs false
open Go.ChangeShapes Go.WideShapes Go.ChangeAt Go.WideElems Go.RowKit Go.Deep

/-- The condition of a row that lists all errors. -/
def laid17 : List (String × DataW Unit) := [("stockade/api.ErrRange", Rows.laid_stockade_api_ErrRange), ("stockade/api.ErrText", Rows.laid_stockade_api_ErrText), ("stockade/api.ErrDepth", Rows.laid_stockade_api_ErrDepth), ("stockade/api.ErrName", Rows.laid_stockade_api_ErrName), ("stockade/api.ErrType", Rows.laid_stockade_api_ErrType), ("stockade/api.ErrLarge", Rows.laid_stockade_api_ErrLarge), ("stockade/api.ErrFull", Rows.laid_stockade_api_ErrFull), ("stockade/api.ErrNone", Rows.laid_stockade_api_ErrNone), ("stockade/api.ErrCode", Rows.laid_stockade_api_ErrCode), ("stockade/api.ErrState", Rows.laid_stockade_api_ErrState), ("stockade/api.ErrFrame", Rows.laid_stockade_api_ErrFrame), ("stockade/api.ErrMac", Rows.laid_stockade_api_ErrMac), ("stockade/api.ErrReplay", Rows.laid_stockade_api_ErrReplay), ("stockade/api.ErrArena", Rows.laid_stockade_api_ErrArena), ("stockade/api.ErrClock", Rows.laid_stockade_api_ErrClock), ("stockade/api.ErrQuota", Rows.laid_stockade_api_ErrQuota), ("stockade/api.ErrTenant", Rows.laid_stockade_api_ErrTenant)]
set_option maxRecDepth 100000 in
theorem g_all : (laid17.map fun x => Tryd.prog.globalNamed x.1) = (List.range 17).map some := by kernel_rfl
set_option maxRecDepth 100000 in
theorem t_all : ((List.range 17).all fun g => (Tryd.prog.globals[g]?).map (·.type) == some 28) = true := by kernel_rfl
theorem sent_all : ∀ x ∈ laid17, ∃ s, x.2 = sentD s := by
  intro x hx
  unfold laid17 at hx
  simp only [List.mem_cons, List.not_mem_nil, or_false] at hx
  rcases hx with rfl | rfl | rfl | rfl | rfl | rfl | rfl | rfl | rfl | rfl | rfl | rfl | rfl | rfl | rfl | rfl | rfl <;> exact ⟨_, rfl⟩
set_option maxRecDepth 100000 in
theorem errs_of_laid {W : World} (h : laidMetH Tryd.prog laid17 W) : ∃ A, ErrsAt W A := by
  rw [MakeChecks.laidMetH_plain _ _ _ (by kernel_rfl)] at h
  obtain ⟨ps, h1, hnd, hrows⟩ := h
  have hgi : ∀ i (x : String × DataW Unit), laid17[i]? = some x → i < 17 ∧ Tryd.prog.globalNamed x.1 = some i := fun i x hx => by
    have hi : i < laid17.length := (List.getElem?_eq_some_iff.1 hx).1
    have h2 := congrArg (fun l => l[i]?) g_all
    simp only [List.getElem?_map, hx, Option.map_some] at h2
    have hi' : i < 17 := hi
    rw [List.getElem?_range hi'] at h2
    exact ⟨hi', by simpa using h2⟩
  obtain ⟨ys, hlen, h2, hsub⟩ := sents_of laid17 ps h1 sent_all (fun x hx g hg => by
    obtain ⟨i, hi, rfl⟩ := List.getElem_of_mem hx
    obtain ⟨hi17, hgi'⟩ := hgi i _ (List.getElem?_eq_getElem hi)
    obtain rfl := Option.some.inj (hgi'.symm.trans hg)
    have := List.all_eq_true.1 t_all i (List.mem_range.2 hi17)
    simpa using this) hrows
  have hnd' := hsub.nodup hnd
  have hyl : ys.length = 17 := hlen
  refine ⟨fun i => (ys.getD i (0, ⟨0, 0, none⟩)).2, fun i hi => ?_, fun i j hi hj hij e => ?_⟩
  · have hil : i < laid17.length := hi
    obtain ⟨y, hy, hg, hs⟩ := h2 i _ (List.getElem?_eq_getElem hil)
    obtain ⟨_, hg'⟩ := hgi i _ (List.getElem?_eq_getElem hil)
    have e1 : y.1 = i := Option.some.inj (hg.symm.trans hg')
    rw [List.getD_eq_getElem?_getD, hy]
    rw [← e1]
    exact hs
  · have hi' : i < ys.length := by omega
    have hj' : j < ys.length := by omega
    rw [List.getD_eq_getElem?_getD, List.getD_eq_getElem?_getD, List.getElem?_eq_getElem hi', List.getElem?_eq_getElem hj'] at e
    simp only [Option.getD_some] at e
    have hp := List.pairwise_iff_getElem.1 hnd'
    rcases Nat.lt_or_gt_of_ne hij with hlt | hlt
    · exact hp i j (by simpa using hi') (by simpa using hj') hlt (by simp [e])
    · exact hp j i (by simpa using hj') (by simpa using hi') hlt (by simp [e])
set_option maxRecDepth 100000 in
theorem door_met17 (os : Os) (args : Array Value) : laidMetH Tryd.prog laid17 ((World.doorLaid Tryd.prog 400 os).forCall (fun _ _ => 0) ⟨#[], args, []⟩).memory :=
  laidMetH_of_parts3 (fuel := 8) (laidMet_of_run' 8 (by kernel_rfl) (by kernel_rfl)) (by kernel_rfl) (by kernel_rfl)
end Go.Proofs.YtkjbpkggcddnhaaDoor
