/- Maps keyed by ints whose elements are whatever values: what stands at each key. No program in sight. -/
import Derived.Test.YtkjbpkggcddnhaaDoorCore
import Derived.Maps.OwnSet
import Derived.Maps.OwnOps
namespace Go.Proofs.YtkjbpkggcddnhaaDoor
set_option linter.unusedVariables false
set_option linter.unusedSimpArgs false
open Go.RowKit Go.Maps

/-- An element as it stands. -/
def rawR (v : Value) : Option (DataW Value × List MemPlace) := some (.held v, [])
abbrev ki (i : Int) : Lit := .int .i64 i
def upd {α : Type} (f : Int → α) (i : Int) (v : α) : Int → α := fun j => if j = i then v else f j
theorem upd_same {α : Type} (f : Int → α) (i : Int) (v : α) : upd f i v i = v := by simp [upd]
theorem upd_other {α : Type} (f : Int → α) {i j : Int} (v : α) (h : j ≠ i) : upd f i v j = f j := by simp [upd, h]

/-- Block b is a map of at most n entries: f i stands at key i. -/
def RMap (w : World) (P : Program) (k : TypeId) (b n : Nat) (f : Int → Option Value) : Prop :=
  ∃ D, w.ownsMap P k rawR b n D ∧ ∀ i, (f i = none → Maps.has D (ki i) = false) ∧ ∀ v, f i = some v → Maps.has D (ki i) = true ∧ ∀ z, D.atKey (ki i) z = .held v

section
variable {w : World} {P : Program} {k : TypeId} {b n : Nat} {f : Int → Option Value}
theorem RMap.made (w : World) (P : Program) (k : TypeId) : RMap (w.alloc (.map #[] 0)) P k w.heap.size 0 (fun _ => none) :=
  ⟨.map [], World.ownsMap_made w P k rawR, fun _ => ⟨fun _ => rfl, fun v h => by cases h⟩⟩
theorem RMap.lt (h : RMap w P k b n f) : b < w.heap.size := by obtain ⟨D, h, _⟩ := h; exact h.lt
theorem RMap.kept {S : Nat → Prop} {w' : World} (h : RMap w P k b n f) (hc : Chg S w w') (hs : ¬ S b) : RMap w' P k b n f := by
  have hlt := h.lt
  obtain ⟨D, ⟨es, clock, hb, F, hz, hD⟩, hf⟩ := h
  exact ⟨D, ⟨es, clock, (hc.block b hlt hs).trans hb, F, hz, hD⟩, hf⟩
theorem RMap.same {w' : World} (h : RMap w P k b n f) (hb : w'.heap[b]? = w.heap[b]?) : RMap w' P k b n f := by
  obtain ⟨D, ⟨es, clock, hb', F, hz, hD⟩, hf⟩ := h
  exact ⟨D, ⟨es, clock, hb.trans hb', F, hz, hD⟩, hf⟩
theorem RMap.mono {m : Nat} (h : RMap w P k b n f) (hm : n ≤ m) : RMap w P k b m f := by
  obtain ⟨D, h, hf⟩ := h; exact ⟨D, h.mono hm, hf⟩
theorem RMap.lookup {t e : TypeId} (h : RMap w P k b n f) (hk : P.underlying k = some (.int .i64)) (ht : P.underlying t = some (.map k e)) {z : Value} (hz : (zeroValue e).run P w = .ok z w)
    {i : Int} (hi : (Lit.int .i64 i).wf = true) : (Instr.lookup t (.map (some b)) (.int .i64 i) false).run P w = .ok ((f i).getD z) w := by
  obtain ⟨D, hown, hf⟩ := h
  obtain ⟨v, ps, hrun, hv⟩ := hown.lookup (int_keyed hk) ht hz (zd := .held z) (zp := []) rfl (keyOf_int_mk hk hi)
  rw [hrun]
  simp only [rawR, Option.some.injEq, Prod.mk.injEq] at hv
  cases hfi : f i with
  | none =>
    have h1 := atKey_of_not_has ((hf i).1 hfi) (.held z)
    rw [h1] at hv
    have := hv.1
    simp at this
    simp [this]
  | some u =>
    have h1 := ((hf i).2 u hfi).2 (.held z)
    rw [h1] at hv
    have := hv.1
    simp at this
    simp [this]
theorem RMap.lookup_ok {t e : TypeId} (h : RMap w P k b n f) (hk : P.underlying k = some (.int .i64)) (ht : P.underlying t = some (.map k e)) {z : Value} (hz : (zeroValue e).run P w = .ok z w)
    {i : Int} (hi : (Lit.int .i64 i).wf = true) : (Instr.lookup t (.map (some b)) (.int .i64 i) true).run P w = .ok (.tuple #[(f i).getD z, .bool (f i).isSome]) w := by
  obtain ⟨D, hown, hf⟩ := h
  obtain ⟨v, ps, hrun, hv⟩ := hown.look_ok (int_keyed hk) ht hz (zd := .held z) (zp := []) rfl (keyOf_int_mk hk hi)
  rw [hrun]
  simp only [rawR, Option.some.injEq, Prod.mk.injEq] at hv
  cases hfi : f i with
  | none =>
    have h0 := (hf i).1 hfi
    have h1 := atKey_of_not_has h0 (.held z)
    rw [h1] at hv
    have := hv.1
    simp at this
    simp [this, h0]
  | some u =>
    have h0 := ((hf i).2 u hfi).1
    have h1 := ((hf i).2 u hfi).2 (.held z)
    rw [h1] at hv
    have := hv.1
    simp at this
    simp [this, h0]
theorem RMap.update {t e : TypeId} (h : RMap w P k b n f) (hk : P.underlying k = some (.int .i64)) (ht : P.underlying t = some (.map k e)) (hn : n < maxLen)
    {i : Int} (hi : (Lit.int .i64 i).wf = true) (v : Value) : ∃ w', (Instr.mapUpdate t (.map (some b)) (.int .i64 i) v).run P w = .ok () w' ∧ RMap w' P k b (n + 1) (upd f i (some v)) ∧ w.grownBy w' (some b) := by
  obtain ⟨D, hown, hf⟩ := h
  obtain ⟨w', hrun, hown', hg⟩ := hown.update (int_keyed hk) ht hn (keyOf_int_mk hk hi) (val := v) (d := .held v) (ps := []) rfl
  refine ⟨w', hrun, ⟨D.put (ki i) (.held v), hown', fun j => ?_⟩, hg⟩
  by_cases hj : j = i
  · subst hj
    rw [upd_same]
    refine ⟨fun h => (by cases h), fun u hu => ?_⟩
    cases hu
    exact ⟨has_put_same hown.isMap (show WideAt.IsKeyLit (ki j) from trivial) _, fun z => atKey_put_same hown.isMap (show WideAt.IsKeyLit (ki j) from trivial) _ _⟩
  · have hne : ki j ≠ ki i := by intro h; cases h; exact hj rfl
    rw [upd_other _ _ hj, has_put_other hne]
    exact ⟨(hf j).1, fun u hu => ⟨((hf j).2 u hu).1, fun z => by rw [atKey_put_other hne]; exact ((hf j).2 u hu).2 z⟩⟩
theorem RMap.drop {t e : TypeId} (h : RMap w P k b n f) (hk : P.underlying k = some (.int .i64)) (ht : P.underlying t = some (.map k e))
    {i : Int} (hi : (Lit.int .i64 i).wf = true) (ty : TypeId) : ∃ w', (Builtin.delete_ #[t, k] ty #[.map (some b), .int .i64 i]).run P w = .ok (.tuple #[]) w' ∧ RMap w' P k b n (upd f i none) ∧ w.grownBy w' (some b) := by
  obtain ⟨D, hown, hf⟩ := h
  obtain ⟨w', hrun, hown', hg⟩ := hown.drop (int_keyed hk) ht (keyOf_int_mk hk hi) ty
  refine ⟨w', hrun, ⟨D.del (ki i), hown', fun j => ?_⟩, hg.grown⟩
  by_cases hj : j = i
  · subst hj
    rw [upd_same]
    exact ⟨fun _ => has_del_same, fun u hu => by cases hu⟩
  · have hne : ki j ≠ ki i := by intro h; cases h; exact hj rfl
    rw [upd_other _ _ hj, has_del_other hne]
    exact ⟨(hf j).1, fun u hu => ⟨((hf j).2 u hu).1, fun z => by rw [atKey_del_other hne]; exact ((hf j).2 u hu).2 z⟩⟩
end

/-- 'm[i] = v' at the operation. -/
theorem wpList_mapUpdate_raw {P : Program} (w : World) {ops : Array Oper} {rest : List Oper} {o : Oper} {a : Act} {Q : Exit → Act → World → Prop}
    (hg : o.guard = none) (m x v : Operand) (t : TypeId) (hop : o.op = Op.mapUpdate t m x v)
    (k e : TypeId) (hk : P.underlying k = some (.int .i64)) (ht : P.underlying t = some (.map k e)) (b n : Nat) (f : Int → Option Value)
    (hm : a.eval m = .map (some b)) (hown : RMap w P k b n f) (hn : n < maxLen) (i : Int) (val : Value) (hx : a.eval x = .int .i64 i) (hv : a.eval v = val) (hi : (Lit.int .i64 i).wf = true)
    (hK : ∀ w', RMap w' P k b (n + 1) (upd f i (some val)) → w.grownBy w' (some b) → wpList P ops Q rest (a.put o.dst undef) w') :
    wpList P ops Q (o :: rest) a w := by
  refine wpList_plain hg fun K' hK' => ?_
  obtain ⟨w', hrun, r1, r2⟩ := hown.update hk ht hn hi val
  unfold Oper.wp
  simp only [execOp, hop, hm, hx, hv, Sem.run_bind, hrun, Result.andThen]
  exact hK' _ _ (hK w' r1 r2)
end Go.Proofs.YtkjbpkggcddnhaaDoor
