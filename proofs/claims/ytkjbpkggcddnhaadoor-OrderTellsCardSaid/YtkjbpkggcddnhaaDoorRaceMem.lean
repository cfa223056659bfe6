/- What order.Races keeps in memory: the maps of accesses and of races. No walk. -/
import Derived.Test.YtkjbpkggcddnhaaDoorAccs
import Derived.Test.YtkjbpkggcddnhaaDoorAppend
import Derived.Test.YtkjbpkggcddnhaaDoorSorted
namespace Go.Proofs.YtkjbpkggcddnhaaDoor
set_option linter.unusedVariables false
set_option linter.unusedSimpArgs false
open Go.RowKit Go.Maps

def raceV (r : RaceR) : Value := .agg #[.int .i64 r.place, .int .i64 r.first, .int .i64 r.second, .bool r.fw, .bool r.sw]

structure RcInv (w1 : World) (M : Nat) (seen : Int → List Acc) (found : Int → Option RaceR) (n : Nat) (wr : World) (ρ : Nat → Option Int) (f1 f2 : Int → Option Value) : Prop where
  below : Below w1.heap.size w1 wr
  ge : w1.heap.size ≤ M
  m1 : RMap wr Tryd.prog 3 M n f1
  m2 : RMap wr Tryd.prog 3 (M + 1) n f2
  non : ∀ p, f1 p = none → seen p = []
  som : ∀ p v, f1 p = some v → wr.ownsRow 0 84 5 v (seen p).length ((seen p).flatMap accCells) ∧ ∀ b, v.ownBlock = some b → ρ b = some p ∧ M + 1 < b
  fnd : ∀ p, f2 p = (found p).map raceV

section
variable {w1 wr w' : World} {M : Nat} {seen : Int → List Acc} {found : Int → Option RaceR} {n : Nat} {ρ : Nat → Option Int} {f1 f2 : Int → Option Value}
theorem RcInv.row (h : RcInv w1 M seen found n wr ρ f1 f2) (p : Int) : wr.ownsRow 0 84 5 ((f1 p).getD (.slice none 0 0)) (seen p).length ((seen p).flatMap accCells) := by
  cases hf : f1 p with
  | none => rw [h.non p hf]; exact ⟨rfl, .inl ⟨rfl, rfl⟩⟩
  | some v => exact (h.som p v hf).1
theorem RcInv.new (h : RcInv w1 M seen found n wr ρ f1 f2) (hb : Below wr.heap.size wr w') : RcInv w1 M seen found n w' ρ f1 f2 :=
  ⟨h.below.trans (hb.mono h.below.size), h.ge, h.m1.kept (S := fun _ => False) (Chg.of_new hb) id, h.m2.kept (S := fun _ => False) (Chg.of_new hb) id, h.non,
    fun p v hv => ⟨ownsRow_chg (h.som p v hv).1 (Chg.of_new (S := fun _ => False) hb) (fun _ _ h => h), (h.som p v hv).2⟩, h.fnd⟩
theorem RcInv.mono (h : RcInv w1 M seen found n wr ρ f1 f2) {n' : Nat} (hn : n ≤ n') : RcInv w1 M seen found n' wr ρ f1 f2 :=
  ⟨h.below, h.ge, h.m1.mono hn, h.m2.mono hn, h.non, h.som, h.fnd⟩
/-- An access more. -/
theorem RcInv.push (h : RcInv w1 M seen found n wr ρ f1 f2) {p : Int} {a : Acc} {v' : Value} {wb wc : World} (hown : wb.ownsRow 0 84 5 v' ((seen p).length + 1) ((seen p).flatMap accCells ++ accCells a))
    (hg : wr.grownBy wb ((f1 p).getD (.slice none 0 0)).ownBlock) (hl : Lies wr ((f1 p).getD (.slice none 0 0)) v') (hm : RMap wc Tryd.prog 3 M (n + 1) (upd f1 p (some v'))) (hgc : wb.grownBy wc (some M)) :
    ∃ ρ', RcInv w1 M (upd seen p (seen p ++ [a])) found (n + 1) wc ρ' (upd f1 p (some v')) f2 := by
  have hlt1 := h.m1.lt
  have hlt2 := h.m2.lt
  have hs := h.below.size
  have hgs := hg.size
  have hold : ∀ b, ((f1 p).getD (.slice none 0 0)).ownBlock = some b → ρ b = some p ∧ M + 1 < b ∧ b < wr.heap.size := fun b hb => by
    have hr := (h.row p).lt b hb
    cases hf : f1 p with
    | none => rw [hf] at hb; simp [Value.ownBlock] at hb
    | some v =>
      rw [hf] at hb
      have := (h.som p v hf).2 b hb
      exact ⟨this.1, this.2, hr.2⟩
  have hcg : Chg (fun b => ((f1 p).getD (.slice none 0 0)).ownBlock = some b) wr wb := Chg.grown hg (fun k hk => hk)
  have hcc : Chg (fun b => b = M) wb wc := Chg.grown hgc (fun k hk => by cases hk; rfl)
  have hv' : ∀ b, v'.ownBlock = some b → M + 1 < b ∧ (b < wr.heap.size → ρ b = some p) := fun b hb => by
    rcases hl with e | ⟨q, e, hq⟩
    · rw [e] at hb
      exact ⟨(hold b hb).2.1, fun _ => (hold b hb).1⟩
    · obtain rfl : q = b := by rw [e] at hb; exact Option.some.inj hb
      exact ⟨by omega, fun h => by omega⟩
  refine ⟨fun b => if b < wr.heap.size then ρ b else some p, ?_⟩
  refine ⟨?_, h.ge, hm, ?_, fun q hq => ?_, fun q v hv => ?_, h.fnd⟩
  · refine (h.below.trans (hcg.below hs (fun k hk => ?_))).trans (hcc.below (by omega) (fun k hk => by have := h.ge; omega))
    have := (hold k hk).2.1
    have := h.ge
    omega
  · refine ((h.m2.kept hcg (fun e => ?_)).kept hcc (by omega)).mono (Nat.le_succ n)
    have := (hold _ e).2.1
    omega
  · by_cases hqp : q = p
    · rw [hqp, upd_same] at hq; cases hq
    · rw [upd_other _ _ hqp] at hq ⊢
      exact h.non q hq
  · by_cases hqp : q = p
    · subst hqp
      rw [upd_same] at hv ⊢
      obtain rfl := Option.some.inj hv
      refine ⟨?_, fun b hb => ⟨?_, (hv' b hb).1⟩⟩
      · rw [List.length_append, List.flatMap_append]
        have := ownsRow_chg hown hcc (fun b hb e => by have := (hv' b hb).1; omega)
        simpa using this
      · split
        · rename_i hlt; exact (hv' b hb).2 hlt
        · rfl
    · rw [upd_other _ _ hqp] at hv ⊢
      obtain ⟨ho, hr⟩ := h.som q v hv
      refine ⟨ownsRow_chg (ownsRow_chg ho hcg (fun b hb e => ?_)) hcc (fun b hb e => by have := (hr b hb).2; omega), fun b hb => ⟨?_, (hr b hb).2⟩⟩
      · have h1 := (hr b hb).1
        rw [(hold b e).1] at h1
        exact hqp (Option.some.inj h1).symm
      · rw [if_pos (ho.lt b hb).2]; exact (hr b hb).1
/-- A race found. -/
theorem RcInv.put (h : RcInv w1 M seen found n wr ρ f1 f2) {p : Int} {r : RaceR} {wc : World} (hm : RMap wc Tryd.prog 3 (M + 1) (n + 1) (upd f2 p (some (raceV r)))) (hgc : wr.grownBy wc (some (M + 1))) :
    RcInv w1 M seen (upd found p (some r)) (n + 1) wc ρ f1 (upd f2 p (some (raceV r))) := by
  have hlt1 := h.m1.lt
  have hs := h.below.size
  have hcc : Chg (fun b => b = M + 1) wr wc := Chg.grown hgc (fun k hk => by cases hk; rfl)
  refine ⟨h.below.trans (hcc.below hs (fun k hk => by have := h.ge; omega)), h.ge, (h.m1.kept hcc (by omega)).mono (Nat.le_succ n), hm, h.non, fun q v hv => ?_, fun q => ?_⟩
  · obtain ⟨ho, hr⟩ := h.som q v hv
    exact ⟨ownsRow_chg ho hcc (fun b hb e => by have := (hr b hb).2; omega), hr⟩
  · by_cases hq : q = p
    · rw [hq, upd_same, upd_same]; rfl
    · rw [upd_other _ _ hq, upd_other _ _ hq]; exact h.fnd q
theorem RcInv.made (w1 : World) : RcInv w1 w1.heap.size (fun _ => []) (fun _ => none) 0 ((w1.alloc (.map #[] 0)).alloc (.map #[] 0)) (fun _ => none) (fun _ => none) (fun _ => none) := by
  refine ⟨((Below.refl _ w1).alloc (Nat.le_refl _) _).alloc (by simp) _, Nat.le_refl _, ?_, ?_, fun _ _ => rfl, fun p v hv => (by cases hv), fun _ => rfl⟩
  · exact (RMap.made w1 Tryd.prog 3).kept (S := fun _ => False) (Chg.alloc _ _ _) id
  · have h := RMap.made (w1.alloc (.map #[] 0)) Tryd.prog 3
    simpa using h
end

theorem owns_shape_k {w : World} {base e k : Nat} {v : Value} {n : Nat} {xs : List Value} (h : w.ownsRow base e k v n xs) : ∃ a c, v = .slice a n c := by
  rcases h.2 with ⟨rfl, rfl⟩ | ⟨g, cap, cur, rfl, _⟩
  · exact ⟨_, _, rfl⟩
  · exact ⟨_, _, rfl⟩
theorem zero_accs (w : World) : (zeroValue 85).run Tryd.prog w = .ok (.slice none 0 0) w := by kernel_rfl
theorem zero_race (w : World) : (zeroValue 72).run Tryd.prog w = .ok (raceV ⟨0, 0, 0, false, false⟩) w := by kernel_rfl

theorem filter_take_succ {p : Acc → Bool} {S : List Acc} {j : Nat} (hj : j < S.length) : (S.take (j + 1)).filter p = (S.take j).filter p ++ if p (S.getD j default) then [S.getD j default] else [] := by
  rw [List.take_succ_eq_append_getElem hj, List.filter_append]
  have : S.getD j default = S[j] := by simp [hj]
  rw [this]
  by_cases h : p S[j] = true
  · simp [h]
  · simp [h]

/-- The cells of block B read as event e. -/
structure EvAt (w : World) (B : Nat) (e : Ev) : Prop where
  c0 : w.cell? ⟨B, 0, none⟩ = some (.int .i64 e.g)
  c1 : w.cell? ⟨B, 1, none⟩ = some (.int .i64 e.kind)
  c2 : w.cell? ⟨B, 2, none⟩ = some (.int .i64 e.obj)
  c3 : w.cell? ⟨B, 3, none⟩ = some (.int .i64 e.at_)
theorem EvAt.lt {w : World} {B : Nat} {a : Ev} (h : EvAt w B a) : B < w.heap.size := World.block_lt_of_cell? w _ h.c0
theorem EvAt.kept {S : Nat → Prop} {w w' : World} {B : Nat} {a : Ev} (h : EvAt w B a) (hc : Chg S w w') (hs : ¬ S B) : EvAt w' B a := ⟨hc.cell h.c0 hs, hc.cell h.c1 hs, hc.cell h.c2 hs, hc.cell h.c3 hs⟩
theorem EvAt.new {w w' : World} {B : Nat} {a : Ev} (h : EvAt w B a) (hb : Below w.heap.size w w') : EvAt w' B a := h.kept (S := fun _ => False) (Chg.of_new hb) id
theorem EvAt.made (w : World) (a : Ev) (T : Nat) : EvAt (w.alloc (.cells #[.int .i64 a.g, .int .i64 a.kind, .int .i64 a.obj, .int .i64 a.at_] T)) w.heap.size a := by
  have h := heap_alloc_new w (.cells #[.int .i64 a.g, .int .i64 a.kind, .int .i64 a.obj, .int .i64 a.at_] T)
  refine ⟨?_, ?_, ?_, ?_⟩
  all_goals (unfold World.cell?; rw [h]; rfl)
theorem EvAt.alloc {w : World} {B : Nat} {a : Ev} (h : EvAt w B a) (o : Obj) : EvAt (w.alloc o) B a := h.new ((Below.refl _ _).alloc (Nat.le_refl _) _)

/-- The keys of a map that holds f, sorted: whatever list of places names them. -/
theorem RMap.sorted {w : World} {P : Program} {k : TypeId} {b n : Nat} {f : Int → Option Value} (h : RMap w P k b n f) (hk : P.underlying k = some (.int .i64)) {ks : List Int} (hn : ks.Nodup) (hm : ∀ x, x ∈ ks ↔ (f x).isSome = true) :
    ∃ D : DataW Value, w.ownsMap P k rawR b n D ∧ Maps.size D = ks.length ∧ ∀ ss : List Int, ss.Perm (intKeys D) → ss.length = ks.length ∧ ss.mergeSort leI = ks.mergeSort leI := by
  obtain ⟨D, hown, hf⟩ := h
  obtain ⟨es, hD, hpw, _⟩ := hown.entries (int_keyed hk)
  obtain ⟨es', hD', hko⟩ := hown.keysOf
  obtain rfl : es = es' := by rw [hD] at hD'; simpa using hD'
  subst hD
  have hp : ks.Perm (intKeys (.map es : DataW Value)) := perm_intKeys hpw (fun p hp => by obtain ⟨v, hv⟩ := hko p hp; obtain ⟨x, _, hx, _⟩ := Maps.keyOf_i64 hk hv; exact ⟨x, hx⟩) hn (fun x => by
    rw [hm x]
    cases hx : f x with
    | none => simp [(hf x).1 hx]
    | some v => simp [((hf x).2 v hx).1])
  refine ⟨_, hown, ?_, fun ss hs => ⟨?_, mergeSort_of_perm_i (hs.trans hp.symm)⟩⟩
  · have := hp.length_eq
    rw [this]
    simp [Maps.size, intKeys]
  · rw [hs.length_eq, hp.length_eq]
end Go.Proofs.YtkjbpkggcddnhaaDoor
