/- The frame of the laws' rows: the arguments opened (traces, rows of ints), the listed errors, the row's last step. -/
import Derived.Test.YtkjbpkggcddnhaaDoorRows
import Derived.Test.YtkjbpkggcddnhaaDoorAlive
import Derived.ProofKit
import Derived.LaidMore
import Derived.OpenShut
import Derived.Stop.Joined
import Derived.Stop.ErrReads
import Derived.LaidLaws
import Derived.Deep.Slices
import Derived.Deep.Fields
import Derived.ChangeSame
import Derived.SevenTiedAt
namespace Go.Proofs.YtkjbpkggcddnhaaDoor
set_option linter.unusedVariables false
set_option linter.unusedSimpArgs false
open Go.ChangeShapes Go.WideShapes Go.ChangeAt Go.WideElems Go.RowKit Go.Deep

section
variable {H : Type} {enc : TypeId × Value → H} {P : Program} {w : World} {base : Nat} {spare : Nat → Bool} {held : Bool}
theorem open_slice_fields {t e : TypeId} {fs : Array Field} {fuel : Nat} {cs : List Value} {x : DataW H × List MemPlace} (ht : P.underlying t = some (.slice e)) (he : P.underlying e = some (.struct fs))
    (hone : oneCellFields P fs = true) (hC : P.cellsOf e = fs.size) (h : DataW.trod enc P w base spare held fuel t cs = some x) :
    (cs = [.slice none 0 0] ∧ x = (.nil, [])) ∨
    ∃ (a : Addr) (len cap m : Nat) (D : Nat → DataW H) (Pl : Nat → List MemPlace), cs = [.slice (some a) len cap] ∧ base ≤ a.block ∧ len ≤ cap ∧ cap ≤ maxLen ∧ m = (if spare a.block then cap else len) ∧
      x = (.slice ((List.range len).map D) ((List.range (m - len)).map fun j => D (len + j)), MemPlace.row a (m * fs.size) ++ (List.range m).flatMap Pl) ∧
      ∀ i, i < m → ∃ (ys : List (DataW H × List MemPlace)) (n : Nat), D i = .agg (ys.map (·.1)) ∧ Pl i = ys.flatMap (·.2) ∧ ys.length = fs.size ∧
        ∀ (j : Nat) (f : Field), fs[j]? = some f → ∃ (v : Value) (y : DataW H × List MemPlace), w.cell? (a.add (i * fs.size + j)) = some v ∧ ys[j]? = some y ∧ DataW.trod enc P w base spare held n f.type [v] = some y := by
  rcases open_slice ht h with h0 | ⟨a, len, cap, m, n, D, Pl, hcs, hb, hl, hm, hmm, hx, hi⟩
  · exact .inl h0
  · refine .inr ⟨a, len, cap, m, D, Pl, hcs, hb, hl, hm, hmm, by rw [hC] at hx; exact hx, fun i him => ?_⟩
    obtain ⟨cs', hc, ht'⟩ := hi i him
    rw [hC] at hc
    obtain ⟨ys, n', hn', hy, hlen, hyl, hf⟩ := DataW.trod_struct he ht'
    obtain ⟨_, hcl, hat⟩ := World.cells?_some hc
    simp only [Prod.mk.injEq] at hy
    refine ⟨ys, n', hy.1, hy.2, hyl, fun j f hj => ?_⟩
    obtain ⟨ho, hk⟩ := hone_of hone j f hj
    have hjl : j < fs.size := (Array.getElem?_eq_some_iff.1 hj).1
    have hcell := hat j hjl
    have hv : cs'[j]? = some (cs'[j]'(by omega)) := List.getElem?_eq_getElem (by omega)
    have h1 := hf j f hj
    rw [ho, hk] at h1
    have hone' : (cs'.drop j).take 1 = [cs'[j]'(by omega)] := by
      rw [List.drop_eq_getElem_cons (by omega)]
      rfl
    rw [hone'] at h1
    have hys : ys[j]? = some (ys[j]'(by omega)) := List.getElem?_eq_getElem (by omega)
    refine ⟨_, _, ?_, hys, h1.trans hys⟩
    rw [← Go.Deep.add_add, hcell, hv]
theorem slice_form {W : World} {b0 : Nat} {t e : TypeId} {v : Value} (ht : P.underlying t = some (.slice e)) (hv : Cell.okWide P W .any b0 t v) : v = .slice none 0 0 ∨ ∃ b off len cap, v = .slice (some ⟨b, off, none⟩) len cap ∧ b < W.heap.size ∧ len ≤ cap ∧ cap ≤ 9223372036854775807 := by
  unfold Cell.okWide at hv
  rw [ht] at hv
  simp only at hv
  unfold Cell.ok at hv
  rw [ht] at hv
  cases v <;> simp only at hv
  rename_i a n c
  cases a with
  | none =>
    left
    cases n <;> cases c <;> first | rfl | exact hv.elim
  | some a =>
    right
    obtain ⟨h1, h2, _, hs, row, cells, hsh, _⟩ := hv
    obtain ⟨b, off, sp⟩ := a
    simp only at hs
    subst hs
    refine ⟨b, off, n, c, rfl, ?_, h1, ?_⟩
    · unfold World.shape? at hsh
      cases hb : W.heap[b]? with
      | none => rw [hb] at hsh; cases hsh
      | some o => exact (Array.getElem?_eq_some_iff.1 hb).1
    · have : IntKind.i64.max = 9223372036854775807 := by decide
      omega
theorem okWide_slice {W : World} {b0 : Nat} {t e : TypeId} {v : Value} (ht : P.underlying t = some (.slice e)) (hv : Value.okWide P W .any b0 t v) : Cell.okWide P W .any b0 t v := by
  unfold Value.okWide at hv
  rw [ht] at hv
  exact hv
end

section
variable {H : Type} {enc : TypeId × Value → H} {W : World} {sp : Nat → Bool} {held : Bool} {b0 : Nat}
theorem add_spot (b off j : Nat) : (⟨b, off, none⟩ : Addr).add j = ⟨b, off + j, none⟩ := by
  unfold Addr.add; by_cases h : j = 0 <;> simp [h]
set_option maxRecDepth 100000 in
/-- An argument []int. -/
theorem ints_of {v : Value} {fuel : Nat} {x : DataW H × List MemPlace} (hv : Cell.okWide Tryd.prog W .any b0 23 v) (h : DataW.trod enc Tryd.prog W 0 sp held fuel 23 [v] = some x) : ∃ l : List Int, Ints W v l ∧ ∀ z ∈ l, (Lit.int .i64 z).wf = true := by
  rcases open_ints Tryd.underlying23 Tryd.underlying3 (by kernel_rfl) h with ⟨h0, _⟩ | ⟨a, len, cap, zs, h0, _, hlc, hcm, hlen, _, hcell, hwf⟩
  · obtain rfl := List.cons.inj h0 |>.1
    exact ⟨[], Ints.nil W, fun z hz => by cases hz⟩
  · obtain rfl := List.cons.inj h0 |>.1
    rcases slice_form Tryd.underlying23 hv with h1 | ⟨b, off, len', cap', h1, hb, _, hc9⟩
    · cases h1
    · cases h1
      have hzl : len ≤ zs.length := by split at hlen <;> omega
      refine ⟨zs.take len, ?_, fun z hz => hwf z (List.mem_of_mem_take hz)⟩
      have hll : (zs.take len).length = len := by rw [List.length_take]; omega
      have := Ints.mk (w := W) (b := b) (off := off) (cap := cap) (l := zs.take len) hb (by omega) (by omega) (fun j hj => by
        have h2 := hcell j (by omega)
        rw [add_spot] at h2
        rw [h2, List.getD_eq_getElem?_getD, List.getD_eq_getElem?_getD, List.getElem?_take, if_pos (by omega)])
      rw [hll] at this
      exact this
set_option maxRecDepth 100000 in
/-- An argument []api.Event. -/
theorem evs_of {v : Value} {fuel : Nat} {x : DataW H × List MemPlace} (hv : Cell.okWide Tryd.prog W .any b0 22 v) (h : DataW.trod enc Tryd.prog W 0 sp held fuel 22 [v] = some x) : ∃ l : List Ev, Evs W v l ∧ ∀ e ∈ l, evWf e := by
  rcases open_slice_fields Tryd.underlying22 Tryd.underlying38 (by kernel_rfl) (by kernel_rfl) h with ⟨h0, _⟩ | ⟨a, len, cap, m, D, Pl, h0, _, hlc, hcm, hm, _, hf⟩
  · obtain rfl := List.cons.inj h0 |>.1
    exact ⟨[], Evs.nil W, fun z hz => by cases hz⟩
  · obtain rfl := List.cons.inj h0 |>.1
    rcases slice_form Tryd.underlying22 hv with h1 | ⟨b, off, len', cap', h1, hb, _, hc9⟩
    · cases h1
    · cases h1
      have hml : len ≤ m := by split at hm <;> omega
      have hone : ∀ i, i < m → ∃ e : Ev, evWf e ∧ W.cell? ⟨b, off + i * 4, none⟩ = some (.int .i64 e.g) ∧ W.cell? ⟨b, off + i * 4 + 1, none⟩ = some (.int .i64 e.kind) ∧ W.cell? ⟨b, off + i * 4 + 2, none⟩ = some (.int .i64 e.obj) ∧ W.cell? ⟨b, off + i * 4 + 3, none⟩ = some (.int .i64 e.at_) := fun i hi => by
        obtain ⟨ys, n, _, _, _, hfi⟩ := hf i hi
        obtain ⟨v0, y0, c0, _, t0⟩ := hfi 0 _ rfl
        obtain ⟨v1, y1, c1, _, t1⟩ := hfi 1 _ rfl
        obtain ⟨v2, y2, c2, _, t2⟩ := hfi 2 _ rfl
        obtain ⟨v3, y3, c3, _, t3⟩ := hfi 3 _ rfl
        obtain ⟨n0, e0, _, w0⟩ := DataW.trod_int Tryd.underlying3 t0
        obtain ⟨n1, e1, _, w1⟩ := DataW.trod_int Tryd.underlying3 t1
        obtain ⟨n2, e2, _, w2⟩ := DataW.trod_int Tryd.underlying3 t2
        obtain ⟨n3, e3, _, w3⟩ := DataW.trod_int Tryd.underlying3 t3
        obtain rfl := (List.cons.inj e0).1
        obtain rfl := (List.cons.inj e1).1
        obtain rfl := (List.cons.inj e2).1
        obtain rfl := (List.cons.inj e3).1
        rw [add_spot] at c0 c1 c2 c3
        exact ⟨⟨n0, n1, n2, n3⟩, ⟨w0, w1, w2, w3⟩, c0, c1, c2, c3⟩
      obtain ⟨F, hF⟩ := choose_lt hone
      have hll : ((List.range len).map F).length = len := by simp
      have hgd : ∀ i, i < len → ((List.range len).map F).getD i default = F i := fun i hi => by simp [hi]
      refine ⟨(List.range len).map F, ?_, fun e he => ?_⟩
      · have hfl : ((List.range len).map F |>.flatMap evCells).length = len * 4 := by
          have : ∀ l : List Ev, (l.flatMap evCells).length = l.length * 4 := fun l => by
            induction l with
            | nil => rfl
            | cons e t ih => rw [List.flatMap_cons, List.length_append, ih, evCells_length, List.length_cons]; omega
          rw [this, hll]
        unfold Evs
        rw [hll]
        refine ⟨hfl, by omega, .inr ⟨b, off, cap, rfl, hb, hlc, fun j hj => ?_⟩⟩
        obtain ⟨i, r, hr, rfl⟩ : ∃ i r, r < 4 ∧ j = i * 4 + r := ⟨j / 4, j % 4, Nat.mod_lt _ (by omega), by omega⟩
        have hi : i < len := by omega
        rw [flat4_get _ i (by omega) r hr, hgd i hi]
        obtain ⟨_, c0, c1, c2, c3⟩ := hF i (by omega)
        match r, hr with
        | 0, _ => exact c0
        | 1, _ => rw [← Nat.add_assoc]; exact c1
        | 2, _ => rw [← Nat.add_assoc]; exact c2
        | 3, _ => rw [← Nat.add_assoc]; exact c3
      · obtain ⟨i, hi, rfl⟩ := List.mem_map.1 he
        exact (hF i (by have := List.mem_range.1 hi; omega)).1
end

/-! ### the row's last step -/
section
variable {H : Type} {enc : TypeId × Value → H} {P : Program}
theorem post_of_below {f : Func} {s : ChangeSpec} {apart fresh handsOn again : Bool} {W W' : World} {args : Array Value} {v : Value} {ds gs : List (DataW H)} {before pa pv : List MemPlace}
    (hW : DataW.Whole enc P f.params.toList s.vars apart W args.toList ds gs before)
    (hres : ∀ (b : Nat) (sp : Nat → Bool) (hd : Bool), DataW.TrodAll enc P W' b sp hd f.resultTypes.toList (v.resultList f.resultTypes.size) (s.fn H (ds ++ gs)).results [])
    (hargs : ∀ sp : Nat → Bool, (∀ p ∈ before, sp p.block = true) → DataW.TrodAll enc P W' 0 sp true f.params.toList args.toList (s.fn H (ds ++ gs)).args pa)
    (hvars : ∀ sp : Nat → Bool, (∀ p ∈ before, sp p.block = true) → DataW.TrodVars enc P W' sp s.vars (s.fn H (ds ++ gs)).vars pv)
    (hps : before = pa ++ pv) (hb : Below W.heap.size W W')
    (hok : ∀ (j : Nat) (t : TypeId) (r : Value), f.resultTypes[j]? = some t → (v.resultList f.resultTypes.size)[j]? = some r → Value.okWide P W' .any 0 t r) :
    s.post enc P f apart fresh handsOn again W args v W' := by
  have hlt : ∀ p ∈ before, p.block < W.heap.size := fun p hp => hW.lt p hp
  have hold : ∀ p ∈ before, (fun b => decide (b < W.heap.size)) p.block = true := fun p hp => by simpa using hlt p hp
  refine ⟨ds, gs, before, [], pa, pv, hW, hres _ _ _, hargs _ hold, hvars _ hold, World.keptBut_mono (fun p hp => ⟨hp, ?_⟩) (hb.frame (· ∈ before)), fun _ => ?_⟩
  · rw [hps, List.mem_append] at hp
    exact Or.inr hp
  · obtain ⟨_, _, _, _, _, hz, hn⟩ := hW
    refine ⟨hok, _, _, ([] ++ pa) ++ pv, ⟨[] ++ pa, pv, trodAll_append (hargs _ (fun _ _ => rfl)) (hres _ _ _), hvars _ (fun _ _ => rfl), rfl, ?_, ?_⟩, ?_⟩
    · intro b off hp
      have hin : MemPlace.cell b off ∈ before := by rw [hps]; simpa using hp
      rw [hb.frozen (hlt _ hin)]
      exact hz b off hin
    · intro ha
      have := hn ha
      rw [hps] at this
      simpa using this
    · intro p hp _
      rw [hps]
      simpa using hp
end
theorem trodAll_kept {H : Type} {enc : TypeId × Value → H} {P : Program} {W W' : World} {sp : Nat → Bool} (hl : laidOutB P = true) (hb : Below W.heap.size W W') : ∀ {ts : List TypeId} {vs : List Value} {ds : List (DataW H)} {ps : List MemPlace},
    (ts.all fun t => P.readableRec t && decide (t < P.types.size)) = true → DataW.TrodAll enc P W 0 (fun _ => true) true ts vs ds ps → (∀ p ∈ ps, p.block < W.heap.size) → (∀ p ∈ ps, sp p.block = true) → DataW.TrodAll enc P W' 0 sp true ts vs ds ps
  | [], [], [], _, _, h, _, _ => h
  | _ :: _, _ :: _, _ :: _, ps, ht, ⟨p, q, h1, h2, e⟩, hlt, hs => by
    simp only [List.all_cons, Bool.and_eq_true, decide_eq_true_eq] at ht
    have hp : ∀ x ∈ p, x ∈ ps := fun x hx => by rw [e]; exact List.mem_append_left _ hx
    have hq : ∀ x ∈ q, x ∈ ps := fun x hx => by rw [e]; exact List.mem_append_right _ hx
    exact ⟨p, q, WideElems.Trod_stays hl ht.1.1 ht.1.2 h1 (fun x hx => hb.same (hlt x (hp x hx))) (fun x hx => hs x (hp x hx)), trodAll_kept hl hb ht.2 h2 (fun x hx => hlt x (hq x hx)) (fun x hx => hs x (hq x hx)), e⟩
set_option maxRecDepth 100000 in
/-- A law that has returned true and has made new memory alone. -/
theorem law_post {H : Type} {enc : TypeId × Value → H} {f : Func} {s : ChangeSpec} {apart fresh handsOn again : Bool} {W W' : World} {args : Array Value} {ds gs : List (DataW H)} {before : List MemPlace}
    (hW : DataW.Whole enc Tryd.prog f.params.toList s.vars apart W args.toList ds gs before) (hvars : s.vars = []) (hs : s.fn H ds = { results := [.lit (.bool true)], args := ds }) (hr : f.resultTypes = #[4])
    (hts : (f.params.toList.all fun t => Tryd.prog.readableRec t && decide (t < Tryd.prog.types.size)) = true) (hl : laidOutB Tryd.prog = true) (hb : Below W.heap.size W W') :
    s.post enc Tryd.prog f apart fresh handsOn again W args (.bool true) W' := by
  have hlt : ∀ p ∈ before, p.block < W.heap.size := fun p hp => hW.lt p hp
  have hW' := hW
  obtain ⟨p, q, hA, hV, rfl, hfz, hnd⟩ := hW
  rw [hvars] at hV
  obtain ⟨rfl, rfl⟩ := trodVars_none hV
  simp only [List.append_nil] at hW' hlt
  have hfn : s.fn H (ds ++ []) = { results := [.lit (.bool true)], args := ds } := by rw [List.append_nil]; exact hs
  have hlen : f.resultTypes.size = 1 := by rw [hr]; rfl
  refine post_of_below (pa := p) (pv := []) hW' (fun _ _ _ => ?_) (fun sp hsp => ?_) (fun _ _ => ?_) (by simp) hb ?_
  · rw [hfn, hr]
    exact trodAll_mk1 (shut_bool Tryd.underlying4 true)
  · rw [hfn]
    exact trodAll_kept hl hb hts hA hlt hsp
  · rw [hfn, hvars]; rfl
  · exact ok_one hr rfl (okWide_bool_mk Tryd.underlying4 _)
set_option maxRecDepth 100000 in
theorem own : ownKnob Tryd.prog.godebug = none := by kernel_rfl
set_option maxRecDepth 100000 in
theorem laidOut : laidOutB Tryd.prog = true := by kernel_rfl
end Go.Proofs.YtkjbpkggcddnhaaDoor
