/- The walks of slices.Clone at ints and of order.Clocks. -/
import Derived.Test.YtkjbpkggcddnhaaDoorEvent
import Derived.Test.YtkjbpkggcddnhaaDoorEvs
import Derived.Test.YtkjbpkggcddnhaaDoorOrdPure
import Derived.Carry
import Derived.Lib.SliceRun
namespace Go.Proofs.YtkjbpkggcddnhaaDoor
set_option linter.unusedVariables false
set_option linter.unusedSimpArgs false
open Go.RowKit

set_option maxRecDepth 100000 in
set_option maxHeartbeats 1000000 in
theorem clone_any {w : World} {v : Value} {l : List Int} (h : Ints w v l) (hl : l.length ≤ 1000) : Calls Tryd.prog 41 #[v] w (NewInts w l) := by
  obtain ⟨i0, hi, hz0, hz1, hz2⟩ := info_parts info_int
  have q22 : ∀ (w : World) (a : Option Addr) (n c n' c' : Nat), (binOp .eql 23 (.slice a n c) (.slice none n' c')).run Tryd.prog w = .ok (.bool a.isNone) w := fun w a n c n' c' => Lib.run_eql_slice_nil w _ _ a n c n' c' Tryd.underlying23
  have u22 : ∀ w, Sem.run Tryd.prog (underlying 23) w = .ok (TypeDesc.slice 3) w := run_underlying Tryd.underlying23
  rcases h.cases with ⟨rfl, rfl⟩ | ⟨b, off, cap, rfl, hlt, hcap, hm, hc⟩
  · go_enter Tryd.func41, Tryd.ntmps41
    go_wp2
    go_ret
    exact ⟨_, rfl, Ints.nil _, fun b hb => by simp [Value.ownBlock] at hb, Below.refl _ _⟩
  · have A := Lib.hid hc
    clear hc
    go_enter Tryd.func41, Tryd.ntmps41
    go_wp2_with (at_builtin; refine wpList_append_own _ rfl _ _ 23 rfl w.heap.size 3 i0 (.int .i64 0) 1 8 Tryd.underlying23 hi hz0 hz1 hz2 rfl (by decide) _ _ _ rfl (World.ownsRow_made w #[] 0 (Nat.le_refl _) (Nat.zero_le _) rfl) ⟨b, off, none⟩ l.length cap (l.map (Value.int .i64)) rfl ?qc1 ?qc2 ?qc3 ?qc4 ?qc5 ?qc6 ?_)
    case qc1 => simp
    case qc2 =>
      intro j u hj
      have hjn : j < l.length := by
        have := (List.getElem?_eq_some_iff.1 hj).1
        simpa using this
      rw [Addr.add_lit]
      refine Lib.cell?_alloc_some _ ?_
      rw [A.out j hjn]
      rw [← hj]
      simp [hjn]
    case qc3 => intro u hu; obtain ⟨x, _, rfl⟩ := List.mem_map.1 hu; rfl
    case qc4 => unfold maxLen; omega
    case qc5 => omega
    case qc6 => simp
    intro v' w1 hown hgrow hnil
    go_wp2
    go_ret
    have hown' : w1.ownsRow w.heap.size 3 1 v' l.length (l.map (Value.int .i64)) := by simpa using hown
    exact ⟨v', rfl, SlAt.of_owns hown' hm, fun b hb => (hown'.lt b hb).1, ((Below.refl _ w).alloc (Nat.le_refl _) _).grown hgrow (by simp) (by intro k hk; simp [Value.ownBlock] at hk; omega)⟩

/-- v reads as a row of clocks. -/
def ClksAt (w : World) (v : Value) (L : List (List Int)) : Prop := ∃ vs : List Value, SlAt w v 1 L.length vs ∧ ∀ j, j < L.length → Ints w (vs.getD j undef) (L.getD j [])
theorem ClksAt.new {w w' : World} {v : Value} {L : List (List Int)} (h : ClksAt w v L) (hb : Below w.heap.size w w') : ClksAt w' v L := by
  obtain ⟨vs, h1, h2⟩ := h
  exact ⟨vs, h1.new hb, fun j hj => (h2 j hj).new hb⟩

/-- What Clocks holds behind k events. -/
structure CkInv (w : World) (ρ0 : Nat → Role) (W : Nat) (rooms : List Int) (l : List Ev) (k : Nat) (vout : Value) (wr : World) (ρ : Nat → Role) (m : WM) (vs : List Value) : Prop where
  isw : IsW wr W ρ rooms (stateL rooms WS.init (l.take k)) (3 * k) m
  ext : ∀ b, b < w.heap.size → ρ b = ρ0 b
  below : Below w.heap.size w wr
  own : wr.ownsRow 0 23 1 vout k vs
  rout : ∀ b, vout.ownBlock = some b → ρ b = .free ∧ w.heap.size ≤ b
  vok : ∀ j, j < k → Clk wr ρ (vs.getD j undef) ((clocksL rooms l).getD j [])

theorem getD_snoc_lt {α : Type} {l : List α} {j : Nat} {x d : α} (h : j < l.length) : (l ++ [x]).getD j d = l.getD j d := by
  rw [List.getD_eq_getElem?_getD, List.getElem?_append_left h, ← List.getD_eq_getElem?_getD]
theorem getD_snoc_last {α : Type} {l : List α} {x d : α} : (l ++ [x]).getD l.length d = x := by
  rw [List.getD_eq_getElem?_getD, List.getElem?_append_right (Nat.le_refl _)]; simp
theorem take_snoc_ev {l : List Ev} {k : Nat} (hk : k < l.length) : l.take (k + 1) = l.take k ++ [l.getD k default] := by
  rw [List.take_succ_eq_append_getElem hk]
  simp [hk]
theorem clocksL_getD (rooms : List Int) {l : List Ev} {k : Nat} (hk : k < l.length) : (clocksL rooms l).getD k [] = clockL rooms (stateL rooms WS.init (l.take k)) (l.getD k default) := by
  have h := clocksL_take rooms l (k + 1)
  rw [take_snoc_ev hk, clocksL_snoc] at h
  have h1 := congrArg (fun m => m.getD k []) h
  have hl : (clocksL rooms (l.take k)).length = k := by rw [clocksL_length, List.length_take]; omega
  have h2 := getD_snoc_last (l := clocksL rooms (l.take k)) (x := clockL rooms (stateL rooms WS.init (l.take k)) (l.getD k default)) (d := [])
  rw [hl] at h2
  rw [h2] at h1
  rw [h1, List.getD_eq_getElem?_getD, List.getD_eq_getElem?_getD, List.getElem?_take, if_pos (by omega)]

/-- One event more. -/
theorem CkInv.step {w : World} {ρ0 : Nat → Role} {W : Nat} {rooms : List Int} {l : List Ev} {k : Nat} {vout : Value} {wr : World} {ρ : Nat → Role} {m : WM} {vs : List Value} (h : CkInv w ρ0 W rooms l k vout wr ρ m vs) (h0 : ∀ b, b < w.heap.size → ρ0 b = .clk ∨ ρ0 b = .free) (hk : k < l.length)
    {wa w1 w2 w3 w4 : World} (hba : Below wr.heap.size wr wa) {ρ' : Nat → Role} {m' : WM}
    (hisw : IsW w1 W ρ' rooms (stepL rooms (stateL rooms WS.init (l.take k)) (l.getD k default)) (3 * k + 3) m') (hext : ∀ b, b < wa.heap.size → ρ' b = ρ b) (hchg : Chg (Own ρ) wa w1)
    {v2 : Value} (hv2 : Ints w2 v2 (clockL rooms (stateL rooms WS.init (l.take k)) (l.getD k default))) (hl2 : (clockL rooms (stateL rooms WS.init (l.take k)) (l.getD k default)).length ≤ 8) (hn2 : ∀ b, v2.ownBlock = some b → w1.heap.size ≤ b) (hb2 : Below w1.heap.size w1 w2)
    (hb3 : Below w2.heap.size w2 w3) {vout' : Value} (hown : w4.ownsRow 0 23 1 vout' (k + 1) (vs ++ [v2])) (hg : w3.grownBy w4 vout.ownBlock) (hlies : Lies w3 vout vout') :
    ∃ ρ2 m2 vs2, CkInv w ρ0 W rooms l (k + 1) vout' w4 ρ2 m2 vs2 := by
  have hl : vs.length = k := by have := h.own.1; omega
  have hs0 := h.below.size
  have hsa := hba.size
  have hs1 := hchg.size
  have hs2 := hb2.size
  have hs3 := hb3.size
  have hlo : ∀ b, vout.ownBlock = some b → b < wr.heap.size := fun b hb => (h.own.lt b hb).2
  let ρ2 : Nat → Role := fun b => if v2.ownBlock = some b then .clk else if b < w1.heap.size then ρ' b else .free
  have hr2 : ∀ b, b < w1.heap.size → ρ2 b = ρ' b := fun b hb => by
    show (if _ then _ else _) = _
    rw [if_neg (fun e => by have := hn2 b e; omega), if_pos hb]
  have hr20 : ∀ b, b < wr.heap.size → ρ2 b = ρ b := fun b hb => by rw [hr2 b (by omega), hext b (by omega)]
  have hr2f : ∀ b, w3.heap.size ≤ b → ρ2 b = .free := fun b hb => by
    show (if _ then _ else _) = _
    rw [if_neg (fun e => by have := hv2.lt b e; omega), if_neg (by omega)]
  have hb13 : Below w1.heap.size w1 w3 := (hb2.trans (hb3.mono hs2))
  have hgc : Chg (fun b => vout.ownBlock = some b) w3 w4 := Chg.grown hg (fun k hk => hk)
  have hfo : ∀ b, vout.ownBlock = some b → ρ2 b = .free := fun b hb => by rw [hr20 b (hlo b hb)]; exact (h.rout b hb).1
  have hold : Chg (fun b => Own ρ b ∨ vout.ownBlock = some b) wr w4 := by
    have h1 : Chg (fun b => Own ρ b ∨ vout.ownBlock = some b) wr w1 := (Chg.of_new hba).then hchg (fun i hi hs => .inl hs)
    have h2 := h1.trans ((Chg.of_below hb13 (fun k hk hk2 => by omega)))
    exact h2.then hgc (fun i hi hs => .inr hs)
  refine ⟨ρ2, m', vs ++ [v2], ?_⟩
  refine { isw := ?_, ext := fun b hb => ?_, below := ?_, own := hown, rout := fun b hb => ?_, vok := fun j hj => ?_ }
  · have h1 : IsW w3 W ρ2 rooms _ (3 * k + 3) m' := (hisw.roles hr2).new hb13
    have h2 := h1.kept hgc hfo
    rw [take_snoc_ev hk, stateL_snoc]
    exact h2
  · rw [hr20 b (by omega)]; exact h.ext b hb
  · refine h.below.trans (hold.below hs0 (fun q hq => ?_))
    rcases hq with hq | hq
    · exact Nat.le_of_not_lt fun hlt => by
        rcases h0 q hlt with e | e <;> (unfold Own at hq; rw [h.ext q hlt, e] at hq; simp at hq)
    · exact (h.rout q hq).2
  · rcases hlies with e | ⟨q, e, hq⟩
    · rw [e] at hb
      exact ⟨hfo b hb, (h.rout b hb).2⟩
    · obtain rfl : q = b := by rw [e] at hb; exact Option.some.inj hb
      exact ⟨hr2f q hq, by omega⟩
  · by_cases hjk : j < k
    · rw [getD_snoc_lt (by omega)]
      have h1 := (h.vok j hjk).role hr20
      refine h1.kept (hold.mono (T := fun b => (Own ρ b ∨ vout.ownBlock = some b) ∧ b < wr.heap.size) (fun q h1 h2 => ⟨h1, h2⟩)) (fun q hq => ?_)
      rw [hr20 q hq.2]
      rcases hq.1 with hq | hq
      · exact hq.1
      · rw [(h.rout q hq).1]; simp
    · obtain rfl : j = vs.length := by omega
      rw [getD_snoc_last, clocksL_getD rooms (by omega)]
      have h1 : Clk w2 ρ2 v2 (clockL rooms (stateL rooms WS.init (l.take k)) (l.getD k default)) := ⟨hv2, hl2, fun b hb => by show (if _ then _ else _) = _; rw [if_pos hb]⟩
      rw [hl] at *
      refine (h1.kept (S := fun _ => False) (Chg.of_new hb3) (fun _ h => h.elim)).kept hgc (fun q hq => ?_)
      rw [hfo q hq]; simp

/-- What Clocks hands back. -/
def ClocksPost (w : World) (rooms : List Int) (l : List Ev) (er : Value) (e : Ending) (w' : World) : Prop :=
  Below w.heap.size w w' ∧ (l.all evForm = false ∧ e = .returned (.tuple #[.slice none 0 0, er]) ∨ l.all evForm = true ∧ ∃ v, e = .returned (.tuple #[v, .nilIface]) ∧ ClksAt w' v (clocksL rooms l))
/-- What the walks of the trace ask of it. -/
structure Trace (l : List Ev) (rooms : List Int) : Prop where
  len : l.length ≤ 3000
  obj : ∀ e ∈ l, (Lit.int .i64 e.obj).wf = true
  rooms : ∀ r ∈ rooms, r ≤ 9223372036854775807

/-- The watcher at its beginning. -/
theorem watcher_made {w wc : World} {vr : Value} {rooms : List Int} (hr : Ints w vr rooms) (hb : Below w.heap.size w wc) {T : Nat} {W : World}
    (hW : W = (((wc.alloc (.map #[] 0)).alloc (.map #[] 0)).alloc (.map #[] 0)).alloc (.cells #[vr, .slice none 0 0, .slice none 0 0, .slice none 0 0, .slice none 0 0, .slice none 0 0, .slice none 0 0, .slice none 0 0, .slice none 0 0, .map (some wc.heap.size), .map (some (wc.heap.size + 1)), .map (some (wc.heap.size + 1 + 1))] T)) :
    ∃ ρ m, IsW W (wc.heap.size + 1 + 1 + 1) ρ rooms WS.init 0 m ∧ ∀ b, b < w.heap.size → ρ b = clkR (fun _ => .free) vr b := by
  have hsz := hb.size
  have hlr : ∀ b, vr.ownBlock = some b → b < w.heap.size := hr.lt
  let ρ : Nat → Role := fun b => if b = wc.heap.size then .mmap else if b = wc.heap.size + 1 then .amap else if b = wc.heap.size + 1 + 1 then .pmap else if b = wc.heap.size + 1 + 1 + 1 then .wat else clkR (fun _ => .free) vr b
  have hold : ∀ b, b < w.heap.size → ρ b = clkR (fun _ => .free) vr b := fun b hb => by
    show (if b = wc.heap.size then _ else _) = _
    rw [if_neg (by omega), if_neg (by omega), if_neg (by omega), if_neg (by omega)]
  have hB3 : (((wc.alloc (.map #[] 0)).alloc (.map #[] 0)).alloc (.map #[] 0)).heap.size = wc.heap.size + 1 + 1 + 1 := by simp
  have hcell : ∀ o, W.cell? ⟨wc.heap.size + 1 + 1 + 1, o, none⟩ = (#[vr, Value.slice none 0 0, .slice none 0 0, .slice none 0 0, .slice none 0 0, .slice none 0 0, .slice none 0 0, .slice none 0 0, .slice none 0 0, .map (some wc.heap.size), .map (some (wc.heap.size + 1)), .map (some (wc.heap.size + 1 + 1))])[o]? := fun o => by
    have h1 := heap_alloc_new (((wc.alloc (.map #[] 0)).alloc (.map #[] 0)).alloc (.map #[] 0)) (.cells #[vr, .slice none 0 0, .slice none 0 0, .slice none 0 0, .slice none 0 0, .slice none 0 0, .slice none 0 0, .slice none 0 0, .slice none 0 0, .map (some wc.heap.size), .map (some (wc.heap.size + 1)), .map (some (wc.heap.size + 1 + 1))] T)
    rw [hB3] at h1
    unfold World.cell?
    rw [hW, h1]
    rfl
  have hlast : ∀ k, k < wc.heap.size + 1 + 1 + 1 → W.heap[k]? = (((wc.alloc (.map #[] 0)).alloc (.map #[] 0)).alloc (.map #[] 0)).heap[k]? := fun k hk => by rw [hW]; exact Below.heap_alloc _ _ _ (by rw [hB3]; exact hk)
  have hm1 : RMap W Tryd.prog 3 wc.heap.size 0 (fun _ => none) := by
    refine (RMap.made wc Tryd.prog 3).same ?_
    rw [hlast _ (by omega), Below.heap_alloc _ _ _ (by simp; omega), Below.heap_alloc _ _ _ (by simp)]
  have hm2 : RMap W Tryd.prog 3 (wc.heap.size + 1) 0 (fun _ => none) := by
    have h := RMap.made (wc.alloc (.map #[] 0)) Tryd.prog 3
    rw [show (wc.alloc (.map #[] 0)).heap.size = wc.heap.size + 1 by simp] at h
    refine h.same ?_
    rw [hlast _ (by omega), Below.heap_alloc _ _ _ (by simp)]
  have hm3 : RMap W Tryd.prog 3 (wc.heap.size + 1 + 1) 0 (fun _ => none) := by
    have h := RMap.made ((wc.alloc (.map #[] 0)).alloc (.map #[] 0)) Tryd.prog 3
    rw [show ((wc.alloc (.map #[] 0)).alloc (.map #[] 0)).heap.size = wc.heap.size + 1 + 1 by simp] at h
    exact h.same (hlast _ (by omega))
  have hbW : Below w.heap.size w W := by
    rw [hW]
    exact (((hb.alloc hb.size _).alloc (by simp; omega) _).alloc (by simp; omega) _).alloc (by simp; omega) _
  refine ⟨ρ, ⟨vr, fun _ => .slice none 0 0, wc.heap.size, wc.heap.size + 1, wc.heap.size + 1 + 1, fun _ => none, fun _ => none, fun _ => none⟩, ?_, hold⟩
  refine { lt := ?_, c0 := by rw [hcell]; rfl, co := fun g hg => ?_, c9 := by rw [hcell]; rfl, c10 := by rw [hcell]; rfl, c11 := by rw [hcell]; rfl, fz := fun o => ?_, rooms := hr.new hbW, rr := fun b hb => ?_, own := fun g _ _ => Clk.nil _ _, mu := ⟨hm1, ?_⟩, am := ⟨hm2, ?_⟩, pp := ⟨hm3, ?_⟩, rW := ?_, r1 := ?_, r2 := ?_, r3 := ?_ }
  · rw [hW]; simp
  · rw [hcell]
    have : g = 0 ∨ g = 1 ∨ g = 2 ∨ g = 3 ∨ g = 4 ∨ g = 5 ∨ g = 6 ∨ g = 7 := by omega
    rcases this with rfl | rfl | rfl | rfl | rfl | rfl | rfl | rfl <;> rfl
  · have h1 := heap_alloc_new (((wc.alloc (.map #[] 0)).alloc (.map #[] 0)).alloc (.map #[] 0)) (.cells #[vr, .slice none 0 0, .slice none 0 0, .slice none 0 0, .slice none 0 0, .slice none 0 0, .slice none 0 0, .slice none 0 0, .slice none 0 0, .map (some wc.heap.size), .map (some (wc.heap.size + 1)), .map (some (wc.heap.size + 1 + 1))] T)
    rw [hB3] at h1
    unfold World.frozen?
    rw [hW, h1]
    simp
  · rw [hold b (hlr b hb), clkR_own hb]
  · exact fun i => ⟨fun _ => rfl, fun v h => by cases h⟩
  · exact fun i => ⟨fun _ => rfl, fun v h => by cases h⟩
  · exact fun i => ⟨fun _ => rfl, fun v h => by cases h⟩
  · show (if _ then _ else _) = _; rw [if_neg (by omega), if_neg (by omega), if_neg (by omega), if_pos rfl]
  · show (if _ then _ else _) = _; rw [if_pos rfl]
  · show (if _ then _ else _) = _; rw [if_neg (by simp), if_pos rfl]
  · show (if _ then _ else _) = _; rw [if_neg (by simp; omega), if_neg (by simp), if_pos rfl]

set_option maxRecDepth 100000 in
set_option maxHeartbeats 4000000 in
theorem clocks_some {w : World} {b off cap : Nat} {vr : Value} {l : List Ev} {rooms : List Int} {T : TypeId} {ev0 : Value}
   (ht : Trace l rooms)
   (hc : ∀ i, i < l.length → w.cell? ⟨b, off + i * 4, none⟩ = some (.int .i64 (l.getD i default).g) ∧ w.cell? ⟨b, off + i * 4 + 1, none⟩ = some (.int .i64 (l.getD i default).kind) ∧
      w.cell? ⟨b, off + i * 4 + 2, none⟩ = some (.int .i64 (l.getD i default).obj) ∧ w.cell? ⟨b, off + i * 4 + 3, none⟩ = some (.int .i64 (l.getD i default).at_))
   (hev : Evs w (.slice (some ⟨b, off, none⟩) l.length cap) l) (hr : Ints w vr rooms)
   (her : w.cell? ⟨0, 0, none⟩ = some (.iface T ev0)) :
    Calls Tryd.prog 13 #[.slice (some ⟨b, off, none⟩) l.length cap, vr] w (ClocksPost w rooms l (.iface T ev0)) := by
  have hmm := @run_makeMap Tryd.prog
  obtain ⟨ar, cr, rfl⟩ := hr.shape
  have Hc := Lib.hid hc
  have Hr := Lib.hid hr
  have Ht := Lib.hid ht
  have hlen := ht.len
  clear hc hr ht
  by_cases hform : l.all evForm = true
  · have Hform := Lib.hid hform
    clear hform
    go_enter Tryd.func13, Tryd.ntmps13
    go_wp2_with fail
    refine (check_any hev _ her).mono ?_
    rintro e wc ⟨rfl, hbc⟩
    have hck : checkV l (.iface T ev0) = .nilIface := by simp [checkV, Hform.out]
    rw [hck]
    clear hck
    go_wp2
    obtain ⟨W0, hW0⟩ : ∃ W0 : World, W0 = _ := ⟨_, rfl⟩
    obtain ⟨ρ1, m1, hisw, hext⟩ := watcher_made (T := 78) Hr.out hbc hW0
    have h00 : ∀ b, b < w.heap.size → clkR (fun _ => Role.free) (.slice ar rooms.length cr) b = .clk ∨ clkR (fun _ => Role.free) (.slice ar rooms.length cr) b = .free := fun b _ => by
      unfold clkR
      split
      · split
        · exact .inl rfl
        · exact .inr rfl
      · exact .inr rfl
    have hb0 : Below w.heap.size w W0 := by
      have hs := hbc.size
      rw [hW0]
      exact (((hbc.alloc hs _).alloc (by simp; omega) _).alloc (by simp; omega) _).alloc (by simp; omega) _
    have hstart : CkInv w (clkR (fun _ => .free) (.slice ar rooms.length cr)) (wc.heap.size + 1 + 1 + 1) rooms l 0 (.slice none 0 0) W0 ρ1 m1 [] :=
      { isw := hisw, ext := hext, below := hb0, own := ⟨rfl, .inl ⟨rfl, rfl⟩⟩, rout := fun b hb => by simp [Value.ownBlock] at hb, vok := fun j hj => absurd hj (Nat.not_lt_zero _) }
    rw [← hW0]
    have Hstart := Lib.hid hstart
    have H00 := Lib.hid h00
    obtain ⟨i23, hi23, hy1, hy2, hy3⟩ := info_parts info_ints
    clear hstart h00 hb0 hisw hext hW0 hbc
    generalize wc.heap.size + 1 + 1 + 1 = W at *
    go_loopw [8, 10, 24] (fun out pe i wr => ∃ (k : Nat) (ρ : Nat → Role) (m : WM) (vs : List Value), k ≤ l.length ∧ i = .int .i64 k ∧ CkInv w (clkR (fun _ => .free) (.slice ar rooms.length cr)) W rooms l k out wr ρ m vs) (fun _ _ i _ => l.length - (intOf i).toNat)
    case atStart => exact ⟨0, ρ1, m1, [], Nat.zero_le _, rfl, Hstart.out⟩
    case round =>
      obtain ⟨k, ρ, m, vs, hk, rfl, hinv⟩ := hrel
      by_cases hlt : k < l.length
      · obtain ⟨c0, c1, c2, c3⟩ := Hc.out k hlt
        have hb := hinv.below
        rw [← hb.cell (World.block_lt_of_cell? w _ c0)] at c0
        rw [← hb.cell (World.block_lt_of_cell? w _ c1)] at c1
        rw [← hb.cell (World.block_lt_of_cell? w _ c2)] at c2
        rw [← hb.cell (World.block_lt_of_cell? w _ c3)] at c3
        have Hinv := Lib.hid hinv
        clear hinv
        generalize hev1 : l.getD k default = ev at c0 c1 c2 c3
        have Hev := Lib.hid hev1
        clear hev1
        obtain ⟨g, kd, ob, at'⟩ := ev
        simp only at c0 c1 c2 c3
        have hform1 : evForm ⟨g, kd, ob, at'⟩ = true := by rw [← Hev.out]; exact all_getD Hform.out hlt
        have hmem : (⟨g, kd, ob, at'⟩ : Ev) ∈ l := by rw [← Hev.out]; exact getD_mem hlt
        have hwf : (Lit.int .i64 ob).wf = true := Ht.out.obj _ hmem
        have hrm := Ht.out.rooms
        have hup : Upto (stateL rooms WS.init (l.take k)) (l.take k).length := upto_state _ (fun e he => by
          have h1 := List.all_eq_true.1 Hform.out e (List.mem_of_mem_take he)
          exact (evForm_true (g := e.g) (k := e.kind) (o := e.obj) (a := e.at_) h1).1)
        have hbd : getL (comesL rooms (stateL rooms WS.init (l.take k)) ⟨g, kd, ob, at'⟩) g ≤ 9000000 := by
          have h1 := upto_comes (rooms := rooms) hup ⟨g, kd, ob, at'⟩ g
          have h2 : (l.take k).length ≤ 3000 := by rw [List.length_take]; omega
          omega
        have hN : 3 * k ≤ 9000 := by omega
        have hba : Below wr.heap.size wr (wr.alloc (.cells #[.int .i64 g, .int .i64 kd, .int .i64 ob, .int .i64 at'] 38)) := (Below.refl _ _).alloc (Nat.le_refl _) _
        have Hcall := Lib.hid (event_any (Hinv.out.isw.new hba) hN ⟨g, kd, ob, at'⟩ hform1 hwf hrm hbd)
        have Hba := Lib.hid hba
        clear hform1 hmem hwf hrm hup hbd hN hba
        go_wp2_with fail
        refine Hcall.out.mono ?_
        rintro e w1 ⟨v, ρ', m', rfl, hisw, hclk, hext, hchg⟩
        have Hisw := Lib.hid hisw
        have Hclk := Lib.hid hclk
        have Hext := Lib.hid hext
        have Hchg := Lib.hid hchg
        clear hisw hclk hext hchg Hcall
        obtain ⟨av, cv, rfl⟩ := Hclk.out.1.shape
        go_wp2_with fail
        refine (clone_any Hclk.out.1 (by have := Hclk.out.2.1; omega)).mono ?_
        rintro e w2 ⟨v2, rfl, hI2, hn2, hb2⟩
        obtain ⟨a2, c2, rfl⟩ := hI2.shape
        have hsz : wr.heap.size ≤ w2.heap.size := Nat.le_trans Hba.out.size (Nat.le_trans Hchg.out.size hb2.size)
        have HI2 := Lib.hid hI2
        have Hn2 := Lib.hid hn2
        have Hb2 := Lib.hid hb2
        clear hI2 hn2 hb2
        obtain ⟨ao, co, rfl⟩ := owns_shape Hinv.out.own
        have hcv := Chg.alloc (fun _ => False) w2 (.cells #[.slice a2 (clockL rooms (stateL rooms WS.init (l.take k)) ⟨g, kd, ob, at'⟩).length c2] 23)
        have hown : (w2.alloc (.cells #[.slice a2 (clockL rooms (stateL rooms WS.init (l.take k)) ⟨g, kd, ob, at'⟩).length c2] 23)).ownsRow 0 23 1 (.slice ao k co) k vs := by
          have hlo : ∀ q, (Value.slice ao k co).ownBlock = some q → q < wr.heap.size := fun q hq => (Hinv.out.own.lt q hq).2
          refine ownsRow_chg (ownsRow_chg (ownsRow_chg (ownsRow_chg Hinv.out.own (Chg.of_new (S := fun _ => False) Hba.out) (fun _ _ h => h)) Hchg.out (fun q hq h => ?_)) (Chg.of_new (S := fun _ => False) Hb2.out) (fun _ _ h => h)) hcv (fun _ _ h => h)
          exact h.2 (Hinv.out.rout q hq).1
        have hx := new_cell w2 (.slice a2 (clockL rooms (stateL rooms WS.init (l.take k)) ⟨g, kd, ob, at'⟩).length c2) 23
        have hk9 : k ≤ 100000 := by omega
        go_wp2_with (at_builtin; refine wpList_append_at rfl _ _ 26 (by rfl) 23 i23 (.slice none 0 0) 24 Tryd.underlying26 hi23 hy1 hy2 hy3 rfl _ _ _ (by rfl) hown w2.heap.size 1 _ (by rfl) hx rfl hk9 (by omega) ?_)
        rintro vo' w4 hown4 hg4 hl4 q4 cp4 rfl
        have hstep := Hinv.out.step H00.out hlt Hba.out (by rw [Hev.out]; exact Hisw.out) Hext.out Hchg.out (by rw [Hev.out]; exact HI2.out) (by rw [Hev.out]; exact Hclk.out.2.1) Hn2.out Hb2.out ((Below.refl _ w2).alloc (Nat.le_refl _) _) hown4 hg4 hl4
        have Hstep := Lib.hid hstep
        clear hstep hown4 hg4 hl4 hown hx hcv Hinv
        go_wp2
        go_roundw
        case rel =>
          obtain ⟨ρ2, m2, vs2, hs⟩ := Hstep.out
          exact ⟨k + 1, ρ2, m2, vs2, by omega, by go_num, hs⟩
        case measure => simp [intOf]; omega
      · have hkn : k = l.length := by omega
        obtain rfl : k = l.length := hkn
        obtain ⟨ao, co, rfl⟩ := owns_shape hinv.own
        have Hinv := Lib.hid hinv
        clear hinv
        go_wp2
        go_ret2
        have hown := Hinv.out.own
        refine ⟨Hinv.out.below, .inr ⟨Hform.out, _, rfl, vs, ?_, fun j hj => (Hinv.out.vok j (by rw [clocksL_length] at hj; exact hj)).1⟩⟩
        rw [clocksL_length]
        exact SlAt.of_owns hown (by omega)
  · have hform : l.all evForm = false := by simpa using hform
    have Hform := Lib.hid hform
    clear hform
    go_enter Tryd.func13, Tryd.ntmps13
    go_wp2_with fail
    refine (check_any hev _ her).mono ?_
    rintro e w' ⟨rfl, hb⟩
    have hck : checkV l (.iface T ev0) = .iface T ev0 := by simp [checkV, Hform.out]
    rw [hck]
    go_wp2_with fail
    go_ret2
    exact ⟨hb, .inl ⟨Hform.out, rfl⟩⟩
set_option maxRecDepth 100000 in
set_option maxHeartbeats 1000000 in
theorem clocks_any {w : World} {v vr : Value} {l : List Ev} {rooms : List Int} {T : TypeId} {ev0 : Value} (ht : Trace l rooms) (hev : Evs w v l) (hr : Ints w vr rooms) (her : w.cell? ⟨0, 0, none⟩ = some (.iface T ev0)) :
    Calls Tryd.prog 13 #[v, vr] w (ClocksPost w rooms l (.iface T ev0)) := by
  rcases hev.cases with ⟨rfl, rfl⟩ | ⟨b, off, cap, rfl, hlt, hcap, hm, hc⟩
  · have hmm := @run_makeMap Tryd.prog
    obtain ⟨ar, cr, rfl⟩ := hr.shape
    go_enter Tryd.func13, Tryd.ntmps13
    go_wp2_with fail
    refine (check_any hev _ her).mono ?_
    rintro e wc ⟨rfl, hbc⟩
    have hck : checkV [] (.iface T ev0) = .nilIface := rfl
    rw [hck]
    clear hck
    go_wp2
    have hs := hbc.size
    go_loopw [8, 10, 24] (fun out _ i wr => out = .slice none 0 0 ∧ i = .int .i64 0 ∧ Below w.heap.size w wr) (fun _ _ _ _ => 0)
    case atStart => exact ⟨rfl, rfl, (((hbc.alloc hs _).alloc (by simp; omega) _).alloc (by simp; omega) _).alloc (by simp; omega) _⟩
    case round =>
      obtain ⟨rfl, rfl, hb0⟩ := hrel
      go_wp2
      go_ret2
      exact ⟨hb0, .inr ⟨rfl, _, rfl, [], SlAt.nil _ _, fun j hj => by simp [clocksL, clocksFrom] at hj⟩⟩
  · exact clocks_some ht hc hev hr her
end Go.Proofs.YtkjbpkggcddnhaaDoor
