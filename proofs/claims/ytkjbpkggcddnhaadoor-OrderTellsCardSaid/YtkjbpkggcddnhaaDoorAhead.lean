/- The walks of order.ahead and order.Before. -/
import Derived.Test.YtkjbpkggcddnhaaDoorClocks
import Derived.Test.YtkjbpkggcddnhaaDoorRaceSpec
import Derived.Test.YtkjbpkggcddnhaaDoorRegion
namespace Go.Proofs.YtkjbpkggcddnhaaDoor
set_option linter.unusedVariables false
set_option linter.unusedSimpArgs false
open Go.RowKit

theorem Evs.at {w : World} {v : Value} {l : List Ev} (h : Evs w v l) {i : Nat} (hi : i < l.length) : ∃ b off cap, v = .slice (some ⟨b, off, none⟩) l.length cap ∧ b < w.heap.size ∧
      w.cell? ⟨b, off + i * 4, none⟩ = some (.int .i64 (l.getD i default).g) ∧ w.cell? ⟨b, off + i * 4 + 1, none⟩ = some (.int .i64 (l.getD i default).kind) ∧
      w.cell? ⟨b, off + i * 4 + 2, none⟩ = some (.int .i64 (l.getD i default).obj) ∧ w.cell? ⟨b, off + i * 4 + 3, none⟩ = some (.int .i64 (l.getD i default).at_) := by
  rcases h.cases with ⟨rfl, rfl⟩ | ⟨b, off, cap, rfl, hlt, _, _, hc⟩
  · simp at hi
  · exact ⟨b, off, cap, rfl, hlt, hc i hi⟩
theorem ClksAt.at {w : World} {v : Value} {L : List (List Int)} (h : ClksAt w v L) {i j : Nat} (hi : i < L.length) (hj : j < L.length) : ∃ b off cap vi vj, v = .slice (some ⟨b, off, none⟩) L.length cap ∧ b < w.heap.size ∧
      w.cell? ⟨b, off + i, none⟩ = some vi ∧ w.cell? ⟨b, off + j, none⟩ = some vj ∧ Ints w vi (L.getD i []) ∧ Ints w vj (L.getD j []) := by
  obtain ⟨vs, ⟨hl, hm, hs⟩, hv⟩ := h
  rcases hs with ⟨rfl, h0⟩ | ⟨b, off, cap, rfl, hlt, _, hc⟩
  · rw [h0] at hi; simp at hi
  · have hg : ∀ i, i < L.length → w.cell? ⟨b, off + i, none⟩ = some (vs.getD i undef) := fun i hi => by
      rw [hc i (by omega)]
      have : i < vs.length := by omega
      simp [this]
    exact ⟨b, off, cap, _, _, rfl, hlt, hg i hi, hg j hj, hv i hi, hv j hj⟩
theorem ClksAt.shape {w : World} {v : Value} {L : List (List Int)} (h : ClksAt w v L) : ∃ a c, v = .slice a L.length c := by
  obtain ⟨vs, ⟨hl, hm, hs⟩, hv⟩ := h
  rcases hs with ⟨rfl, h0⟩ | ⟨b, off, cap, rfl, _⟩
  · rw [h0]; exact ⟨_, _, rfl⟩
  · exact ⟨_, _, rfl⟩

set_option maxRecDepth 100000 in
set_option maxHeartbeats 1000000 in
theorem ahead_any {w : World} {vt vc : Value} {l : List Ev} {L : List (List Int)} (hev : Evs w vt l) (hck : ClksAt w vc L) {a b : Nat} (ha : a < l.length) (ha' : a < L.length) (hb : b < L.length) :
    Calls Tryd.prog 44 #[vt, vc, .int .i64 a, .int .i64 b] w fun e w' => e = .returned (.bool (aheadL l L a b)) ∧ Below w.heap.size w w' := by
  obtain ⟨be, oe, ce, rfl, hlt1, c0, _⟩ := hev.at ha
  obtain ⟨bc, oc, cc, va, vb, rfl, hlt2, k0, k1, hva, hvb⟩ := hck.at ha' hb
  have hal : aheadL l L a b = decide (getL (L.getD a []) (l.getD a default).g ≤ getL (L.getD b []) (l.getD a default).g) := rfl
  generalize (l.getD a default).g = g at c0 hal
  generalize L.getD a [] = la at hva hal
  generalize L.getD b [] = lb at hvb hal
  have hva' : Ints w.drew va la := hva.new ((Below.refl _ w).drew)
  have hvb' : Ints w.drew vb lb := hvb.new ((Below.refl _ w).drew)
  have Hal := Lib.hid hal
  clear hal hev hck
  go_enter Tryd.func44, Tryd.ntmps44
  go_wp2_with fail
  refine wp_region_order 11 [] (.take 0 (.take 1 (.take 2 (.take 3 (.take 4 (.take 6 (.take 7 (.take 8 (.take 9 (.take 10 (.one 5 (.done)))))))))))) (fun x => x.cell? ⟨bc, oc + a, none⟩ = some va ∧ x.cell? ⟨bc, oc + b, none⟩ = some vb) (by kernel_rfl) (by kernel_rfl) ⟨k0, k1⟩ ?_
  refine wpFree_nil ?_
  repeat (first | (refine wpHeld_take (v := ?_) (by rfl) (by rfl) (fun x hx => ?_) (by exact fun _ _ _ h => h) ?_; rotate_left; (obtain ⟨h1, h2⟩ := hx; (first | (go_simp; done) | (go_simp; with_reducible rfl))); simp only [Act.put, List.setIfInBounds_toArray, List.set_cons_zero, List.set_cons_succ]))
  refine wpHeld_do (by rfl) (by rfl) (fun K hK => ?_)
  go_simp
  refine (get_ints (l := la) (w := w.drew) hva' _).mono ?_
  rintro e w' ⟨rfl, rfl⟩
  refine hK _ _ ⟨k0, k1⟩ ?_
  clear hK K
  try simp only [Act.put, List.setIfInBounds_toArray, List.set_cons_zero, List.set_cons_succ]
  refine wpHeld_nil ?_
  dsimp only [List.drop]
  go_wp2_with fail
  refine (get_ints (l := lb) (w := w.drew) hvb' _).mono ?_
  rintro e w' ⟨rfl, rfl⟩
  go_wp2
  go_ret
  exact ⟨ret_v (by rw [Hal.out]; rfl), (Below.refl _ w).drew⟩

/-- Does a happen before b? -/
def beforeL (rooms : List Int) (l : List Ev) (a b : Int) : Bool := decide (a < b) && aheadL l (clocksL rooms l) a.toNat b.toNat
def inside (l : List Ev) (a b : Int) : Bool := l.all evForm && decide (0 ≤ a) && decide (0 ≤ b) && decide (a < l.length) && decide (b < l.length)
def beforeV (rooms : List Int) (l : List Ev) (a b : Int) (er : Value) : Value := if inside l a b = true then .tuple #[.bool (beforeL rooms l a b), .nilIface] else .tuple #[.bool false, er]

set_option maxRecDepth 100000 in
set_option maxHeartbeats 4000000 in
theorem before_any {w : World} {vt vr : Value} {l : List Ev} {rooms : List Int} {T : TypeId} {ev0 : Value} (ht : Trace l rooms) (hev : Evs w vt l) (hr : Ints w vr rooms) (her : w.cell? ⟨0, 0, none⟩ = some (.iface T ev0)) (a b : Int) :
    Calls Tryd.prog 17 #[vt, vr, .int .i64 a, .int .i64 b] w fun e w' => e = .returned (beforeV rooms l a b (.iface T ev0)) ∧ Below w.heap.size w w' := by
  obtain ⟨at', ct, rfl⟩ := hev.shape
  have Hcall := Lib.hid (clocks_any ht hev hr her)
  have Hev := Lib.hid hev
  obtain ⟨ar, cr, rfl⟩ := hr.shape
  clear hev hr
  go_enter Tryd.func17, Tryd.ntmps17
  go_wp2_with fail
  refine Hcall.out.mono ?_
  clear Hcall
  rintro e w1 ⟨hb1, hres⟩
  have her1 : w1.cell? ⟨0, 0, none⟩ = some (.iface T ev0) := (hb1.cell (World.block_lt_of_cell? w _ her)).trans her
  rcases hres with ⟨hf, rfl⟩ | ⟨hf, v, rfl, hck⟩
  · have hV : beforeV rooms l a b (.iface T ev0) = .tuple #[.bool false, .iface T ev0] := by unfold beforeV inside; rw [hf]; simp
    have HV := Lib.hid hV
    clear hV hf
    go_wp2_with fail
    go_ret2
    exact ⟨by rw [HV.out]; rfl, hb1⟩
  · have hbad : inside l a b = false → beforeV rooms l a b (.iface T ev0) = .tuple #[.bool false, .iface T ev0] := fun h => by unfold beforeV; rw [h]; simp
    have hgood : inside l a b = true → beforeV rooms l a b (.iface T ev0) = .tuple #[.bool (beforeL rooms l a b), .nilIface] := fun h => by unfold beforeV; rw [h]; simp
    have hin : inside l a b = (decide (0 ≤ a) && decide (0 ≤ b) && decide (a < l.length) && decide (b < l.length)) := by unfold inside; rw [hf]; simp
    have Hbad := Lib.hid hbad
    have Hgood := Lib.hid hgood
    have Hin := Lib.hid hin
    obtain ⟨ac, cc, rfl⟩ := hck.shape
    have Hck := Lib.hid hck
    clear hbad hgood hin hf hck
    by_cases h1 : a < 0
    · go_wp2_with fail
      go_quiet (fail)
      go_wp2_with fail
      go_ret2
      exact ⟨by rw [Hbad.out (by rw [Hin.out]; simp; omega)]; rfl, below_drewN hb1 _⟩
    by_cases h2 : b < 0
    · go_wp2_with fail
      go_quiet (fail)
      go_wp2_with fail
      go_ret2
      exact ⟨by rw [Hbad.out (by rw [Hin.out]; simp; omega)]; rfl, below_drewN hb1 _⟩
    by_cases h3 : (l.length : Int) ≤ a
    · go_wp2_with fail
      go_quiet (fail)
      go_wp2_with fail
      go_ret2
      exact ⟨by rw [Hbad.out (by rw [Hin.out]; simp; omega)]; rfl, below_drewN hb1 _⟩
    by_cases h4 : (l.length : Int) ≤ b
    · go_wp2_with fail
      go_quiet (fail)
      go_wp2_with fail
      go_ret2
      exact ⟨by rw [Hbad.out (by rw [Hin.out]; simp; omega)]; rfl, below_drewN hb1 _⟩
    obtain ⟨a, rfl⟩ := Int.eq_ofNat_of_zero_le (Int.not_lt.1 h1)
    obtain ⟨b, rfl⟩ := Int.eq_ofNat_of_zero_le (Int.not_lt.1 h2)
    have hB := Hgood.out (by rw [Hin.out]; simp; omega)
    have HB := Lib.hid hB
    clear hB
    have h3' : (a : Int) < l.length := by omega
    have h4' : (b : Int) < l.length := by omega
    by_cases h5 : a < b
    · have h5' : (a : Int) < b := by omega
      go_wp2_with fail
      refine (ahead_any (Hev.out.new hb1) Hck.out (a := a) (b := b) (by omega) (by rw [clocksL_length]; omega) (by rw [clocksL_length]; omega)).mono ?_
      rintro e w2 ⟨rfl, hb2⟩
      generalize haL : aheadL l (clocksL rooms l) a b = x
      have HaL := Lib.hid haL
      clear haL
      go_wp2_with fail
      go_ret2
      refine ⟨?_, hb1.trans (hb2.mono hb1.size)⟩
      rw [HB.out]
      unfold beforeL
      rw [Int.toNat_natCast, Int.toNat_natCast, HaL.out]
      simp [h5]
    · have h5' : ¬ (a : Int) < b := by omega
      go_wp2_with fail
      go_ret2
      refine ⟨?_, hb1⟩
      rw [HB.out]
      unfold beforeL
      simp [h5]
end Go.Proofs.YtkjbpkggcddnhaaDoor
