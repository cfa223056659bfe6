/- The walk of stockadelaw18.OrderChains. -/
import Derived.Test.YtkjbpkggcddnhaaDoorAlive
import Derived.Test.YtkjbpkggcddnhaaDoorChain
import Derived.IntWalk
import Derived.Laws.Bits64
namespace Go.Proofs.YtkjbpkggcddnhaaDoor
set_option linter.unusedVariables false
set_option linter.unusedSimpArgs false
open Go.RowKit Go.Maps

theorem le_of_wf {r : Int} (h : (Lit.int .i64 r).wf = true) : r ≤ 9223372036854775807 := by
  have hm : IntKind.i64.max = 9223372036854775807 := by decide
  simp only [Lit.wf, Bool.and_eq_true, decide_eq_true_eq] at h
  omega
/-- int(uint(x) % uint(n)). -/
def umod (x : Int) (n : Nat) : Nat := (IntKind.u64.wrap x).toNat % n
theorem u64_nonneg (x : Int) : 0 ≤ IntKind.u64.wrap x := by rw [IntKind.wrap_u64]; omega
theorem umod_lt {x : Int} {n : Nat} (h : 0 < n) : umod x n < n := Nat.mod_lt _ h

theorem umod_eq (x : Int) {n : Nat} (h : 0 < n) (h2 : n ≤ 1000) : wrap64 ((IntKind.u64.wrap x).tmod (n : Int)) = (umod x n : Nat) := by
  have h0 := u64_nonneg x
  obtain ⟨m, hm⟩ := Int.eq_ofNat_of_zero_le h0
  have hlt := Nat.mod_lt m h
  unfold umod
  rw [hm, Int.toNat_natCast, IntWalk.rem_in _ _ (by omega), show ((m : Int) % (n : Int)) = ((m % n : Nat) : Int) from rfl]
  exact IntWalk.wrap64_in _ ⟨by omega, by omega⟩
theorem inside_in {l : List Ev} (hl : l.all evForm = true) {a b : Nat} (ha : a < l.length) (hb : b < l.length) : inside l a b = true := by
  unfold inside; rw [hl]; simp; omega
theorem beforeV_in (rooms : List Int) {l : List Ev} (hl : l.all evForm = true) {a b : Nat} (ha : a < l.length) (hb : b < l.length) (er : Value) : beforeV rooms l a b er = .tuple #[.bool (beforeL rooms l a b), .nilIface] := by
  unfold beforeV; rw [inside_in hl ha hb]; simp
theorem form_nonneg {l : List Ev} (hl : l.all evForm = true) : ∀ e ∈ l, 0 ≤ e.g := fun e he => (evForm_true (List.all_eq_true.1 hl e he)).1

set_option maxRecDepth 100000 in
set_option maxHeartbeats 8000000 in
theorem chains_any {w : World} {vt vr : Value} {l : List Ev} {rooms : List Int} {T : TypeId} {ev0 : Value} (a b c : Int) (hev : Evs w vt l) (hr : Ints w vr rooms) (hwf : ∀ e ∈ l, evWf e) (hrm : ∀ r ∈ rooms, (Lit.int .i64 r).wf = true) (her : w.cell? ⟨0, 0, none⟩ = some (.iface T ev0)) :
    Calls Tryd.prog 5 #[.agg #[vt, vr, .int .i64 a, .int .i64 b], .int .i64 c] w fun e w' => e = .returned (.bool true) ∧ Below w.heap.size w w' := by
  obtain ⟨at', ct, rfl⟩ := hev.shape
  obtain ⟨ar, cr, rfl⟩ := hr.shape
  have Hev := Lib.hid hev
  have Hr := Lib.hid hr
  have Her := Lib.hid her
  have Hwf := Lib.hid hwf
  have Hrm := Lib.hid hrm
  have hrl := hr.len
  have hel := hev.2.1
  clear hev her hwf hr hrm
  go_enter Tryd.func5, Tryd.ntmps5
  go_wp2_with fail
  have hb0 : Below w.heap.size w (w.alloc (.cells #[.slice at' l.length ct, .slice ar rooms.length cr, .int .i64 a, .int .i64 b] 40)) := (Below.refl _ w).alloc (Nat.le_refl _) _
  refine (alive_any ((hb0.cell (World.block_lt_of_cell? w _ Her.out)).trans Her.out)).mono ?_
  rintro e w1 ⟨rfl, hb1⟩
  have hc := new_cells w [.slice at' l.length ct, .slice ar rooms.length cr, .int .i64 a, .int .i64 b] 40
  have d0 := (hb1.cell (p := ⟨w.heap.size, 0, none⟩) (by simp)).trans (hc 0 _ rfl)
  have d1 := (hb1.cell (p := ⟨w.heap.size, 1, none⟩) (by simp)).trans (hc 1 _ rfl)
  have d2 := (hb1.cell (p := ⟨w.heap.size, 2, none⟩) (by simp)).trans (hc 2 _ rfl)
  have d3 := (hb1.cell (p := ⟨w.heap.size, 3, none⟩) (by simp)).trans (hc 3 _ rfl)
  have Hb1 := Lib.hid (hb0.trans (hb1.mono hb0.size))
  clear hb0 hb1 hc
  by_cases h1 : l.length < 1
  · have h1' : (l.length : Int) < 1 := by omega
    go_wp2_with fail
    go_ret
    exact ⟨rfl, Hb1.out⟩
  have h1' : 1 ≤ (l.length : Int) := by omega
  by_cases h2 : 100 < l.length
  · have h2' : (100 : Int) < (l.length : Int) := by omega
    go_wp2_with fail
    go_ret
    exact ⟨rfl, Hb1.out⟩
  have h2' : (l.length : Int) ≤ 100 := by omega
  by_cases h3 : 100 < rooms.length
  · have h3' : (100 : Int) < (rooms.length : Int) := by omega
    go_wp2_with fail
    go_ret
    exact ⟨rfl, Hb1.out⟩
  have h3' : (rooms.length : Int) ≤ 100 := by omega
  go_wp2_with fail
  refine (form_any (Hev.out.new Hb1.out)).mono ?_
  rintro e w2 ⟨he, hb2⟩
  unfold formV at he
  rw [← hb2.cell (World.block_lt_of_cell? w1 _ d0)] at d0
  rw [← hb2.cell (World.block_lt_of_cell? w1 _ d1)] at d1
  rw [← hb2.cell (World.block_lt_of_cell? w1 _ d2)] at d2
  rw [← hb2.cell (World.block_lt_of_cell? w1 _ d3)] at d3
  have Hb2 := Lib.hid (Hb1.out.trans (hb2.mono Hb1.out.size))
  clear hb2
  cases hform : l.all evForm with
  | false =>
    rw [hform] at he
    subst he
    clear hform
    go_wp2_with fail
    go_ret
    exact ⟨rfl, Hb2.out⟩
  | true =>
    rw [hform] at he
    subst he
    have Hform := Lib.hid hform
    clear hform
    have hq0 : (0 : Int) < (l.length : Int) := by omega
    go_wp2_with fail
    go_quiet (fail)
    go_wp2_with fail
    have ht : Trace l rooms := ⟨by omega, fun e he => (Hwf.out e he).2.2.1, fun r hr => le_of_wf (Hrm.out r hr)⟩
    rw [umod_eq a (by omega) (by omega), umod_eq b (by omega) (by omega), umod_eq c (by omega) (by omega)]
    have hA := umod_lt (x := a) (n := l.length) (by omega)
    have hB := umod_lt (x := b) (n := l.length) (by omega)
    have hC := umod_lt (x := c) (n := l.length) (by omega)
    generalize umod a l.length = A at hA ⊢
    generalize umod b l.length = B at hB ⊢
    generalize umod c l.length = C at hC ⊢
    have hbq : Below w2.heap.size w2 (w2.drewN nq) := below_drewN (Below.refl _ _) nq
    have Hb3 := Lib.hid (Hb2.out.trans (hbq.mono Hb2.out.size))
    generalize w2.drewN nq = w3 at Hb3 hbq ⊢
    have d1' : w3.cell? ⟨w.heap.size, 1, none⟩ = some (.slice ar rooms.length cr) := (hbq.cell (World.block_lt_of_cell? w2 _ d1)).trans d1
    have hbf : ∀ w' (hb : Below w3.heap.size w3 w') (i j : Nat), i < l.length → j < l.length → Calls Tryd.prog 17 #[.slice at' l.length ct, .slice ar rooms.length cr, .int .i64 i, .int .i64 j] w' fun e w'' => e = .returned (.tuple #[.bool (beforeL rooms l i j), .nilIface]) ∧ Below w'.heap.size w' w'' := fun w' hb i j hi hj => by
      have hb4 := Hb3.out.trans (hb.mono Hb3.out.size)
      have h := before_any (T := T) (ev0 := ev0) ht (Hev.out.new hb4) (Hr.out.new hb4) ((hb4.cell (World.block_lt_of_cell? w _ Her.out)).trans Her.out) i j
      rw [beforeV_in rooms Hform.out hi hj] at h
      exact h
    have Hbf := Lib.hid hbf
    have hlaw1 : beforeL rooms l A B = true → A < B := fun h => by unfold beforeL at h; simp at h; omega
    have hlaw2 : beforeL rooms l A B = true → beforeL rooms l B A = false := fun h => by have := hlaw1 h; unfold beforeL; simp; omega
    have hlaw3 : beforeL rooms l A B = true → beforeL rooms l B C = true → beforeL rooms l A C = true := fun h1 h2 => by
      unfold beforeL at h1 h2 ⊢
      simp only [Bool.and_eq_true, decide_eq_true_eq, Int.toNat_natCast] at h1 h2 ⊢
      exact ⟨by omega, ahead_trans (form_nonneg Hform.out) (by omega) (by omega) hC h1.2 h2.2⟩
    have Hlaw1 := Lib.hid hlaw1
    have Hlaw2 := Lib.hid hlaw2
    have Hlaw3 := Lib.hid hlaw3
    clear hbf hlaw1 hlaw2 hlaw3 hbq d0 d1 d2 d3 ht
    refine (Hbf.out _ (Below.refl _ _) A B hA hB).mono ?_
    rintro e w4 ⟨rfl, hb4⟩
    rw [← hb4.cell (World.block_lt_of_cell? w3 _ d1')] at d1'
    have Hb4 := Lib.hid hb4
    clear hb4
    go_wp2_with fail
    refine (Hbf.out _ Hb4.out B A hB hA).mono ?_
    rintro e w5 ⟨rfl, hb5⟩
    rw [← hb5.cell (World.block_lt_of_cell? w4 _ d1')] at d1'
    have Hb5 := Lib.hid (Hb4.out.trans (hb5.mono Hb4.out.size))
    clear hb5
    go_wp2_with fail
    refine (Hbf.out _ Hb5.out B C hB hC).mono ?_
    rintro e w6 ⟨rfl, hb6⟩
    rw [← hb6.cell (World.block_lt_of_cell? w5 _ d1')] at d1'
    have Hb6 := Lib.hid (Hb5.out.trans (hb6.mono Hb5.out.size))
    clear hb6
    go_wp2_with fail
    refine (Hbf.out _ Hb6.out A C hA hC).mono ?_
    rintro e w7 ⟨rfl, hb7⟩
    have Hb7 := Lib.hid (Hb3.out.trans ((Hb6.out.trans (hb7.mono Hb6.out.size)).mono Hb3.out.size))
    clear hb7 d1'
    generalize beforeL rooms l A B = ab at Hlaw1 Hlaw2 Hlaw3 ⊢
    generalize beforeL rooms l B A = ba at Hlaw2 ⊢
    generalize beforeL rooms l B C = bc at Hlaw3 ⊢
    generalize beforeL rooms l A C = ac at Hlaw3 ⊢
    cases ab with
    | false =>
      go_wp2_with fail
      go_ret
      exact ⟨rfl, Hb7.out⟩
    | true =>
      have hlt := Hlaw1.out rfl
      have hltI : (A : Int) < (B : Int) := by omega
      obtain rfl := Hlaw2.out rfl
      cases bc with
      | false =>
        go_wp2_with fail
        go_ret
        exact ⟨rfl, Hb7.out⟩
      | true =>
        obtain rfl := Hlaw3.out rfl rfl
        go_wp2_with fail
        go_ret
        exact ⟨rfl, Hb7.out⟩
end Go.Proofs.YtkjbpkggcddnhaaDoor
