/- Rows of races and of ints compared: ref18.Same, order.Same, SameInts. -/
import Derived.Test.YtkjbpkggcddnhaaDoorWithin
import Derived.Test.YtkjbpkggcddnhaaDoorRegion
namespace Go.Proofs.YtkjbpkggcddnhaaDoor
set_option linter.unusedVariables false
set_option linter.unusedSimpArgs false
open Go.RowKit Go.Maps

theorem race_neq (x y : RaceR) (w : World) : (binOp .neq 72 (raceV x) (raceV y)).run Tryd.prog w = .ok (.bool (!decide (x = y))) w := by
  obtain ⟨a1, a2, a3, a4, a5⟩ := x
  obtain ⟨b1, b2, b3, b4, b5⟩ := y
  have h : decide ((⟨a1, a2, a3, a4, a5⟩ : RaceR) = ⟨b1, b2, b3, b4, b5⟩) = (decide (a1 = b1) && decide (a2 = b2) && decide (a3 = b3) && decide (a4 = b4) && decide (a5 = b5)) := by
    simp [Bool.and_assoc]
  rw [h]
  simp only [raceV]
  go_simp
  by_cases h1 : a1 = b1 <;> by_cases h2 : a2 = b2 <;> by_cases h3 : a3 = b3 <;> by_cases h4 : a4 = b4 <;> by_cases h5 : a5 = b5 <;> simp [h1, h2, h3, h4, h5]

set_option maxRecDepth 100000 in
set_option maxHeartbeats 4000000 in
theorem refSame_any {w : World} {va vb : Value} {a b : List RaceR} (ha : RacesAt w va a) (hb : RacesAt w vb b) :
    Calls Tryd.prog 24 #[va, vb] w fun e w' => e = .returned (.bool (decide (a = b))) ∧ Below w.heap.size w w' := by
  obtain ⟨aa, ca, rfl⟩ := ha.shape
  obtain ⟨ab, cb, rfl⟩ := hb.shape
  have hal := ha.len
  have hbl := hb.len
  have Ha := Lib.hid ha
  have Hb := Lib.hid hb
  clear ha hb
  by_cases hne : a.length = b.length
  · have hbI : (b.length : Int) = a.length := by omega
    have Hne := Lib.hid hne
    rw [← hne] at Hb ⊢
    clear hne hbI
    go_enter Tryd.func24, Tryd.ntmps24
    go_wp2
    go_loopg [5, 13] (a.length) (fun gk s5 i wr => ∃ k : Nat, k ≤ a.length ∧ gk = a.length - k ∧ i = .int .i64 k ∧ (∀ j, j < k → a.getD j default = b.getD j default) ∧ Below w.heap.size w wr)
    case atStart => exact ⟨0, Nat.zero_le _, rfl, rfl, fun j hj => absurd hj (Nat.not_lt_zero _), Below.refl _ _⟩
    case round =>
      obtain ⟨k, hk, rfl, rfl, heq, hbw⟩ := hrel
      have Heq := Lib.hid heq
      clear heq
      by_cases hlt : k < a.length
      · obtain ⟨ba, oa, ca', he, hba, x0, x1, x2, x3, x4⟩ := (Ha.out.new hbw).at hlt
        obtain ⟨bb, ob, cb', he', hbb, z0, z1, z2, z3, z4⟩ := (Hb.out.new hbw).at (i := k) (by have := Hne.out; omega)
        rw [← Hne.out] at he'
        cases he
        cases he'
        have hklt : (k : Int) < (a.length : Int) := by omega
        have Hbw := Lib.hid hbw
        obtain ⟨r, hr⟩ : ∃ r, r = a.getD k default := ⟨_, rfl⟩
        obtain ⟨q, hq⟩ : ∃ q, q = b.getD k default := ⟨_, rfl⟩
        rw [← hr] at x0 x1 x2 x3 x4
        rw [← hq] at z0 z1 z2 z3 z4
        have Hr := Lib.hid hr
        have Hq := Lib.hid hq
        have hEq : ∀ y : World, (binOp .neq 72 (raceV r) (raceV q)).run Tryd.prog y = .ok (.bool (!decide (r = q))) y := fun y => race_neq r q y
        have Hdq := Lib.hid (rfl : decide (r = q) = decide (r = q))
        generalize hdq : decide (r = q) = dq at hEq
        have HD := Lib.hid hdq
        clear hdq hr hq hbw Hdq
        obtain ⟨r1, r2, r3, r4, r5⟩ := r
        obtain ⟨q1, q2, q3, q4, q5⟩ := q
        simp only [raceV] at hEq
        simp only at x0 x1 x2 x3 x4 z0 z1 z2 z3 z4
        go_wp2_with fail
        refine wp_region_order 8 [] (.take 0 (.take 1 (.take 2 (.take 3 (.take 4 (.take 5 (.take 6 (.take 7 (.done))))))))) (fun x => (x.cell? ⟨ba, oa + k * 5, none⟩ = some (.int .i64 r1) ∧ x.cell? ⟨ba, oa + k * 5 + 1, none⟩ = some (.int .i64 r2) ∧ x.cell? ⟨ba, oa + k * 5 + 2, none⟩ = some (.int .i64 r3) ∧ x.cell? ⟨ba, oa + k * 5 + 3, none⟩ = some (.bool r4) ∧ x.cell? ⟨ba, oa + k * 5 + 4, none⟩ = some (.bool r5)) ∧ x.cell? ⟨bb, ob + k * 5, none⟩ = some (.int .i64 q1) ∧ x.cell? ⟨bb, ob + k * 5 + 1, none⟩ = some (.int .i64 q2) ∧ x.cell? ⟨bb, ob + k * 5 + 2, none⟩ = some (.int .i64 q3) ∧ x.cell? ⟨bb, ob + k * 5 + 3, none⟩ = some (.bool q4) ∧ x.cell? ⟨bb, ob + k * 5 + 4, none⟩ = some (.bool q5)) (by kernel_rfl) (by kernel_rfl) ⟨⟨x0, x1, x2, x3, x4⟩, z0, z1, z2, z3, z4⟩ ?_
        refine wpFree_nil ?_
        repeat (first | (refine wpHeld_take (v := ?_) (by rfl) (by rfl) (fun x hx => ?_) (by exact fun _ _ _ h => h) ?_; rotate_left; (obtain ⟨⟨h1, h2, h3, h4, h5⟩, h6, h7, h8, h9, h10⟩ := hx; (first | (go_simp; done) | (go_simp; with_reducible rfl))); simp only [Act.put, List.setIfInBounds_toArray, List.set_cons_zero, List.set_cons_succ]))
        refine wpHeld_nil ?_
        dsimp only [List.drop]
        cases dq with
        | true =>
          have hrq := of_decide_eq_true HD.out
          rw [Hr.out, Hq.out] at hrq
          have Hrq := Lib.hid hrq
          clear hrq
          go_wp2
          go_roundg (a.length - (k + 1))
          case measure => omega
          case rel => exact ⟨k + 1, by omega, rfl, by go_num, fun j hj => (by by_cases e : j = k; (rw [e]; exact Hrq.out); exact Heq.out j (by omega)), Hbw.out.drew⟩
        | false =>
          have hrq := of_decide_eq_false HD.out
          rw [Hr.out, Hq.out] at hrq
          have hab : ¬ a = b := fun e => hrq (by rw [e])
          have Hab := Lib.hid hab
          clear hrq hab
          go_wp2
          go_ret
          exact ⟨ret_v (congrArg Value.bool (by rw [decide_eq_false Hab.out])), Hbw.out.drew⟩
      · obtain rfl : k = a.length := by omega
        have hab : a = b := by
          refine List.ext_getElem Hne.out fun i h1 h2 => ?_
          have := Heq.out i h1
          simpa [h1, h2] using this
        have Hab := Lib.hid hab
        clear hab
        go_wp2
        go_ret
        exact ⟨ret_v (congrArg Value.bool (by rw [decide_eq_true Hab.out])), hbw⟩
  · have hbI : ¬ (a.length : Int) = b.length := by omega
    have hbI' : ((a.length : Int) != b.length) = true := by simpa using hbI
    have hab : ¬ a = b := fun e => hne (by rw [e])
    have Hab := Lib.hid hab
    clear hab hbI hne
    go_enter Tryd.func24, Tryd.ntmps24
    go_wp2
    go_ret
    exact ⟨ret_v (congrArg Value.bool (by rw [decide_eq_false Hab.out])), Below.refl _ _⟩

set_option maxRecDepth 100000 in
set_option maxHeartbeats 4000000 in
theorem equal_any {w : World} {va vb : Value} {a b : List RaceR} (ha : RacesAt w va a) (hb : RacesAt w vb b) :
    Calls Tryd.prog 50 #[va, vb] w fun e w' => e = .returned (.bool (decide (a = b))) ∧ Below w.heap.size w w' := by
  obtain ⟨aa, ca, rfl⟩ := ha.shape
  obtain ⟨ab, cb, rfl⟩ := hb.shape
  have hal := ha.len
  have hbl := hb.len
  have Ha := Lib.hid ha
  have Hb := Lib.hid hb
  clear ha hb
  by_cases hne : a.length = b.length
  · have hbI : (b.length : Int) = a.length := by omega
    have Hne := Lib.hid hne
    rw [← hne] at Hb ⊢
    clear hne hbI
    go_enter Tryd.func50, Tryd.ntmps50
    go_wp2
    go_loopg [5, 13] (a.length) (fun gk s5 i wr => ∃ k : Nat, k ≤ a.length ∧ gk = a.length - k ∧ i = .int .i64 k ∧ (∀ j, j < k → a.getD j default = b.getD j default) ∧ Below w.heap.size w wr)
    case atStart => exact ⟨0, Nat.zero_le _, rfl, rfl, fun j hj => absurd hj (Nat.not_lt_zero _), Below.refl _ _⟩
    case round =>
      obtain ⟨k, hk, rfl, rfl, heq, hbw⟩ := hrel
      have Heq := Lib.hid heq
      clear heq
      by_cases hlt : k < a.length
      · obtain ⟨ba, oa, ca', he, hba, x0, x1, x2, x3, x4⟩ := (Ha.out.new hbw).at hlt
        obtain ⟨bb, ob, cb', he', hbb, z0, z1, z2, z3, z4⟩ := (Hb.out.new hbw).at (i := k) (by have := Hne.out; omega)
        rw [← Hne.out] at he'
        cases he
        cases he'
        have hklt : (k : Int) < (a.length : Int) := by omega
        have Hbw := Lib.hid hbw
        obtain ⟨r, hr⟩ : ∃ r, r = a.getD k default := ⟨_, rfl⟩
        obtain ⟨q, hq⟩ : ∃ q, q = b.getD k default := ⟨_, rfl⟩
        rw [← hr] at x0 x1 x2 x3 x4
        rw [← hq] at z0 z1 z2 z3 z4
        have Hr := Lib.hid hr
        have Hq := Lib.hid hq
        have hEq : ∀ y : World, (binOp .neq 72 (raceV r) (raceV q)).run Tryd.prog y = .ok (.bool (!decide (r = q))) y := fun y => race_neq r q y
        have Hdq := Lib.hid (rfl : decide (r = q) = decide (r = q))
        generalize hdq : decide (r = q) = dq at hEq
        have HD := Lib.hid hdq
        clear hdq hr hq hbw Hdq
        obtain ⟨r1, r2, r3, r4, r5⟩ := r
        obtain ⟨q1, q2, q3, q4, q5⟩ := q
        simp only [raceV] at hEq
        simp only at x0 x1 x2 x3 x4 z0 z1 z2 z3 z4
        go_wp2_with fail
        refine wp_region_order 8 [] (.take 0 (.take 1 (.take 2 (.take 3 (.take 4 (.take 5 (.take 6 (.take 7 (.done))))))))) (fun x => (x.cell? ⟨ba, oa + k * 5, none⟩ = some (.int .i64 r1) ∧ x.cell? ⟨ba, oa + k * 5 + 1, none⟩ = some (.int .i64 r2) ∧ x.cell? ⟨ba, oa + k * 5 + 2, none⟩ = some (.int .i64 r3) ∧ x.cell? ⟨ba, oa + k * 5 + 3, none⟩ = some (.bool r4) ∧ x.cell? ⟨ba, oa + k * 5 + 4, none⟩ = some (.bool r5)) ∧ x.cell? ⟨bb, ob + k * 5, none⟩ = some (.int .i64 q1) ∧ x.cell? ⟨bb, ob + k * 5 + 1, none⟩ = some (.int .i64 q2) ∧ x.cell? ⟨bb, ob + k * 5 + 2, none⟩ = some (.int .i64 q3) ∧ x.cell? ⟨bb, ob + k * 5 + 3, none⟩ = some (.bool q4) ∧ x.cell? ⟨bb, ob + k * 5 + 4, none⟩ = some (.bool q5)) (by kernel_rfl) (by kernel_rfl) ⟨⟨x0, x1, x2, x3, x4⟩, z0, z1, z2, z3, z4⟩ ?_
        refine wpFree_nil ?_
        repeat (first | (refine wpHeld_take (v := ?_) (by rfl) (by rfl) (fun x hx => ?_) (by exact fun _ _ _ h => h) ?_; rotate_left; (obtain ⟨⟨h1, h2, h3, h4, h5⟩, h6, h7, h8, h9, h10⟩ := hx; (first | (go_simp; done) | (go_simp; with_reducible rfl))); simp only [Act.put, List.setIfInBounds_toArray, List.set_cons_zero, List.set_cons_succ]))
        refine wpHeld_nil ?_
        dsimp only [List.drop]
        cases dq with
        | true =>
          have hrq := of_decide_eq_true HD.out
          rw [Hr.out, Hq.out] at hrq
          have Hrq := Lib.hid hrq
          clear hrq
          go_wp2
          go_roundg (a.length - (k + 1))
          case measure => omega
          case rel => exact ⟨k + 1, by omega, rfl, by go_num, fun j hj => (by by_cases e : j = k; (rw [e]; exact Hrq.out); exact Heq.out j (by omega)), Hbw.out.drew⟩
        | false =>
          have hrq := of_decide_eq_false HD.out
          rw [Hr.out, Hq.out] at hrq
          have hab : ¬ a = b := fun e => hrq (by rw [e])
          have Hab := Lib.hid hab
          clear hrq hab
          go_wp2
          go_ret
          exact ⟨ret_v (congrArg Value.bool (by rw [decide_eq_false Hab.out])), Hbw.out.drew⟩
      · obtain rfl : k = a.length := by omega
        have hab : a = b := by
          refine List.ext_getElem Hne.out fun i h1 h2 => ?_
          have := Heq.out i h1
          simpa [h1, h2] using this
        have Hab := Lib.hid hab
        clear hab
        go_wp2
        go_ret
        exact ⟨ret_v (congrArg Value.bool (by rw [decide_eq_true Hab.out])), hbw⟩
  · have hbI : ¬ (a.length : Int) = b.length := by omega
    have hbI' : ((a.length : Int) != b.length) = true := by simpa using hbI
    have hab : ¬ a = b := fun e => hne (by rw [e])
    have Hab := Lib.hid hab
    clear hab hbI hne
    go_enter Tryd.func50, Tryd.ntmps50
    go_wp2
    go_ret
    exact ⟨ret_v (congrArg Value.bool (by rw [decide_eq_false Hab.out])), Below.refl _ _⟩

set_option maxRecDepth 100000 in
theorem ordSame_any {w : World} {va vb : Value} {a b : List RaceR} (ha : RacesAt w va a) (hb : RacesAt w vb b) :
    Calls Tryd.prog 25 #[va, vb] w fun e w' => e = .returned (.bool (decide (a = b))) ∧ Below w.heap.size w w' := by
  have H := Lib.hid (equal_any ha hb)
  clear ha hb
  go_enter Tryd.func25, Tryd.ntmps25
  go_wp2_with fail
  refine H.out.mono ?_
  rintro e w' ⟨rfl, hb⟩
  go_wp2_with fail
  go_ret
  exact ⟨rfl, hb⟩

set_option maxRecDepth 100000 in
set_option maxHeartbeats 4000000 in
theorem sameInts_any {w : World} {va vb : Value} {a b : List Int} (ha : Ints w va a) (hb : Ints w vb b) :
    Calls Tryd.prog 21 #[va, vb] w fun e w' => e = .returned (.bool (decide (a = b))) ∧ Below w.heap.size w w' := by
  obtain ⟨aa, ca, rfl⟩ := ha.shape
  obtain ⟨ab, cb, rfl⟩ := hb.shape
  have hal := ha.len
  have hbl := hb.len
  have Ha := Lib.hid ha
  have Hb := Lib.hid hb
  clear ha hb
  by_cases hne : a.length = b.length
  · have Hne := Lib.hid hne
    rw [← hne] at Hb ⊢
    clear hne
    go_enter Tryd.func21, Tryd.ntmps21
    go_wp2
    go_loopg [5, 13] (a.length) (fun gk s5 i wr => ∃ k : Nat, k ≤ a.length ∧ gk = a.length - k ∧ i = .int .i64 k ∧ (∀ j, j < k → a.getD j 0 = b.getD j 0) ∧ Below w.heap.size w wr)
    case atStart => exact ⟨0, Nat.zero_le _, rfl, rfl, fun j hj => absurd hj (Nat.not_lt_zero _), Below.refl _ _⟩
    case round =>
      obtain ⟨k, hk, rfl, rfl, heq, hbw⟩ := hrel
      have Heq := Lib.hid heq
      clear heq
      by_cases hlt : k < a.length
      · rcases (Ha.out.new hbw).cases with ⟨_, h0⟩ | ⟨ba, oa, ca', he, _, _, _, hca⟩
        · rw [h0] at hlt; simp at hlt
        rcases (Hb.out.new hbw).cases with ⟨_, h0⟩ | ⟨bb, ob, cb', he', _, _, _, hcb⟩
        · have := Hne.out; rw [h0] at this; simp at this; rw [this] at hlt; simp at hlt
        rw [← Hne.out] at he'
        cases he
        cases he'
        have x0 := hca k hlt
        have z0 := hcb k (by have := Hne.out; omega)
        have hklt : (k : Int) < (a.length : Int) := by omega
        have Hbw := Lib.hid hbw
        obtain ⟨r, hr⟩ : ∃ r, r = a.getD k 0 := ⟨_, rfl⟩
        obtain ⟨q, hq⟩ : ∃ q, q = b.getD k 0 := ⟨_, rfl⟩
        rw [← hr] at x0
        rw [← hq] at z0
        have Hr := Lib.hid hr
        have Hq := Lib.hid hq
        clear hr hq hbw hca hcb
        go_wp2_with fail
        refine wp_region_order 8 [] (.take 0 (.take 1 (.take 2 (.take 3 (.take 4 (.take 5 (.take 6 (.take 7 (.done))))))))) (fun x => x.cell? ⟨ba, oa + k, none⟩ = some (.int .i64 r) ∧ x.cell? ⟨bb, ob + k, none⟩ = some (.int .i64 q)) (by kernel_rfl) (by kernel_rfl) ⟨x0, z0⟩ ?_
        refine wpFree_nil ?_
        repeat (first | (refine wpHeld_take (v := ?_) (by rfl) (by rfl) (fun x hx => ?_) (by exact fun _ _ _ h => h) ?_; rotate_left; (obtain ⟨h1, h2⟩ := hx; (first | (go_simp; done) | (go_simp; with_reducible rfl))); simp only [Act.put, List.setIfInBounds_toArray, List.set_cons_zero, List.set_cons_succ]))
        refine wpHeld_nil ?_
        dsimp only [List.drop]
        by_cases hrq : r = q
        · obtain rfl : r = q := hrq
          have hrq := Hr.out.symm.trans Hq.out
          have Hrq := Lib.hid hrq
          clear hrq
          go_wp2
          go_roundg (a.length - (k + 1))
          case measure => omega
          case rel => exact ⟨k + 1, by omega, rfl, by go_num, fun j hj => (by by_cases e : j = k; (rw [e]; exact Hrq.out); exact Heq.out j (by omega)), Hbw.out.drew⟩
        · have hrq' : (r != q) = true := by simpa using hrq
          have hab : ¬ a = b := fun e => hrq (by rw [Hr.out, Hq.out, e])
          have Hab := Lib.hid hab
          clear hab hrq
          go_wp2
          go_ret
          exact ⟨ret_v (congrArg Value.bool (by rw [decide_eq_false Hab.out])), Hbw.out.drew⟩
      · obtain rfl : k = a.length := by omega
        have hab : a = b := by
          refine List.ext_getElem Hne.out fun i h1 h2 => ?_
          have := Heq.out i h1
          simpa [h1, h2] using this
        have Hab := Lib.hid hab
        clear hab
        go_wp2
        go_ret
        exact ⟨ret_v (congrArg Value.bool (by rw [decide_eq_true Hab.out])), hbw⟩
  · have hbI : ¬ (a.length : Int) = b.length := by omega
    have hbI' : ((a.length : Int) != b.length) = true := by simpa using hbI
    have hab : ¬ a = b := fun e => hne (by rw [e])
    have Hab := Lib.hid hab
    clear hab hbI hne
    go_enter Tryd.func21, Tryd.ntmps21
    go_wp2
    go_ret
    exact ⟨ret_v (congrArg Value.bool (by rw [decide_eq_false Hab.out])), Below.refl _ _⟩
end Go.Proofs.YtkjbpkggcddnhaaDoor
