/- The walks of the reference's which, nth and atomic. -/
import Derived.Test.YtkjbpkggcddnhaaDoorTells
import Derived.Test.YtkjbpkggcddnhaaDoorAhead
import Derived.Deep.LoopGhost
namespace Go.Proofs.YtkjbpkggcddnhaaDoor
set_option linter.unusedVariables false
set_option linter.unusedSimpArgs false
open Go.RowKit

theorem isAt_self (l : List Ev) (i k : Nat) : isAt l (l.getD i default).kind (l.getD i default).obj k = (decide ((l.getD k default).kind = (l.getD i default).kind) && decide ((l.getD k default).obj = (l.getD i default).obj)) := rfl

set_option maxRecDepth 100000 in
set_option maxHeartbeats 4000000 in
theorem which_any {w : World} {vt : Value} {l : List Ev} (hev : Evs w vt l) {i : Nat} (hi : i < l.length) :
    Calls Tryd.prog 72 #[vt, .int .i64 i] w fun e w' => e = .returned (.int .i64 (whichL l i)) ∧ Below w.heap.size w w' := by
  obtain ⟨be, oe, ce, rfl, hbe, _, d1, d2, _⟩ := hev.at hi
  have hel := hev.2.1
  have Hev := Lib.hid hev
  clear hev
  have hiI : (i : Int) < (l.length : Int) := by omega
  go_enter Tryd.func72, Tryd.ntmps72
  go_wp2
  go_loopg [5, 6] (i) (fun gk n k' wr => ∃ k : Nat, k ≤ i ∧ gk = i - k ∧ k' = .int .i64 k ∧ n = .int .i64 (cq (isAt l (l.getD i default).kind (l.getD i default).obj) k) ∧ Below w.heap.size w wr)
  case atStart => exact ⟨0, Nat.zero_le _, rfl, rfl, rfl, Below.refl _ _⟩
  case round =>
    obtain ⟨k, hk, rfl, rfl, rfl, hbw⟩ := hrel
    by_cases hlt : k < i
    · obtain ⟨be', oe', ce', he, _, _, c1, c2, _⟩ := Hev.out.at (i := k) (by omega)
      cases he
      rw [← hbw.cell (World.block_lt_of_cell? w _ c1)] at c1
      rw [← hbw.cell (World.block_lt_of_cell? w _ c2)] at c2
      have e1 := d1
      have e2 := d2
      rw [← hbw.cell (World.block_lt_of_cell? w _ d1)] at e1
      rw [← hbw.cell (World.block_lt_of_cell? w _ d2)] at e2
      have hs := cq_succ (isAt l (l.getD i default).kind (l.getD i default).obj) k
      rw [isAt_self] at hs
      have hle := cq_le (isAt l (l.getD i default).kind (l.getD i default).obj) k
      have Hbw := Lib.hid hbw
      have hkI : (k : Int) < (i : Int) := by omega
      have hkI2 : (k : Int) < (l.length : Int) := by omega
      generalize hC : cq (isAt l (l.getD i default).kind (l.getD i default).obj) k = C at hs hle ⊢
      have Hs := Lib.hid hs
      clear hC hbw hs
      generalize hD : l.getD i default = di at e1 e2
      have HD := Lib.hid hD
      clear hD
      generalize hK : l.getD k default = dk at c1 c2
      have HK := Lib.hid hK
      clear hK d1 d2
      obtain ⟨ig, ik, io, ia⟩ := di
      obtain ⟨kg, kk, ko, ka⟩ := dk
      simp only at c1 c2 e1 e2
      by_cases h1 : kk = ik
      · obtain rfl : kk = ik := h1
        by_cases h2 : ko = io
        · obtain rfl : ko = io := h2
          go_wp2_with fail
          go_quiet (fail)
          go_wp2_with fail
          go_roundg (i - (k + 1))
          case measure => omega
          case rel => exact ⟨k + 1, by omega, rfl, by go_num, congrArg (Value.int .i64) (by rw [Hs.out, HD.out, HK.out]; simp), below_drewN Hbw.out _⟩
        · have h2' : (ko == io) = false := beq_false_of_ne h2
          have H2 := Lib.hid h2
          clear h2
          go_wp2_with fail
          go_quiet (fail)
          go_wp2_with fail
          go_roundg (i - (k + 1))
          case measure => omega
          case rel => exact ⟨k + 1, by omega, rfl, by go_num, congrArg (Value.int .i64) (by rw [Hs.out, HD.out, HK.out]; simp [H2.out]), below_drewN Hbw.out _⟩
      · have h1' : (kk == ik) = false := beq_false_of_ne h1
        have H1 := Lib.hid h1
        clear h1
        go_wp2_with fail
        go_quiet (fail)
        go_wp2_with fail
        go_roundg (i - (k + 1))
        case measure => omega
        case rel => exact ⟨k + 1, by omega, rfl, by go_num, congrArg (Value.int .i64) (by rw [Hs.out, HD.out, HK.out]; simp [H1.out]), below_drewN Hbw.out _⟩
    · obtain rfl : k = i := by omega
      go_wp2
      go_ret
      exact ⟨rfl, hbw⟩

set_option maxRecDepth 100000 in
theorem atomic_any (k : Int) (w : World) : Calls Tryd.prog 73 #[.int .i64 k] w fun e w' => e = .returned (.bool (atomicK k)) ∧ w = w' := by
  by_cases h7 : k = 7
  · subst h7
    go_enter Tryd.func73, Tryd.ntmps73
    go_wp2
    go_ret
    exact ⟨rfl, rfl⟩
  have e7 : (k == 7) = false := beq_false_of_ne h7
  by_cases h8 : k = 8
  · subst h8
    go_enter Tryd.func73, Tryd.ntmps73
    go_wp2
    go_ret
    exact ⟨rfl, rfl⟩
  have e8 : (k == 8) = false := beq_false_of_ne h8
  by_cases h9 : k = 9
  · subst h9
    go_enter Tryd.func73, Tryd.ntmps73
    go_wp2
    go_ret
    exact ⟨rfl, rfl⟩
  have e9 : (k == 9) = false := beq_false_of_ne h9
  have hA : atomicK k = false := by unfold atomicK; simp [h7, h8, h9]
  have HA := Lib.hid hA
  clear hA h7 h8 h9
  go_enter Tryd.func73, Tryd.ntmps73
  go_wp2
  go_ret
  exact ⟨ret_v (congrArg Value.bool HA.out.symm), rfl⟩

/-- nth's answer. -/
def nthV (l : List Ev) (kind obj : Int) (k : Nat) : Int := match nthL l kind obj k with | some s => s | none => -1
theorem nthV_some {l : List Ev} {kind obj : Int} {k s : Nat} (h : nthL l kind obj k = some s) : nthV l kind obj k = s := by unfold nthV; rw [h]
theorem nthV_none {l : List Ev} {kind obj : Int} {k : Nat} (h : nthL l kind obj k = none) : nthV l kind obj k = -1 := by unfold nthV; rw [h]
theorem nthL_none {l : List Ev} {kind obj : Int} {k : Nat} (h : cq (isAt l kind obj) l.length ≤ k) : nthL l kind obj k = none := by
  cases hn : nthL l kind obj k with
  | none => rfl
  | some s =>
    obtain ⟨h1, h2, h3⟩ := nthL_some.1 hn
    have := cq_lt h1 h2
    omega

set_option maxRecDepth 100000 in
set_option maxHeartbeats 4000000 in
theorem nth_any {w : World} {vt : Value} {l : List Ev} (hev : Evs w vt l) (kind obj : Int) (n : Nat) (hn : n ≤ 100000) :
    Calls Tryd.prog 71 #[vt, .int .i64 kind, .int .i64 obj, .int .i64 n] w fun e w' => e = .returned (.int .i64 (nthV l kind obj n)) ∧ Below w.heap.size w w' := by
  obtain ⟨at', ct, rfl⟩ := hev.shape
  have hel := hev.2.1
  have Hev := Lib.hid hev
  clear hev
  go_enter Tryd.func71, Tryd.ntmps71
  go_wp2
  go_loopg [3, 9, 10, 13] (l.length) (fun gk k' s9 s10 i wr => ∃ j : Nat, j ≤ l.length ∧ gk = l.length - j ∧ i = .int .i64 j ∧ cq (isAt l kind obj) j ≤ n ∧ k' = .int .i64 ((n : Int) - cq (isAt l kind obj) j) ∧ Below w.heap.size w wr)
  case atStart => exact ⟨0, Nat.zero_le _, rfl, rfl, Nat.zero_le _, congrArg (Value.int .i64) (by simp [cq_zero]), Below.refl _ _⟩
  case round =>
    obtain ⟨j, hj, rfl, rfl, hc, rfl, hbw⟩ := hrel
    by_cases hlt : j < l.length
    · obtain ⟨be, oe, ce, he, _, c0, c1, c2, c3⟩ := (Hev.out.new hbw).at hlt
      cases he
      have hs := cq_succ (isAt l kind obj) j
      have hat : isAt l kind obj j = (decide ((l.getD j default).kind = kind) && decide ((l.getD j default).obj = obj)) := rfl
      have hsome := nthL_some (l := l) (kind := kind) (obj := obj) (k := n) (s := j)
      generalize l.getD j default = ev at c0 c1 c2 c3 hat
      obtain ⟨g, kd, ob, ea⟩ := ev
      simp only at c0 c1 c2 c3 hat
      have hjI : (j : Int) < (l.length : Int) := by omega
      have Hbw := Lib.hid hbw
      have Hb1 := Lib.hid (hbw.alloc hbw.size (.cells #[.int .i64 g, .int .i64 kd, .int .i64 ob, .int .i64 ea] 38))
      clear hbw
      generalize hC1 : cq (isAt l kind obj) (j + 1) = C1 at hs
      have HC1 := Lib.hid hC1
      clear hC1
      generalize hC : cq (isAt l kind obj) j = C at hs hc hsome ⊢
      have HC := Lib.hid hC
      clear hC
      by_cases h1 : kd = kind
      · obtain rfl : kd = kind := h1
        by_cases h2 : ob = obj
        · obtain rfl : ob = obj := h2
          have hat' : isAt l kd ob j = true := by rw [hat]; simp
          rw [hat'] at hs
          by_cases h3 : C = n
          · have hnv := nthV_some (hsome.2 ⟨hlt, hat', h3⟩)
            have Hnv := Lib.hid hnv
            have h3' : (n : Int) - (C : Int) = 0 := by omega
            clear hnv hs hat hat' hsome
            rw [h3']
            clear h3 h3'
            go_wp2_with fail
            go_ret
            exact ⟨ret_i Hnv.out.symm, Hb1.out⟩
          · have h3' : ((n : Int) - (C : Int) == 0) = false := beq_false_of_ne (by omega)
            simp only [if_true] at hs
            have hCn : C + 1 ≤ n := by omega
            have Hs := Lib.hid hs
            clear hs hat hat' hsome h3
            go_wp2_with fail
            go_roundg (l.length - (j + 1))
            case measure => omega
            case rel => exact ⟨j + 1, by omega, rfl, by go_num, by rw [HC1.out, Hs.out]; omega, congrArg (Value.int .i64) (by rw [HC1.out, Hs.out]; omega), Hb1.out⟩
        · have h2' : (ob == obj) = false := beq_false_of_ne h2
          have hat' : isAt l kd obj j = false := by rw [hat]; simp [h2]
          rw [hat'] at hs
          simp only [Bool.false_eq_true, if_false, Nat.add_zero] at hs
          have Hs := Lib.hid hs
          clear hs hat hat' hsome h2
          go_wp2_with fail
          go_roundg (l.length - (j + 1))
          case measure => omega
          case rel => exact ⟨j + 1, by omega, rfl, by go_num, by rw [HC1.out, Hs.out]; omega, congrArg (Value.int .i64) (by rw [HC1.out, Hs.out]), Hb1.out⟩
      · have h1' : (kd == kind) = false := beq_false_of_ne h1
        have hat' : isAt l kind obj j = false := by rw [hat]; simp [h1]
        rw [hat'] at hs
        simp only [Bool.false_eq_true, if_false, Nat.add_zero] at hs
        have Hs := Lib.hid hs
        clear hs hat hat' hsome h1
        go_wp2_with fail
        go_roundg (l.length - (j + 1))
        case measure => omega
        case rel => exact ⟨j + 1, by omega, rfl, by go_num, by rw [HC1.out, Hs.out]; omega, congrArg (Value.int .i64) (by rw [HC1.out, Hs.out]), Hb1.out⟩
    · obtain rfl : j = l.length := by omega
      have hnv := nthV_none (nthL_none hc)
      have Hnv := Lib.hid hnv
      clear hnv
      go_wp2
      go_ret
      exact ⟨ret_i Hnv.out.symm, hbw⟩
end Go.Proofs.YtkjbpkggcddnhaaDoor
