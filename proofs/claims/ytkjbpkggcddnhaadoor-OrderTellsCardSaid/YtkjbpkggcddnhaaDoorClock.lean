/- The walks of package clock: Get and Join, of all slices. -/
import Derived.Test.YtkjbpkggcddnhaaDoorCore
import Derived.Test.YtkjbpkggcddnhaaDoorProg
import Derived.Deep.QuietTactic
import Derived.BigQuiet
import Derived.WalkSmall
namespace Go.Proofs.YtkjbpkggcddnhaaDoor
set_option linter.unusedVariables false
set_option linter.unusedSimpArgs false
open Go.RowKit

def getL (l : List Int) (g : Int) : Int := if 0 ≤ g ∧ g < l.length then max (l.getD g.toNat 0) 0 else 0
theorem getL_nat {l : List Int} {k : Nat} (h : k < l.length) : getL l k = max (l.getD k 0) 0 := by
  unfold getL; rw [if_pos ⟨by omega, by omega⟩]; rfl
theorem getL_out {l : List Int} {g : Int} (h : (l.length : Int) ≤ g) : getL l g = 0 := by
  unfold getL; rw [if_neg (by omega)]
theorem getL_neg {l : List Int} {g : Int} (h : g < 0) : getL l g = 0 := by
  unfold getL; rw [if_neg (by omega)]
theorem getL_nonneg (l : List Int) (g : Int) : 0 ≤ getL l g := by unfold getL; split <;> omega

theorem ret_i {k : IntKind} {a b : Int} (h : a = b) : Ending.returned (.int k a) = .returned (.int k b) := by rw [h]

set_option maxHeartbeats 400000 in
theorem get_some (b off cap : Nat) (l : List Int) (g : Int) (w : World) (_hl : l.length ≤ 9223372036854775807)
   (hc : ∀ i, i < l.length → w.cell? ⟨b, off + i, none⟩ = some (.int .i64 (l.getD i 0))) :
    Calls Tryd.prog 65 #[.slice (some ⟨b, off, none⟩) l.length cap, .int .i64 g] w fun e w' => e = .returned (.int .i64 (getL l g)) ∧ w = w' := by
  by_cases h0 : g < 0
  · clear hc
    go_enter Tryd.func65, Tryd.ntmps65
    go_wp2
    go_ret
    exact ⟨ret_i (getL_neg h0).symm, rfl⟩
  · obtain ⟨k, rfl⟩ := Int.eq_ofNat_of_zero_le (Int.not_lt.1 h0)
    by_cases h1 : k < l.length
    · have hck := hc k h1
      clear hc
      generalize hx : l.getD k 0 = x at hck
      have Hx := Lib.hid hx
      clear hx
      go_enter Tryd.func65, Tryd.ntmps65
      go_wp2
      all_goals
        go_ret
        refine ⟨ret_i ?_, rfl⟩
        rw [getL_nat h1, Hx.out]
        omega
    · clear hc
      go_enter Tryd.func65, Tryd.ntmps65
      go_wp2
      go_ret
      exact ⟨ret_i (getL_out (by omega)).symm, rfl⟩

set_option maxHeartbeats 400000 in
theorem get_nil (g : Int) (w : World) :
    Calls Tryd.prog 65 #[.slice none 0 0, .int .i64 g] w fun e w' => e = .returned (.int .i64 (getL [] g)) ∧ w = w' := by
  by_cases h0 : g < 0
  · go_enter Tryd.func65, Tryd.ntmps65
    go_wp2
    go_ret
    exact ⟨ret_i (getL_neg h0).symm, rfl⟩
  · have h1 : 0 ≤ g := by omega
    go_enter Tryd.func65, Tryd.ntmps65
    go_wp2
    go_ret
    exact ⟨ret_i (getL_out (by simpa using h1)).symm, rfl⟩

/-- clock.Get of whatever slice of ints. -/
theorem get_ints {l : List Int} {v : Value} {w : World} (h : Ints w v l) (g : Int) :
    Calls Tryd.prog 65 #[v, .int .i64 g] w fun e w' => e = .returned (.int .i64 (getL l g)) ∧ w = w' := by
  rcases h.cases with ⟨rfl, rfl⟩ | ⟨b, off, cap, rfl, _, _, hm, hc⟩
  · exact get_nil g w
  · exact get_some b off cap l g w hm hc

set_option maxHeartbeats 400000 in
theorem join1_any (x y : Int) (w : World) :
    Calls Tryd.prog 91 #[.int .i64 x, .int .i64 y] w fun e w' => e = .returned (.int .i64 (max x y)) ∧ w = w' := by
  go_enter Tryd.func91, Tryd.ntmps91
  go_wp2
  all_goals
    go_ret
    exact ⟨ret_i (by omega), rfl⟩
end Go.Proofs.YtkjbpkggcddnhaaDoor
