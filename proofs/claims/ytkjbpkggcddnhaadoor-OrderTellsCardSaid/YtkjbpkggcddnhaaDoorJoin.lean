/- The walk of clock.merge and clock.Join. -/
import Derived.Test.YtkjbpkggcddnhaaDoorClock
import Derived.OwnWalk
import Derived.KernelRfl
namespace Go.Proofs.YtkjbpkggcddnhaaDoor
set_option linter.unusedVariables false
set_option linter.unusedSimpArgs false
open Go.RowKit

theorem info_int : (Tryd.prog.info? 3).map (fun i => (i.zero, i.size, i.bytes)) = some (some (.int .i64 0), 1, 8) := by kernel_rfl

theorem Ints.shape {w : World} {v : Value} {l : List Int} (h : Ints w v l) : ∃ a c, v = .slice a l.length c := by
  rcases h.cases with ⟨rfl, rfl⟩ | ⟨b, off, cap, rfl, _⟩
  · exact ⟨none, 0, rfl⟩
  · exact ⟨_, _, rfl⟩
theorem Ints.len {w : World} {v : Value} {l : List Int} (h : Ints w v l) : l.length ≤ 9223372036854775807 := h.2.1

theorem SlAt.cases1 {w : World} {v : Value} {n : Nat} {l : List Int} (h : SlAt w v 1 n (l.map (Value.int .i64))) : (v = .slice none 0 0 ∧ n = 0) ∨
    ∃ b off cap, v = .slice (some ⟨b, off, none⟩) n cap ∧ b < w.heap.size ∧ n ≤ cap ∧ ∀ j, j < n → w.cell? ⟨b, off + j, none⟩ = some (.int .i64 (l.getD j 0)) := by
  obtain ⟨hl, hm, h⟩ := h
  rcases h with ⟨h0, h1⟩ | ⟨b, off, cap, rfl, hlt, hcap, hc⟩
  · exact .inl ⟨h0, h1⟩
  · refine .inr ⟨b, off, cap, rfl, hlt, hcap, fun j hj => ?_⟩
    rw [hc j (by omega)]
    have : j < l.length := by simp at hl; omega
    simp [this]

def maxL (la lb : List Int) (k : Nat) : List Int := (List.range k).map fun (g : Nat) => max (getL la g) (getL lb g)
theorem maxL_succ (la lb : List Int) (k : Nat) : maxL la lb (k + 1) = maxL la lb k ++ [max (getL la k) (getL lb k)] := by
  simp [maxL, List.range_succ]
@[simp] theorem maxL_length (la lb : List Int) (k : Nat) : (maxL la lb k).length = k := by simp [maxL]
def trimL (l : List Int) : List Int := (l.reverse.dropWhile (· == 0)).reverse
theorem trimL_nil : trimL [] = [] := rfl
theorem trimL_snoc (l : List Int) (x : Int) : trimL (l ++ [x]) = if x = 0 then trimL l else l ++ [x] := by
  unfold trimL
  rw [List.reverse_append]
  by_cases h : x = 0
  · simp [h]
  · simp [h]
def joinL (la lb : List Int) : List Int := trimL (maxL la lb (max la.length lb.length))
theorem take_snoc' {l : List Int} {m : Nat} (h : m < l.length) : l.take (m + 1) = l.take m ++ [l.getD m 0] := by
  rw [List.take_succ_eq_append_getElem h]
  simp [h]
def slLen : Value → Nat | .slice _ n _ => n | _ => 0

/-- What a call hands back that makes a slice of ints: new memory. -/
def NewInts (w : World) (l : List Int) (e : Ending) (w' : World) : Prop := ∃ v, e = .returned v ∧ Ints w' v l ∧ (∀ b, v.ownBlock = some b → w.heap.size ≤ b) ∧ Below w.heap.size w w'


set_option maxRecDepth 100000 in
set_option maxHeartbeats 1000000 in
theorem merge_lt (aa ab : Option Addr) (ca cb : Nat) (la lb : List Int) (w : World) (ha : Ints w (.slice aa la.length ca) la) (hb : Ints w (.slice ab lb.length cb) lb) (hla : la.length ≤ 1000) (hlb : lb.length ≤ 1000) (hab : la.length < lb.length) :
    Calls Tryd.prog 90 #[.slice aa la.length ca, .slice ab lb.length cb, .func (.func 91) #[] #[]] w (NewInts w (trimL (maxL la lb lb.length))) := by
  obtain ⟨i0, hi, hz0, hz1, hz2⟩ := info_parts info_int
  go_enter Tryd.func90, Tryd.ntmps90
  go_wp2
  go_loopw [7, 14] (fun out g wr => ∃ k : Nat, k ≤ lb.length ∧ g = .int .i64 k ∧ wr.ownsRow w.heap.size 3 1 out k ((maxL la lb k).map (Value.int .i64)) ∧ Below w.heap.size w wr) (fun _ g _ => lb.length - (intOf g).toNat)
  case atStart => exact ⟨0, Nat.zero_le _, rfl, World.ownsRow_nil _ _ _ _, Below.refl _ _⟩
  case round =>
    obtain ⟨k, hk, rfl, hown, hbw⟩ := hrel
    have hsz := hbw.size
    by_cases hlt : k < lb.length
    · have ha' := ha.below hbw ha.lt
      have hb' := hb.below hbw hb.lt
      go_wp2_with fail
      refine (get_ints ha' _).mono ?_
      rintro e w' ⟨rfl, rfl⟩
      go_wp2_with fail
      refine (get_ints hb' _).mono ?_
      rintro e w' ⟨rfl, rfl⟩
      go_wp2_with fail
      refine (join1_any _ _ _).mono ?_
      rintro e w' ⟨rfl, rfl⟩
      generalize hx : max (getL la k) (getL lb k) = x
      have Hx := Lib.hid hx
      clear hx
      go_wp2_with (at_builtin; refine wpList_append_own _ rfl _ _ 23 rfl w.heap.size 3 i0 (.int .i64 0) 1 8 Tryd.underlying23 hi hz0 hz1 hz2 rfl (by decide) _ _ _ rfl (hown.alloc _) ⟨wr.heap.size, 0, none⟩ 1 1 [.int .i64 x] rfl rfl ?c1 ?c2 ?c3 ?c4 ?c5 ?_)
      case c1 => exact cell_one_new _ _ _
      case c2 => exact ints_oneCell .i64 [x]
      case c3 => unfold maxLen; omega
      case c4 => omega
      case c5 => simp; omega
      intro v' w1 hown' hgrow _
      have hgr := (World.grownBy_alloc wr (.cells #[.int .i64 x] 3) _).trans hgrow
      have hbl := hown.lt
      have hb1 : Below w.heap.size w w1 := hbw.grown hgr hsz (fun k hk => (hbl k hk).1)
      have hown1 : w1.ownsRow w.heap.size 3 1 v' (k + 1) ((maxL la lb (k + 1)).map (Value.int .i64)) := by
        rw [maxL_succ, Hx.out, List.map_append]; exact hown'
      clear hgr hgrow hown' hown hbl ha' hb'
      go_wp2
      go_roundw
      case rel => exact ⟨k + 1, by omega, by go_num, hown1, hb1⟩
      case measure => simp [intOf]; omega
    · have hkn : k = lb.length := by omega
      obtain rfl : k = lb.length := hkn
      have hS := SlAt.of_owns hown (by omega)
      have hlo := hown.lt
      clear hown
      obtain ⟨X, hX⟩ : ∃ X, X = maxL la lb lb.length := ⟨_, rfl⟩
      have hXl : X.length = lb.length := by rw [hX, maxL_length]
      rw [← hX] at hS
      have HX := Lib.hid hX
      have HXl := Lib.hid hXl
      clear hX hXl ha hb
      go_wp2
      go_loop [7] (fun o => ∃ m : Nat, m ≤ lb.length ∧ SlAt wr o 1 m ((X.take m).map (Value.int .i64)) ∧ trimL (X.take m) = trimL X ∧ (∀ b, o.ownBlock = some b → w.heap.size ≤ b)) (fun o => slLen o)
      case atStart => exact ⟨lb.length, Nat.le_refl _, by rw [List.take_of_length_le (by rw [HXl.out]; exact Nat.le_refl _)]; exact hS, by rw [List.take_of_length_le (by rw [HXl.out]; exact Nat.le_refl _)], fun b hb => (hlo b hb).1⟩
      case round =>
        obtain ⟨m, hm, hSm, htr, hbl⟩ := hrel
        have hst := hSm
        rcases hSm.cases1 with ⟨rfl, rfl⟩ | ⟨b, off, cap, rfl, hlt', hcap', hcell⟩
        · have HT := Lib.hid htr
          clear htr hS hSm
          go_wp2
          go_ret
          exact ⟨_, rfl, by rw [← HX.out, ← HT.out]; exact Ints.nil _, hbl, hbw⟩
        · by_cases hm0 : m = 0
          · obtain rfl : m = 0 := hm0
            have HT := Lib.hid htr
            clear htr hS hSm hcell
            go_wp2
            go_ret
            exact ⟨_, rfl, by rw [← HX.out, ← HT.out]; exact hst, hbl, hbw⟩
          · have hcm := hcell (m - 1) (by omega)
            have htk : X.take m = X.take (m - 1) ++ [X.getD (m - 1) 0] := by
              have h := take_snoc' (l := X) (m := m - 1) (by rw [HXl.out]; omega)
              rw [Nat.sub_add_cancel (by omega)] at h
              exact h
            have hgd : (X.take m).getD (m - 1) 0 = X.getD (m - 1) 0 := by
              rw [List.getD_eq_getElem?_getD, List.getD_eq_getElem?_getD, List.getElem?_take, if_pos (by omega)]
            rw [hgd] at hcm
            clear hgd hcell hS
            generalize X.getD (m - 1) 0 = x at hcm htk
            by_cases hx0 : x = 0
            · obtain rfl : x = 0 := hx0
              have hS1 := hst.take (m := m - 1) (by omega)
              have hT1 : trimL (X.take (m - 1)) = trimL X := by rw [← htr, htk, trimL_snoc, if_pos rfl]
              have HS1 := Lib.hid hS1
              have HT1 := Lib.hid hT1
              clear hS1 hT1 hst hSm htk htr
              go_wp2
              go_round
              case rel => exact ⟨m - 1, by omega, by have h := HS1.out; rw [← List.map_take, List.take_take, Nat.mul_one, Nat.min_eq_left (by omega)] at h; exact h, HT1.out, hbl⟩
              case measure => simp [slLen]; omega
            · have hxb : (x == 0) = false := by simpa using hx0
              have hT1 : X.take m = trimL X := by rw [← htr, htk, trimL_snoc, if_neg hx0]
              have HT1 := Lib.hid hT1
              have HS := Lib.hid hst
              clear hT1 hst hSm htk htr
              go_wp2
              go_ret
              refine ⟨_, rfl, ?_, hbl, hbw⟩
              rw [← HX.out, ← HT1.out]
              have h := HS.out
              unfold Ints
              rw [List.length_take, Nat.min_eq_left (by rw [HXl.out]; exact hm)]
              exact h

set_option maxRecDepth 100000 in
set_option maxHeartbeats 1000000 in
theorem merge_ge (aa ab : Option Addr) (ca cb : Nat) (la lb : List Int) (w : World) (ha : Ints w (.slice aa la.length ca) la) (hb : Ints w (.slice ab lb.length cb) lb) (hla : la.length ≤ 1000) (hlb : lb.length ≤ 1000) (hab : lb.length ≤ la.length) :
    Calls Tryd.prog 90 #[.slice aa la.length ca, .slice ab lb.length cb, .func (.func 91) #[] #[]] w (NewInts w (trimL (maxL la lb la.length))) := by
  obtain ⟨i0, hi, hz0, hz1, hz2⟩ := info_parts info_int
  go_enter Tryd.func90, Tryd.ntmps90
  go_wp2
  go_loopw [7, 14] (fun out g wr => ∃ k : Nat, k ≤ la.length ∧ g = .int .i64 k ∧ wr.ownsRow w.heap.size 3 1 out k ((maxL la lb k).map (Value.int .i64)) ∧ Below w.heap.size w wr) (fun _ g _ => la.length - (intOf g).toNat)
  case atStart => exact ⟨0, Nat.zero_le _, rfl, World.ownsRow_nil _ _ _ _, Below.refl _ _⟩
  case round =>
    obtain ⟨k, hk, rfl, hown, hbw⟩ := hrel
    have hsz := hbw.size
    by_cases hlt : k < la.length
    · have ha' := ha.below hbw ha.lt
      have hb' := hb.below hbw hb.lt
      go_wp2_with fail
      refine (get_ints ha' _).mono ?_
      rintro e w' ⟨rfl, rfl⟩
      go_wp2_with fail
      refine (get_ints hb' _).mono ?_
      rintro e w' ⟨rfl, rfl⟩
      go_wp2_with fail
      refine (join1_any _ _ _).mono ?_
      rintro e w' ⟨rfl, rfl⟩
      generalize hx : max (getL la k) (getL lb k) = x
      have Hx := Lib.hid hx
      clear hx
      go_wp2_with (at_builtin; refine wpList_append_own _ rfl _ _ 23 rfl w.heap.size 3 i0 (.int .i64 0) 1 8 Tryd.underlying23 hi hz0 hz1 hz2 rfl (by decide) _ _ _ rfl (hown.alloc _) ⟨wr.heap.size, 0, none⟩ 1 1 [.int .i64 x] rfl rfl ?c1 ?c2 ?c3 ?c4 ?c5 ?_)
      case c1 => exact cell_one_new _ _ _
      case c2 => exact ints_oneCell .i64 [x]
      case c3 => unfold maxLen; omega
      case c4 => omega
      case c5 => simp; omega
      intro v' w1 hown' hgrow _
      have hgr := (World.grownBy_alloc wr (.cells #[.int .i64 x] 3) _).trans hgrow
      have hbl := hown.lt
      have hb1 : Below w.heap.size w w1 := hbw.grown hgr hsz (fun k hk => (hbl k hk).1)
      have hown1 : w1.ownsRow w.heap.size 3 1 v' (k + 1) ((maxL la lb (k + 1)).map (Value.int .i64)) := by
        rw [maxL_succ, Hx.out, List.map_append]; exact hown'
      clear hgr hgrow hown' hown hbl ha' hb'
      go_wp2
      go_roundw
      case rel => exact ⟨k + 1, by omega, by go_num, hown1, hb1⟩
      case measure => simp [intOf]; omega
    · have hkn : k = la.length := by omega
      obtain rfl : k = la.length := hkn
      have hS := SlAt.of_owns hown (by omega)
      have hlo := hown.lt
      clear hown
      obtain ⟨X, hX⟩ : ∃ X, X = maxL la lb la.length := ⟨_, rfl⟩
      have hXl : X.length = la.length := by rw [hX, maxL_length]
      rw [← hX] at hS
      have HX := Lib.hid hX
      have HXl := Lib.hid hXl
      clear hX hXl ha hb
      go_wp2
      go_loop [7] (fun o => ∃ m : Nat, m ≤ la.length ∧ SlAt wr o 1 m ((X.take m).map (Value.int .i64)) ∧ trimL (X.take m) = trimL X ∧ (∀ b, o.ownBlock = some b → w.heap.size ≤ b)) (fun o => slLen o)
      case atStart => exact ⟨la.length, Nat.le_refl _, by rw [List.take_of_length_le (by rw [HXl.out]; exact Nat.le_refl _)]; exact hS, by rw [List.take_of_length_le (by rw [HXl.out]; exact Nat.le_refl _)], fun b hb => (hlo b hb).1⟩
      case round =>
        obtain ⟨m, hm, hSm, htr, hbl⟩ := hrel
        have hst := hSm
        rcases hSm.cases1 with ⟨rfl, rfl⟩ | ⟨b, off, cap, rfl, hlt', hcap', hcell⟩
        · have HT := Lib.hid htr
          clear htr hS hSm
          go_wp2
          go_ret
          exact ⟨_, rfl, by rw [← HX.out, ← HT.out]; exact Ints.nil _, hbl, hbw⟩
        · by_cases hm0 : m = 0
          · obtain rfl : m = 0 := hm0
            have HT := Lib.hid htr
            clear htr hS hSm hcell
            go_wp2
            go_ret
            exact ⟨_, rfl, by rw [← HX.out, ← HT.out]; exact hst, hbl, hbw⟩
          · have hcm := hcell (m - 1) (by omega)
            have htk : X.take m = X.take (m - 1) ++ [X.getD (m - 1) 0] := by
              have h := take_snoc' (l := X) (m := m - 1) (by rw [HXl.out]; omega)
              rw [Nat.sub_add_cancel (by omega)] at h
              exact h
            have hgd : (X.take m).getD (m - 1) 0 = X.getD (m - 1) 0 := by
              rw [List.getD_eq_getElem?_getD, List.getD_eq_getElem?_getD, List.getElem?_take, if_pos (by omega)]
            rw [hgd] at hcm
            clear hgd hcell hS
            generalize X.getD (m - 1) 0 = x at hcm htk
            by_cases hx0 : x = 0
            · obtain rfl : x = 0 := hx0
              have hS1 := hst.take (m := m - 1) (by omega)
              have hT1 : trimL (X.take (m - 1)) = trimL X := by rw [← htr, htk, trimL_snoc, if_pos rfl]
              have HS1 := Lib.hid hS1
              have HT1 := Lib.hid hT1
              clear hS1 hT1 hst hSm htk htr
              go_wp2
              go_round
              case rel => exact ⟨m - 1, by omega, by have h := HS1.out; rw [← List.map_take, List.take_take, Nat.mul_one, Nat.min_eq_left (by omega)] at h; exact h, HT1.out, hbl⟩
              case measure => simp [slLen]; omega
            · have hxb : (x == 0) = false := by simpa using hx0
              have hT1 : X.take m = trimL X := by rw [← htr, htk, trimL_snoc, if_neg hx0]
              have HT1 := Lib.hid hT1
              have HS := Lib.hid hst
              clear hT1 hst hSm htk htr
              go_wp2
              go_ret
              refine ⟨_, rfl, ?_, hbl, hbw⟩
              rw [← HX.out, ← HT1.out]
              have h := HS.out
              unfold Ints
              rw [List.length_take, Nat.min_eq_left (by rw [HXl.out]; exact hm)]
              exact h

/-- clock.Join of whatever two clocks. -/
theorem join_any (va vb : Value) (la lb : List Int) (w : World) (ha : Ints w va la) (hb : Ints w vb lb) (hla : la.length ≤ 1000) (hlb : lb.length ≤ 1000) :
    Calls Tryd.prog 62 #[va, vb] w (NewInts w (joinL la lb)) := by
  have hm : Calls Tryd.prog 90 #[va, vb, .func (.func 91) #[] #[]] w (NewInts w (joinL la lb)) := by
    obtain ⟨aa, ca, rfl⟩ := ha.shape
    obtain ⟨ab, cb, rfl⟩ := hb.shape
    unfold joinL
    by_cases h : la.length < lb.length
    · rw [Nat.max_eq_right (by omega)]; exact merge_lt aa ab ca cb la lb w ha hb hla hlb h
    · rw [Nat.max_eq_left (by omega)]; exact merge_ge aa ab ca cb la lb w ha hb hla hlb (by omega)
  have HM := Lib.hid hm
  clear hm ha hb
  go_enter Tryd.func62, Tryd.ntmps62
  go_wp2_with fail
  refine HM.out.mono ?_
  rintro e w' ⟨v, rfl, h1, h2, h3⟩
  go_wp2
  go_ret
  exact ⟨v, rfl, h1, h2, h3⟩
end Go.Proofs.YtkjbpkggcddnhaaDoor
