/- The walk of the reference's Before. -/
import Derived.Test.YtkjbpkggcddnhaaDoorDirect
import Derived.Test.YtkjbpkggcddnhaaDoorMat
namespace Go.Proofs.YtkjbpkggcddnhaaDoor
set_option linter.unusedVariables false
set_option linter.unusedSimpArgs false
open Go.RowKit

set_option maxRecDepth 100000 in
set_option maxHeartbeats 16000000 in
theorem refBefore_any {w : World} {vt vr : Value} {l : List Ev} {rooms : List Int} (ht : Trace l rooms) (hev : Evs w vt l) (hr : Ints w vr rooms) :
    Calls Tryd.prog 20 #[vt, vr] w fun e w' => e = .returned (.slice (some ⟨w.heap.size, 0, none⟩) l.length l.length) ∧ ∃ R, Mat w w.heap.size l.length l.length R (fun j k => hbL rooms l k j) w' := by
  obtain ⟨at', ct, rfl⟩ := hev.shape
  obtain ⟨ar, cr, rfl⟩ := hr.shape
  have hel := ht.len
  have Hev := Lib.hid hev
  have Hr := Lib.hid hr
  have Ht := Lib.hid ht
  clear hev hr ht
  obtain ⟨i0, hi0, z00, z01, z02⟩ := info_parts info_bools
  obtain ⟨i1, hi1, z10, z11, z12⟩ := info_parts info_bool
  go_enter Tryd.func20, Tryd.ntmps20
  go_wp2_with (at_make; refine wpList_make_full _ rfl _ _ 46 rfl 0 50 i0 (.slice none 0 0) 1 Tryd.underlying46 hi0 z00 z01 .i64 .i64 _ _ l.length rfl rfl rfl rfl (by rw [z02]; omega) (by unfold maxLen; omega) (Nat.zero_le _) ?_)
  intro w1 hown hgr
  have hrow := made_row hown
  have hM0 : Mat w w.heap.size l.length 0 (fun _ => 0) (fun _ _ => false) w1 :=
    ⟨(Below.refl _ w).grown hgr (Nat.le_refl _) (fun k hk => by cases hk), Nat.le_refl _, hrow.1, fun j hj => absurd hj (Nat.not_lt_zero _), fun i j hi => absurd hi (Nat.not_lt_zero _), fun j hj => absurd hj (Nat.not_lt_zero _), fun j _ hj => hrow.2.1 j hj, hrow.2.2, fun j k hj => absurd hj (Nat.not_lt_zero _), fun j o hj => absurd hj (Nat.not_lt_zero _)⟩
  have HM0 := Lib.hid hM0
  clear hM0 hrow hown hgr
  obtain ⟨O, hO⟩ : ∃ O, O = w.heap.size := ⟨_, rfl⟩
  have HO := Lib.hid hO
  rw [← hO] at HM0 ⊢
  clear hO
  go_wp2
  go_loopg [6, 7, 8, 14] (l.length) (fun gk s6 s7 s8 i wr => ∃ (j : Nat) (R : Nat → Nat), j ≤ l.length ∧ gk = l.length - j ∧ i = .int .i64 j ∧ Mat w O l.length j R (fun j k => hbL rooms l k j) wr)
  case atStart => exact ⟨0, _, Nat.zero_le _, rfl, rfl, HM0.out.congr (fun j k hj => absurd hj (Nat.not_lt_zero _))⟩
  case round =>
    obtain ⟨j, R, hj, rfl, rfl, hmat⟩ := hrel
    obtain ⟨wo, rfl⟩ : ∃ x, x = wr := ⟨_, rfl⟩
    by_cases hlt : j < l.length
    · have hjI : (j : Int) < (l.length : Int) := by omega
      have Hmat := Lib.hid hmat
      clear hmat
      go_wp2_with (at_make; refine wpList_make_full _ rfl _ _ 50 rfl 0 4 i1 (.bool false) 1 Tryd.underlying50 hi1 z10 z11 .i64 .i64 _ _ l.length rfl rfl rfl rfl (by rw [z12]; omega) (by unfold maxLen; omega) (Nat.zero_le _) ?_)
      intro w2 hown hgr
      have hrow := made_row hown
      have hpush := Hmat.out.push hlt (Nat.le_refl _) hgr hrow.1 hrow.2.1 hrow.2.2
      have hk2 := Hmat.out.kept (Chg.grown (S := fun _ => False) hgr (fun k hk => by cases hk)) id (fun _ _ => id) (Hmat.out.below.grown hgr Hmat.out.below.size (fun k hk => by cases hk))
      have x0 := hk2.rest j (Nat.le_refl _) hlt
      have xf := hk2.ofz j
      have Hpush := Lib.hid hpush
      clear hpush hk2 hrow hown hgr
      obtain ⟨R1, hR1⟩ : ∃ R1, R1 = fun q => if q = j then wo.heap.size else R q := ⟨_, rfl⟩
      have hRj : R1 j = wo.heap.size := by rw [hR1]; simp
      rw [← hR1] at Hpush
      have HRj := Lib.hid hRj
      rw [← hRj] at Hpush ⊢
      clear hRj hR1
      go_wp2
      generalize w2.setCell ⟨O, j, none⟩ (.slice (some ⟨R1 j, 0, none⟩) l.length l.length) = w3 at Hpush ⊢
      clear x0 xf
      go_loopg [7, 8] (j) (fun gk s7 s8 wr => ∃ (m : Nat) (M : Nat → Nat → Bool), m ≤ j ∧ gk = m ∧ s7 = .int .i64 ((m : Int) - 1) ∧ Mat w O l.length (j + 1) R1 M wr ∧ (∀ q k, q < j → k < l.length → M q k = hbL rooms l k q) ∧ ∀ k, k < l.length → M j k = partB (dirL rooms l) m j k)
      case atStart => exact ⟨j, _, Nat.le_refl _, rfl, rfl, Hpush.out, fun q k hq _ => if_neg (by omega), fun k _ => by rw [partB_top]; exact if_pos rfl⟩
      case round =>
        obtain ⟨m, M, hm, hgk, rfl, hmat, hM1, hM2⟩ := hrel
        have hgk' := hgk.symm
        subst hgk'
        clear hgk
        obtain ⟨wm, rfl⟩ : ∃ x, x = wr := ⟨_, rfl⟩
        have Hm := Lib.hid hmat
        have HM1 := Lib.hid hM1
        have HM2 := Lib.hid hM2
        cases m with
        | zero =>
          rw [show (((0 : Nat) : Int) - 1) = -1 from rfl]
          clear hmat hM1 hM2
          go_wp2
          go_roundg (l.length - (j + 1))
          case measure => omega
          case rel =>
            refine ⟨j + 1, R1, by omega, rfl, by go_num, Hm.out.congr fun q k hq hk => ?_⟩
            by_cases e : q = j
            · rw [e, HM2.out k hk, partB_zero]
            · exact HM1.out q k (by omega) hk
        | succ i =>
          rw [show (((i + 1 : Nat) : Int) - 1) = (i : Int) from by omega]
          have hij : i < j := by omega
          have hil : i < l.length := by omega
          have hiI : (i : Int) < (l.length : Int) := by omega
          have hi0 : (0 : Int) ≤ (i : Int) := by omega
          have x0 := hmat.row j (Nat.lt_succ_self j)
          have x1 := hmat.cell j i (Nat.lt_succ_self j) hil
          have Hlt1 := Lib.hid hmat.olt
          have Hlt2 := Lib.hid (hmat.rg j (Nat.lt_succ_self j)).2.1
          clear hmat hM1 hM2
          cases hx : M j i with
          | true =>
            rw [hx] at x1
            have Hx := Lib.hid hx
            clear hx
            go_wp2_with fail
            go_roundg i
            case measure => omega
            case rel => exact ⟨i, M, by omega, rfl, rfl, Hm.out, HM1.out, fun k hk => by rw [HM2.out k hk]; exact (partB_has (by rw [← HM2.out i hil]; exact Hx.out) k).symm⟩
          | false =>
            rw [hx] at x1
            have Hx := Lib.hid hx
            clear hx
            have Hdir := Lib.hid (direct_any Ht.out (Hev.out.new Hm.out.below) (Hr.out.new Hm.out.below) hil hlt)
            go_wp2_with fail
            refine Hdir.out.mono ?_
            rintro e w4 ⟨he, hb4⟩
            have hm4 := Hm.out.new hb4
            have Hm4 := Lib.hid hm4
            clear hb4
            cases hd : dirL rooms l i j with
            | false =>
              rw [hd] at he
              subst he
              have Hd := Lib.hid hd
              clear hd hm4
              go_wp2_with fail
              go_roundg i
              case measure => omega
              case rel => exact ⟨i, M, by omega, rfl, rfl, Hm4.out, HM1.out, fun k hk => by rw [HM2.out k hk]; exact (partB_no Hd.out k).symm⟩
            | true =>
              rw [hd] at he
              subst he
              have Hd := Lib.hid hd
              have y0 := hm4.row j (Nat.lt_succ_self j)
              have y1 := hm4.cell j i (Nat.lt_succ_self j) hil
              have yf := hm4.rfz j i (Nat.lt_succ_self j)
              have Hset := Lib.hid (hm4.set (Nat.lt_succ_self j) hil true)
              clear hd hm4 x0 x1
              go_wp2
              generalize w4.setCell ⟨R1 j, i, none⟩ (.bool true) = w5 at Hset ⊢
              clear y0 y1 yf
              go_loopg [8] (i) (fun gk s8 wr => ∃ (k : Nat) (M2 : Nat → Nat → Bool), k ≤ i ∧ gk = i - k ∧ s8 = .int .i64 k ∧ Mat w O l.length (j + 1) R1 M2 wr ∧ (∀ q k, q < j → k < l.length → M2 q k = hbL rooms l k q) ∧ ∀ k', k' < l.length → M2 j k' = takeB (dirL rooms l) i j k k')
              case atStart =>
                refine ⟨0, _, Nat.zero_le _, rfl, rfl, Hset.out, fun q k hq hk => ?_, fun k' hk' => ?_⟩
                · unfold upd2
                  rw [if_neg (by omega)]
                  exact HM1.out q k hq hk
                · rw [takeB_zero]
                  unfold upd2
                  by_cases e : k' = i
                  · rw [if_pos e, if_pos ⟨rfl, e⟩]
                  · rw [if_neg e, if_neg (fun h => e h.2)]
                    exact HM2.out k' hk'
              case round =>
                obtain ⟨k, M2, hk, rfl, rfl, hmat, hM3, hM4⟩ := hrel
                obtain ⟨wk, rfl⟩ : ∃ x, x = wr := ⟨_, rfl⟩
                have Hk := Lib.hid hmat
                have HM3 := Lib.hid hM3
                have HM4 := Lib.hid hM4
                by_cases hki : k < i
                · have hkI : (k : Int) < (i : Int) := by omega
                  have hkI2 : (k : Int) < (l.length : Int) := by omega
                  have z0 := hmat.row j (Nat.lt_succ_self j)
                  have z1 := hmat.row i (by omega)
                  have z2 := hmat.cell j k (Nat.lt_succ_self j) (by omega)
                  have z3 := hmat.cell i k (by omega) (by omega)
                  have zf := hmat.rfz j k (Nat.lt_succ_self j)
                  rw [hM3 i k hij (by omega)] at z3
                  obtain ⟨y, hy⟩ : ∃ y, y = hbL rooms l k i := ⟨_, rfl⟩
                  rw [← hy] at z3
                  have Hy := Lib.hid hy
                  have hfin : ∀ b, b = (M2 j k || y) → Mat w O l.length (j + 1) R1 (upd2 M2 j k b) (wk.drew.setCell ⟨R1 j, k, none⟩ (.bool b)) ∧ (∀ q k_1, q < j → k_1 < l.length → upd2 M2 j k b q k_1 = hbL rooms l k_1 q) ∧ ∀ k', k' < l.length → upd2 M2 j k b j k' = takeB (dirL rooms l) i j (k + 1) k' := fun b hb => by
                    refine ⟨(Hk.out.new ((Below.refl _ wk).drew)).set (Nat.lt_succ_self j) (by omega) b, fun q k_1 hq hk_1 => ?_, fun k' hk' => ?_⟩
                    · unfold upd2
                      rw [if_neg (by omega)]
                      exact HM3.out q k_1 hq hk_1
                    · rw [takeB_step hki]
                      unfold upd2
                      by_cases e : k' = k
                      · rw [if_pos ⟨rfl, e⟩, if_pos e, hb, Hy.out, HM4.out k (by omega)]
                      · rw [if_neg (fun h => e h.2), if_neg e]
                        exact HM4.out k' hk'
                  have Hfin := Lib.hid hfin
                  clear hmat hM3 hM4 hy hfin
                  cases hx : M2 j k with
                  | true =>
                    rw [hx] at z2
                    have Hx := Lib.hid hx
                    clear hx
                    go_wp2_with fail
                    refine wp_region_order 21 [] (.take 0 (.take 1 (.take 2 (.take 3 (.take 4 (.take 5 (.take 6 (.take 7 (.take 8 (.take 9 (.take 10 (.take 11 (.take 12 (.take 13 (.take 14 (.take 15 (.take 16 (.take 17 (.take 18 (.take 19 (.take 20 (.done)))))))))))))))))))))) (fun x => x.cell? ⟨O, j, none⟩ = some (.slice (some ⟨R1 j, 0, none⟩) l.length l.length) ∧ x.cell? ⟨O, i, none⟩ = some (.slice (some ⟨R1 i, 0, none⟩) l.length l.length) ∧ x.cell? ⟨R1 j, k, none⟩ = some (.bool true) ∧ x.cell? ⟨R1 i, k, none⟩ = some (.bool y)) (by kernel_rfl) (by kernel_rfl) ⟨z0, z1, z2, z3⟩ ?_
                    refine wpFree_nil ?_
                    repeat (first | (refine wpHeld_take (v := ?_) (by rfl) (by rfl) (fun x hx => ?_) (by exact fun _ _ _ h => h) ?_; rotate_left; (obtain ⟨h1, h2, h3, h4⟩ := hx; (first | (go_simp; done) | (go_simp; with_reducible rfl))); simp only [Act.put, List.setIfInBounds_toArray, List.set_cons_zero, List.set_cons_succ]) | (refine wpHeld_skip (by rfl) (by rfl) (by exact fun _ _ _ h => h) ?_; simp only [Act.put, List.setIfInBounds_toArray, List.set_cons_zero, List.set_cons_succ]))
                    refine wpHeld_nil ?_
                    dsimp only [List.drop]
                    go_wp2_with fail
                    go_roundg (i - (k + 1))
                    case measure => omega
                    case rel =>
                      obtain ⟨f1, f2, f3⟩ := Hfin.out true (by rw [Hx.out]; rfl)
                      exact ⟨k + 1, _, by omega, rfl, by go_num, f1, f2, f3⟩
                  | false =>
                    rw [hx] at z2
                    have Hx := Lib.hid hx
                    clear hx
                    go_wp2_with fail
                    refine wp_region_order 21 [] (.take 0 (.take 1 (.take 2 (.take 3 (.take 4 (.take 5 (.take 6 (.take 7 (.take 8 (.take 9 (.take 10 (.take 11 (.take 12 (.take 13 (.take 14 (.take 15 (.take 16 (.take 17 (.take 18 (.take 19 (.take 20 (.done)))))))))))))))))))))) (fun x => x.cell? ⟨O, j, none⟩ = some (.slice (some ⟨R1 j, 0, none⟩) l.length l.length) ∧ x.cell? ⟨O, i, none⟩ = some (.slice (some ⟨R1 i, 0, none⟩) l.length l.length) ∧ x.cell? ⟨R1 j, k, none⟩ = some (.bool false) ∧ x.cell? ⟨R1 i, k, none⟩ = some (.bool y)) (by kernel_rfl) (by kernel_rfl) ⟨z0, z1, z2, z3⟩ ?_
                    refine wpFree_nil ?_
                    repeat (first | (refine wpHeld_take (v := ?_) (by rfl) (by rfl) (fun x hx => ?_) (by exact fun _ _ _ h => h) ?_; rotate_left; (obtain ⟨h1, h2, h3, h4⟩ := hx; (first | (go_simp; done) | (go_simp; with_reducible rfl))); simp only [Act.put, List.setIfInBounds_toArray, List.set_cons_zero, List.set_cons_succ]) | (refine wpHeld_skip (by rfl) (by rfl) (by exact fun _ _ _ h => h) ?_; simp only [Act.put, List.setIfInBounds_toArray, List.set_cons_zero, List.set_cons_succ]))
                    refine wpHeld_nil ?_
                    dsimp only [List.drop]
                    go_wp2_with fail
                    go_roundg (i - (k + 1))
                    case measure => omega
                    case rel =>
                      obtain ⟨f1, f2, f3⟩ := Hfin.out y (by rw [Hx.out]; rfl)
                      exact ⟨k + 1, _, by omega, rfl, by go_num, f1, f2, f3⟩
                · obtain rfl : k = i := by omega
                  clear hmat hM3 hM4
                  go_wp2
                  go_roundg k
                  case measure => omega
                  case rel => exact ⟨k, M2, by omega, rfl, rfl, Hk.out, HM3.out, fun k' hk' => by rw [HM4.out k' hk']; exact takeB_end hij Hd.out k'⟩
    · obtain rfl : j = l.length := by omega
      have Hmat := Lib.hid hmat
      clear hmat
      go_wp2
      go_ret
      exact ⟨by rw [← HO.out]; rfl, R, by rw [← HO.out]; exact Hmat.out⟩
end Go.Proofs.YtkjbpkggcddnhaaDoor
