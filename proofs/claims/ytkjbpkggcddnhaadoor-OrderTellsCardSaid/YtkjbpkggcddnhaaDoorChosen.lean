/- The walk of order.chosen. -/
import Derived.Test.YtkjbpkggcddnhaaDoorAccs
namespace Go.Proofs.YtkjbpkggcddnhaaDoor
set_option linter.unusedVariables false
set_option linter.unusedSimpArgs false
open Go.RowKit

set_option maxRecDepth 100000 in
set_option maxHeartbeats 8000000 in
theorem chosen_any {w : World} {v : Value} {l : List Acc} (h : Accs w v l) (hl : 0 < l.length) : Calls Tryd.prog 45 #[v] w fun e w' => e = .returned (accV (chosenL l)) ∧ Below w.heap.size w w' := by
  obtain ⟨b, off, cap, rfl, hlt, hcap, hmax, hc⟩ := h.at hl
  obtain ⟨d0, d1, d2, d3, d4⟩ := hc 0 hl
  rw [Nat.zero_mul, Nat.add_zero] at d0 d1 d2 d3 d4
  have Hc := Lib.hid hc
  have Hh := Lib.hid h
  have Hall := Lib.hid (chosen_all l hl)
  clear hc h
  generalize l.getD 0 default = a0 at d0 d1 d2 d3 d4 Hall
  have hl0 : (0 : Int) < (l.length : Int) := by omega
  by_cases hcp : cap = 1
  · obtain rfl : cap = 1 := hcp
    have hl1 : l.length = 1 := by omega
    have hl2 : l.length - 1 = 0 := by omega
    have hA : chosenL l = a0 := by rw [Hall.out, hl2]; rfl
    have HA := Lib.hid hA
    clear hA
    go_enter Tryd.func45, Tryd.ntmps45
    go_wp2
    generalize hw0 : (w.alloc _).alloc _ = w0
    have hr0 : AccAt w0 w.heap.size default := by
      rw [← hw0]
      exact (AccAt.made w default 84).new ((Below.refl _ _).alloc (Nat.le_refl _) _)
    have hr1 : AccAt w0 (w.heap.size + 1) a0 := by
      have h := AccAt.made (w.alloc (.cells #[.int .i64 0, .int .i64 0, .int .i64 0, .int .i64 0, .int .i64 0] 84)) a0 84
      rw [hw0] at h
      simpa using h
    have hb0 : Below w.heap.size w w0 := by
      rw [← hw0]
      exact ((Below.refl _ w).alloc (Nat.le_refl _) _).alloc (by simp) _
    have Hr0 := Lib.hid hr0
    have Hr1 := Lib.hid hr1
    have Hb0 := Lib.hid hb0
    clear hr0 hr1 hb0 hw0
    go_loopw [5, 12] (fun _ i wr => i = .int .i64 0 ∧ AccAt wr (w.heap.size + 1) a0 ∧ AccAt wr w.heap.size default ∧ Below w.heap.size w wr) (fun _ _ _ => 0)
    case atStart => exact ⟨rfl, Hr1.out, Hr0.out, Hb0.out⟩
    case round =>
      obtain ⟨rfl, hat, hres, hb⟩ := hrel
      have hlt1 := hat.lt
      have hlt0 := hres.lt
      have Hat := Lib.hid hat
      have Hres := Lib.hid hres
      obtain ⟨k0, k1, k2, k3, k4, k5⟩ := hat
      obtain ⟨r0, r1, r2, r3, r4, r5⟩ := hres
      have r50 := r5 0
      have r51 := r5 1
      have r52 := r5 2
      have r53 := r5 3
      have r54 := r5 4
      clear k5 r5
      go_wp2
      (try simp only [Exit.inBlock, Exit.then])
      refine bodyPost_ret (results_cell rfl rfl (put5_at Hres.out a0).load) rfl ?_
      refine ⟨ret_v ?_, ?_⟩
      · rw [HA.out]
      · exact hb.trans ((put5_chg wr w.heap.size _ _ _ _ _).below (by omega) (fun q hq => by omega))
  · go_enter Tryd.func45, Tryd.ntmps45
    go_wp2
    generalize hw0 : (w.alloc _).alloc _ = w0
    have hr0 : AccAt w0 w.heap.size default := by
      rw [← hw0]
      exact (AccAt.made w default 84).new ((Below.refl _ _).alloc (Nat.le_refl _) _)
    have hr1 : AccAt w0 (w.heap.size + 1) a0 := by
      have h := AccAt.made (w.alloc (.cells #[.int .i64 0, .int .i64 0, .int .i64 0, .int .i64 0, .int .i64 0] 84)) a0 84
      rw [hw0] at h
      simpa using h
    have hb0 : Below w.heap.size w w0 := by
      rw [← hw0]
      exact ((Below.refl _ w).alloc (Nat.le_refl _) _).alloc (by simp) _
    have Hr0 := Lib.hid hr0
    have Hr1 := Lib.hid hr1
    have Hb0 := Lib.hid hb0
    clear hr0 hr1 hb0 hw0
    go_loopw [5, 12] (fun _ i wr => ∃ (k : Nat) (best : Acc), k ≤ l.length - 1 ∧ i = .int .i64 k ∧ best = ((l.drop 1).take k).foldl pick a0 ∧ AccAt wr (w.heap.size + 1) best ∧ AccAt wr w.heap.size default ∧ Below w.heap.size w wr) (fun _ i _ => l.length - (intOf i).toNat)
    case atStart => exact ⟨0, a0, Nat.zero_le _, rfl, rfl, Hr1.out, Hr0.out, Hb0.out⟩
    case round =>
      obtain ⟨k, best, hk, rfl, hbest, hat, hres, hb⟩ := hrel
      have Hbest := Lib.hid hbest
      have hlt1 := hat.lt
      have hlt0 := hres.lt
      have hlt11 : w.heap.size + 1 < wr.heap.size + 1 := by omega
      have hlt12 : w.heap.size + 1 < wr.heap.size + 1 + 1 := by omega
      have hlt13 : w.heap.size + 1 < wr.heap.size + 1 + 1 + 1 := by omega
      have Hat := Lib.hid hat
      have Hres := Lib.hid hres
      obtain ⟨k0, k1, k2, k3, k4, k5⟩ := hat
      obtain ⟨r0, r1, r2, r3, r4, r5⟩ := hres
      have k50 := k5 0
      have k51 := k5 1
      have k52 := k5 2
      have k53 := k5 3
      have k54 := k5 4
      have r50 := r5 0
      have r51 := r5 1
      have r52 := r5 2
      have r53 := r5 3
      have r54 := r5 4
      clear k5 r5 hbest
      by_cases hlt : k < l.length - 1
      · obtain ⟨c0, c1, c2, c3, c4⟩ := Hc.out (k + 1) (by omega)
        rw [show off + (k + 1) * 5 = off + 5 + k * 5 by omega] at c0 c1 c2 c3 c4
        rw [← hb.cell (World.block_lt_of_cell? w _ c0)] at c0
        rw [← hb.cell (World.block_lt_of_cell? w _ c1)] at c1
        rw [← hb.cell (World.block_lt_of_cell? w _ c2)] at c2
        rw [← hb.cell (World.block_lt_of_cell? w _ c3)] at c3
        rw [← hb.cell (World.block_lt_of_cell? w _ c4)] at c4
        have hpick := pick_snoc l (k := k) (by omega) a0
        rw [← Hbest.out] at hpick
        generalize l.getD (k + 1) default = a at c0 c1 c2 c3 c4 hpick
        have Hpick := Lib.hid hpick
        clear hpick
        obtain ⟨⟨g, kd, ob, at'⟩, ix⟩ := a
        obtain ⟨⟨bg, bk, bo, bat⟩, bi⟩ := best
        simp only at c0 c1 c2 c3 c4 k0 k1 k2 k3 k4
        by_cases h1 : kd = 2
        · obtain rfl : kd = 2 := h1
          by_cases h2 : bk = 2
          · obtain rfl : bk = 2 := h2
            by_cases h3 : (bi : Int) < (ix : Int)
            · have hp : better ⟨⟨bg, 2, bo, bat⟩, bi⟩ ⟨⟨g, 2, ob, at'⟩, ix⟩ = true := by simp [better, Acc.w, *] <;> omega
              have Hp := Lib.hid hp
              clear hp
              go_wp2_with (go_at_call 43; refine (writes_any _ _ _ _ _ _).mono ?_; rintro e w' ⟨rfl, rfl⟩)
              go_roundw
              case rel =>
                refine ⟨k + 1, ⟨⟨g, 2, ob, at'⟩, ix⟩, by omega, by go_num, ?_, ?_, ?_, ?_⟩
                · rw [Hpick.out]; unfold pick; rw [if_pos Hp.out]
                · exact (((put5_at Hat.out ⟨⟨g, 2, ob, at'⟩, ix⟩).alloc _).alloc _).alloc _
                · exact (((Hres.out.kept (put5_chg wr (w.heap.size + 1) _ _ _ _ _) (by omega)).alloc _).alloc _).alloc _
                · have hbp : Below w.heap.size w (put5 wr (w.heap.size + 1) (.int .i64 g) (.int .i64 2) (.int .i64 ob) (.int .i64 at') (.int .i64 ix)) := hb.trans ((put5_chg wr (w.heap.size + 1) _ _ _ _ _).below (by omega) (fun q hq => by omega))
                  exact (bal (bal (bal (⟨hbp, by have := hb.size; simp only [put5, World.size_setCell]; omega⟩) _) _) _).1
              case measure => simp [intOf]; omega
            · have hp : better ⟨⟨bg, 2, bo, bat⟩, bi⟩ ⟨⟨g, 2, ob, at'⟩, ix⟩ = false := by simp [better, Acc.w, *] <;> omega
              have Hp := Lib.hid hp
              clear hp
              go_wp2_with (go_at_call 43; refine (writes_any _ _ _ _ _ _).mono ?_; rintro e w' ⟨rfl, rfl⟩)
              go_roundw
              case rel =>
                refine ⟨k + 1, ⟨⟨bg, 2, bo, bat⟩, bi⟩, by omega, by go_num, ?_, ?_, ?_, ?_⟩
                · rw [Hpick.out]; unfold pick; rw [if_neg (by rw [Hp.out]; simp)]
                · exact ((((Hat.out).alloc _).alloc _).alloc _).alloc _
                · exact ((((Hres.out).alloc _).alloc _).alloc _).alloc _
                · exact (bal (bal (bal (bal (⟨hb, hb.size⟩) _) _) _) _).1
              case measure => simp [intOf]; omega
          · have h2' : (bk == 2) = false := beq_false_of_ne h2
            have hp : better ⟨⟨bg, bk, bo, bat⟩, bi⟩ ⟨⟨g, 2, ob, at'⟩, ix⟩ = true := by simp [better, Acc.w, *] <;> omega
            have Hp := Lib.hid hp
            clear hp
            go_wp2_with (go_at_call 43; refine (writes_any _ _ _ _ _ _).mono ?_; rintro e w' ⟨rfl, rfl⟩)
            go_roundw
            case rel =>
              refine ⟨k + 1, ⟨⟨g, 2, ob, at'⟩, ix⟩, by omega, by go_num, ?_, ?_, ?_, ?_⟩
              · rw [Hpick.out]; unfold pick; rw [if_pos Hp.out]
              · exact (((put5_at Hat.out ⟨⟨g, 2, ob, at'⟩, ix⟩).alloc _).alloc _).alloc _
              · exact (((Hres.out.kept (put5_chg wr (w.heap.size + 1) _ _ _ _ _) (by omega)).alloc _).alloc _).alloc _
              · have hbp : Below w.heap.size w (put5 wr (w.heap.size + 1) (.int .i64 g) (.int .i64 2) (.int .i64 ob) (.int .i64 at') (.int .i64 ix)) := hb.trans ((put5_chg wr (w.heap.size + 1) _ _ _ _ _).below (by omega) (fun q hq => by omega))
                exact (bal (bal (bal (⟨hbp, by have := hb.size; simp only [put5, World.size_setCell]; omega⟩) _) _) _).1
            case measure => simp [intOf]; omega
        · have h1' : (kd == 2) = false := beq_false_of_ne h1
          by_cases h2 : bk = 2
          · obtain rfl : bk = 2 := h2
            have hp : better ⟨⟨bg, 2, bo, bat⟩, bi⟩ ⟨⟨g, kd, ob, at'⟩, ix⟩ = false := by simp [better, Acc.w, *] <;> omega
            have Hp := Lib.hid hp
            clear hp
            go_wp2_with (go_at_call 43; refine (writes_any _ _ _ _ _ _).mono ?_; rintro e w' ⟨rfl, rfl⟩)
            go_roundw
            case rel =>
              refine ⟨k + 1, ⟨⟨bg, 2, bo, bat⟩, bi⟩, by omega, by go_num, ?_, ?_, ?_, ?_⟩
              · rw [Hpick.out]; unfold pick; rw [if_neg (by rw [Hp.out]; simp)]
              · exact ((((Hat.out).alloc _).alloc _).alloc _).alloc _
              · exact ((((Hres.out).alloc _).alloc _).alloc _).alloc _
              · exact (bal (bal (bal (bal (⟨hb, hb.size⟩) _) _) _) _).1
            case measure => simp [intOf]; omega
          · have h2' : (bk == 2) = false := beq_false_of_ne h2
            by_cases h3 : g ≤ bg
            · have hp : better ⟨⟨bg, bk, bo, bat⟩, bi⟩ ⟨⟨g, kd, ob, at'⟩, ix⟩ = true := by simp [better, Acc.w, *] <;> omega
              have Hp := Lib.hid hp
              clear hp
              go_wp2_with (go_at_call 43; refine (writes_any _ _ _ _ _ _).mono ?_; rintro e w' ⟨rfl, rfl⟩)
              go_roundw
              case rel =>
                refine ⟨k + 1, ⟨⟨g, kd, ob, at'⟩, ix⟩, by omega, by go_num, ?_, ?_, ?_, ?_⟩
                · rw [Hpick.out]; unfold pick; rw [if_pos Hp.out]
                · exact ((((put5_at Hat.out ⟨⟨g, kd, ob, at'⟩, ix⟩).alloc _).alloc _).alloc _).alloc _
                · exact ((((Hres.out.kept (put5_chg wr (w.heap.size + 1) _ _ _ _ _) (by omega)).alloc _).alloc _).alloc _).alloc _
                · have hbp : Below w.heap.size w (put5 wr (w.heap.size + 1) (.int .i64 g) (.int .i64 kd) (.int .i64 ob) (.int .i64 at') (.int .i64 ix)) := hb.trans ((put5_chg wr (w.heap.size + 1) _ _ _ _ _).below (by omega) (fun q hq => by omega))
                  exact (bal (bal (bal (bal (⟨hbp, by have := hb.size; simp only [put5, World.size_setCell]; omega⟩) _) _) _) _).1
              case measure => simp [intOf]; omega
            · have hp : better ⟨⟨bg, bk, bo, bat⟩, bi⟩ ⟨⟨g, kd, ob, at'⟩, ix⟩ = false := by simp [better, Acc.w, *] <;> omega
              have Hp := Lib.hid hp
              clear hp
              go_wp2_with (go_at_call 43; refine (writes_any _ _ _ _ _ _).mono ?_; rintro e w' ⟨rfl, rfl⟩)
              go_roundw
              case rel =>
                refine ⟨k + 1, ⟨⟨bg, bk, bo, bat⟩, bi⟩, by omega, by go_num, ?_, ?_, ?_, ?_⟩
                · rw [Hpick.out]; unfold pick; rw [if_neg (by rw [Hp.out]; simp)]
                · exact ((((Hat.out).alloc _).alloc _).alloc _).alloc _
                · exact ((((Hres.out).alloc _).alloc _).alloc _).alloc _
                · exact (bal (bal (bal (bal (⟨hb, hb.size⟩) _) _) _) _).1
              case measure => simp [intOf]; omega
      · have hkn : k = l.length - 1 := by omega
        obtain rfl : k = l.length - 1 := hkn
        have HA : Hid (chosenL l = best) := by rw [Hbest.out]; exact Hall.out
        go_wp2
        (try simp only [Exit.inBlock, Exit.then])
        refine bodyPost_ret (results_cell rfl rfl (put5_at Hres.out best).load) rfl ?_
        refine ⟨ret_v ?_, ?_⟩
        · rw [HA.out]
        · exact hb.trans ((put5_chg wr w.heap.size _ _ _ _ _).below (by omega) (fun q hq => by omega))
end Go.Proofs.YtkjbpkggcddnhaaDoor
