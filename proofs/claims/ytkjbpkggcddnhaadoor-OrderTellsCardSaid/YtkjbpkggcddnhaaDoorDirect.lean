/- The walk of the reference's Direct. -/
import Derived.Test.YtkjbpkggcddnhaaDoorRefA
import Derived.Test.YtkjbpkggcddnhaaDoorRaceMem
import Derived.Test.YtkjbpkggcddnhaaDoorRegion
import Derived.Deep.CutRange
import Derived.Deep.CutBlock
namespace Go.Proofs.YtkjbpkggcddnhaaDoor
set_option linter.unusedVariables false
set_option linter.unusedSimpArgs false
open Go.RowKit

/-- Two events of a trace in memory. -/
def SDir (be oe i j : Nat) (a b : Ev) (x : World) : Prop :=
  (x.cell? ⟨be, oe + i * 4, none⟩ = some (.int .i64 a.g) ∧ x.cell? ⟨be, oe + i * 4 + 1, none⟩ = some (.int .i64 a.kind) ∧ x.cell? ⟨be, oe + i * 4 + 2, none⟩ = some (.int .i64 a.obj) ∧ x.cell? ⟨be, oe + i * 4 + 3, none⟩ = some (.int .i64 a.at_)) ∧
  x.cell? ⟨be, oe + j * 4, none⟩ = some (.int .i64 b.g) ∧ x.cell? ⟨be, oe + j * 4 + 1, none⟩ = some (.int .i64 b.kind) ∧ x.cell? ⟨be, oe + j * 4 + 2, none⟩ = some (.int .i64 b.obj) ∧ x.cell? ⟨be, oe + j * 4 + 3, none⟩ = some (.int .i64 b.at_)

theorem hand_none {rooms : List Int} {l : List Ev} {i : Nat} {g : Int} (hn : nthL l 5 (l.getD i default).obj (whichL l i) = none) : handB rooms l i g = false := by unfold handB; rw [hn]; simp
theorem hand_some {rooms : List Int} {l : List Ev} {i s : Nat} {g : Int} (h6 : (l.getD i default).kind = 6) (hr : roomL rooms (l.getD i default).obj = 0) (hn : nthL l 5 (l.getD i default).obj (whichL l i) = some s) : handB rooms l i g = (decide (s < i) && decide ((l.getD s default).g = g)) := by
  unfold handB; rw [hn, h6, hr]; simp
/-- Does a channel have room? -/
def roomPos (rooms : List Int) (c : Int) : Bool := decide (0 ≤ c) && decide (c < rooms.length) && decide (0 < rooms.getD c.toNat 0)
theorem roomL_pos {rooms : List Int} {c : Nat} (h : roomPos rooms c = true) : roomL rooms c = rooms.getD c 0 ∧ c < rooms.length ∧ 0 < rooms.getD c 0 := by
  unfold roomPos at h
  simp only [Bool.and_eq_true, decide_eq_true_eq, Int.toNat_natCast] at h
  refine ⟨?_, by omega, h.2⟩
  unfold roomL
  rw [if_pos ⟨by omega, by omega⟩, Int.toNat_natCast]
  omega
theorem roomL_zero {rooms : List Int} {c : Int} (h : roomPos rooms c = false) : roomL rooms c = 0 := by
  unfold roomL
  split
  · rename_i hc
    unfold roomPos at h
    rw [decide_eq_true hc.1, decide_eq_true hc.2] at h
    simp only [Bool.true_and, decide_eq_false_iff_not] at h
    omega
  · rfl

set_option maxRecDepth 100000 in
set_option maxHeartbeats 16000000 in
theorem direct_any {w : World} {vt vr : Value} {l : List Ev} {rooms : List Int} (ht : Trace l rooms) (hev : Evs w vt l) (hr : Ints w vr rooms) {i j : Nat} (hi : i < l.length) (hj : j < l.length) :
    Calls Tryd.prog 49 #[vt, vr, .int .i64 i, .int .i64 j] w fun e w' => e = .returned (.bool (dirL rooms l i j)) ∧ Below w.heap.size w w' := by
  obtain ⟨be, oe, ce, rfl, hbe, c0, c1, c2, c3⟩ := hev.at hi
  obtain ⟨be', oe', ce', he, _, d0, d1, d2, d3⟩ := hev.at hj
  cases he
  obtain ⟨ar, cr, rfl⟩ := hr.shape
  have hrl := hr.len
  have hel := ht.len
  have Hev := Lib.hid hev
  have Hr := Lib.hid hr
  have Ht := Lib.hid ht
  have hSx : ∀ x, Below w.heap.size w x → SDir be oe i j (l.getD i default) (l.getD j default) x := fun x hx =>
    ⟨⟨(hx.cell (World.block_lt_of_cell? w _ c0)).trans c0, (hx.cell (World.block_lt_of_cell? w _ c1)).trans c1, (hx.cell (World.block_lt_of_cell? w _ c2)).trans c2, (hx.cell (World.block_lt_of_cell? w _ c3)).trans c3⟩,
      (hx.cell (World.block_lt_of_cell? w _ d0)).trans d0, (hx.cell (World.block_lt_of_cell? w _ d1)).trans d1, (hx.cell (World.block_lt_of_cell? w _ d2)).trans d2, (hx.cell (World.block_lt_of_cell? w _ d3)).trans d3⟩
  have hiI : (i : Int) < (l.length : Int) := by omega
  have hjI : (j : Int) < (l.length : Int) := by omega
  have hobj := Ht.out.obj (l.getD i default) (getD_mem hi)
  have HSx := Lib.hid hSx
  obtain ⟨a, ha⟩ : ∃ a, a = l.getD i default := ⟨_, rfl⟩
  obtain ⟨b, hb⟩ : ∃ b, b = l.getD j default := ⟨_, rfl⟩
  rw [← ha, ← hb] at HSx
  rw [← ha] at hobj
  have Ha := Lib.hid ha
  have Hb := Lib.hid hb
  clear hev hr ht hSx c0 c1 c2 c3 d0 d1 d2 d3 ha hb
  obtain ⟨ag, ak, ao, aa⟩ := a
  obtain ⟨bg, bk, bo, ba⟩ := b
  simp only at hobj
  go_enter Tryd.func49, Tryd.ntmps49
  go_upto_region 1 with fail
  go_cut [9, 10] from 13 to 159 (fun s9 s10 wx => ∃ P Q : Nat, s9 = .pointer (some ⟨P, 0, none⟩) ∧ s10 = .pointer (some ⟨Q, 0, none⟩) ∧ (Below w.heap.size w wx ∧ EvAt wx P ⟨ag, ak, ao, aa⟩ ∧ EvAt wx Q ⟨bg, bk, bo, ba⟩))
  case first =>
    go_wp2_with fail
    refine wp_region_order 11 [] (.take 0 (.take 1 (.take 2 (.take 3 (.take 4 (.take 5 (.take 6 (.take 7 (.two 8 9 (.one 9 (.one 10 (.done))) (.one 8 (.one 10 (.done)))))))))))) (fun x => SDir be oe i j ⟨ag, ak, ao, aa⟩ ⟨bg, bk, bo, ba⟩ x) (by kernel_rfl) (by kernel_rfl) (HSx.out _ ((Below.refl _ w).drew)) ?_
    refine wpFree_nil ?_
    repeat (first | (refine wpHeld_take (v := ?_) (by rfl) (by rfl) (fun x hx => ?_) (by exact fun _ _ _ h => h) ?_; rotate_left; (obtain ⟨⟨h1, h2, h3, h4⟩, h5, h6, h7, h8⟩ := hx; (first | (go_simp; done) | (go_simp; with_reducible rfl))); simp only [Act.put, List.setIfInBounds_toArray, List.set_cons_zero, List.set_cons_succ]))
    refine wpHeld_two (by rfl) (by rfl) (by rfl) (by rfl) (fun K hK => ?_) (fun K hK => ?_)
    · go_simp
      refine hK _ _ (HSx.out _ (((Below.refl _ w).alloc (Nat.le_refl _) _).drew)) ?_
      clear hK K
      try simp only [Act.put, List.setIfInBounds_toArray, List.set_cons_zero, List.set_cons_succ]
      refine wpHeld_do (by rfl) (by rfl) (fun K hK => ?_)
      go_simp
      refine hK _ _ (HSx.out _ ((((Below.refl _ w).alloc (Nat.le_refl _) _).alloc (by simp) _).drew)) ?_
      clear hK K
      try simp only [Act.put, List.setIfInBounds_toArray, List.set_cons_zero, List.set_cons_succ]
      refine wpHeld_do (by rfl) (by rfl) (fun K hK => ?_)
      go_simp
      refine hK _ _ (HSx.out _ ((((Below.refl _ w).alloc (Nat.le_refl _) _).alloc (by simp) _).drew)) ?_
      clear hK K
      try simp only [Act.put, List.setIfInBounds_toArray, List.set_cons_zero, List.set_cons_succ]
      refine wpHeld_nil ?_
      dsimp only [List.drop]
      go_wp2_with fail
      go_meet
      refine ⟨_, _, rfl, rfl, (((Below.refl _ w).alloc (Nat.le_refl _) _).alloc (by simp) _).drew, ?_, ?_⟩
      · exact ((EvAt.made w ⟨ag, ak, ao, aa⟩ 38).alloc _).new ((Below.refl _ _).drew)
      · have h := EvAt.made (w.alloc (.cells #[.int .i64 ag, .int .i64 ak, .int .i64 ao, .int .i64 aa] 38)) ⟨bg, bk, bo, ba⟩ 38
        rw [World.size_alloc] at h
        exact h.new ((Below.refl _ _).drew)
    · go_simp
      refine hK _ _ (HSx.out _ (((Below.refl _ w).alloc (Nat.le_refl _) _).drew)) ?_
      clear hK K
      try simp only [Act.put, List.setIfInBounds_toArray, List.set_cons_zero, List.set_cons_succ]
      refine wpHeld_do (by rfl) (by rfl) (fun K hK => ?_)
      go_simp
      refine hK _ _ (HSx.out _ ((((Below.refl _ w).alloc (Nat.le_refl _) _).alloc (by simp) _).drew)) ?_
      clear hK K
      try simp only [Act.put, List.setIfInBounds_toArray, List.set_cons_zero, List.set_cons_succ]
      refine wpHeld_do (by rfl) (by rfl) (fun K hK => ?_)
      go_simp
      refine hK _ _ (HSx.out _ ((((Below.refl _ w).alloc (Nat.le_refl _) _).alloc (by simp) _).drew)) ?_
      clear hK K
      try simp only [Act.put, List.setIfInBounds_toArray, List.set_cons_zero, List.set_cons_succ]
      refine wpHeld_nil ?_
      dsimp only [List.drop]
      go_wp2_with fail
      go_meet
      refine ⟨_, _, rfl, rfl, (((Below.refl _ w).alloc (Nat.le_refl _) _).alloc (by simp) _).drew, ?_, ?_⟩
      · have h := EvAt.made (w.alloc (.cells #[.int .i64 bg, .int .i64 bk, .int .i64 bo, .int .i64 ba] 38)) ⟨ag, ak, ao, aa⟩ 38
        rw [World.size_alloc] at h
        exact h.new ((Below.refl _ _).drew)
      · exact ((EvAt.made w ⟨bg, bk, bo, ba⟩ 38).alloc _).new ((Below.refl _ _).drew)
  case rest =>
    obtain ⟨P, Q, rfl, rfl, hb1, hp, hq⟩ := hcut
    have hD : dirL rooms l i j = (decide (ag = bg) || (decide (ak = 10) && decide (ao = bg)) || handB rooms l i bg ||
        (decide (ao = bo) && ((decide (ak = 4) && decide (bk = 3) || atomicK ak && atomicK bk) || (decide (ak = 5) && decide (bk = 6) && decide (whichL l i = whichL l j)) ||
          (decide (ak = 6) && decide (bk = 5) && (decide (0 < roomL rooms ao) && decide (roomL rooms ao ≤ whichL l j) && decide ((whichL l j : Int) - roomL rooms ao = whichL l i)))))) := by
      unfold dirL; rw [← Ha.out, ← Hb.out]
    have hHd : handB rooms l i bg = true → ak = 6 ∧ roomL rooms ao = 0 := fun h => by
      have := (handB_iff hi).1 h
      rw [← Ha.out] at this
      exact ⟨this.1, this.2.1⟩
    generalize hDL : dirL rooms l i j = D at hD
    have HDL := Lib.hid hDL
    have HD := Lib.hid hD
    have HHd := Lib.hid hHd
    have Hp := Lib.hid hp
    have Hq := Lib.hid hq
    have Hb1 := Lib.hid hb1
    have p0 := hp.c0
    have p1 := hp.c1
    have p2 := hp.c2
    have q0 := hq.c0
    have q1 := hq.c1
    have q2 := hq.c2
    simp only at p0 p1 p2 q0 q1 q2
    clear hD hHd hp hq hb1 hDL
    go_upto_region 2 with fail
    go_cut [37] from 21 to 159 (fun s37 wx => s37 = .bool (decide (ag = bg) || (decide (ak = 10) && decide (ao = bg))) ∧ wx = wc)
    case first =>
      by_cases t1 : ag = bg
      · obtain rfl : ag = bg := t1
        go_wp2_with fail
        go_meet
        exact ⟨congrArg Value.bool (by simp), rfl⟩
      have t1' : (ag == bg) = false := beq_false_of_ne t1
      by_cases t2 : ak = 10
      · obtain rfl : ak = 10 := t2
        by_cases t3 : ao = bg
        · obtain rfl : ao = bg := t3
          go_wp2_with fail
          go_meet
          exact ⟨congrArg Value.bool (by simp), rfl⟩
        · have t3' : (ao == bg) = false := beq_false_of_ne t3
          go_wp2_with fail
          go_meet
          exact ⟨congrArg Value.bool (by simp [t1, t3]), rfl⟩
      · have t2' : (ak == 10) = false := beq_false_of_ne t2
        go_wp2_with fail
        go_meet
        exact ⟨congrArg Value.bool (by simp [t1, t2]), rfl⟩
    case rest =>
      obtain ⟨rfl, rfl⟩ := hcut
      cases hT : (decide (ag = bg) || (decide (ak = 10) && decide (ao = bg))) with
      | true =>
        have HT := Lib.hid hT
        clear hT
        go_wp2_with fail
        go_ret
        exact ⟨ret_v (congrArg Value.bool (by rw [HDL.out, HD.out, HT.out]; simp)), Hb1.out⟩
      | false =>
        have HT := Lib.hid hT
        clear hT
        go_upto_region 5 with fail
        go_cut [55] from 38 to 159 (fun s55 wx => s55 = .bool (roomPos rooms ao) ∧ wx = wc)
        case first =>
          by_cases t1 : ao < 0
          · have hP : roomPos rooms ao = false := by unfold roomPos; rw [decide_eq_false (by omega : ¬ 0 ≤ ao)]; rfl
            have HP := Lib.hid hP
            clear hP
            go_wp2_with fail
            go_meet
            exact ⟨congrArg Value.bool HP.out.symm, rfl⟩
          obtain ⟨o, rfl⟩ := Int.eq_ofNat_of_zero_le (Int.not_lt.1 t1)
          by_cases t2 : o < rooms.length
          · have hri := (Hr.out.new Hb1.out).cases
            rcases hri with ⟨_, h0⟩ | ⟨br, orr, cr', her, _, _, _, hcr⟩
            · rw [h0] at t2; simp at t2
            cases her
            have r0 := hcr o t2
            have t2I : (o : Int) < (rooms.length : Int) := by omega
            clear hcr
            have hP : roomPos rooms o = decide (0 < rooms.getD o 0) := by unfold roomPos; rw [Int.toNat_natCast, decide_eq_true (by omega : (0 : Int) ≤ (o : Int)), decide_eq_true t2I]; simp
            generalize rooms.getD o 0 = q at r0 hP
            have HP := Lib.hid hP
            clear hP
            go_wp2_with fail
            go_meet
            exact ⟨congrArg Value.bool HP.out.symm, rfl⟩
          · have t2I : (rooms.length : Int) ≤ (o : Int) := by omega
            have hP : roomPos rooms o = false := by unfold roomPos; rw [decide_eq_false (by omega : ¬ (o : Int) < (rooms.length : Int))]; simp
            have HP := Lib.hid hP
            clear hP
            go_wp2_with fail
            go_meet
            exact ⟨congrArg Value.bool HP.out.symm, rfl⟩
        case rest =>
          obtain ⟨rfl, rfl⟩ := hcut
          go_upto_if 55 with fail
          go_cut [11] from 55 to 159 (fun s11 wx => s11 = .int .i64 (roomL rooms ao) ∧ wx = wc)
          case first =>
            cases hP : roomPos rooms ao with
            | false =>
              have HP := Lib.hid (roomL_zero hP)
              clear hP
              go_wp2_with fail
              go_meet
              exact ⟨congrArg (Value.int .i64) HP.out.symm, rfl⟩
            | true =>
              obtain ⟨o, rfl⟩ : ∃ o : Nat, ao = o := by
                unfold roomPos at hP
                simp only [Bool.and_eq_true, decide_eq_true_eq] at hP
                exact Int.eq_ofNat_of_zero_le hP.1.1
              obtain ⟨hP1, hP2, _⟩ := roomL_pos hP
              rcases (Hr.out.new Hb1.out).cases with ⟨_, h0⟩ | ⟨br, orr, cr', her, _, _, _, hcr⟩
              · rw [h0] at hP2; simp at hP2
              cases her
              have r0 := hcr o hP2
              have t2I : (o : Int) < (rooms.length : Int) := by omega
              clear hcr hP
              generalize rooms.getD o 0 = q at r0 hP1
              have HP1 := Lib.hid hP1
              clear hP1
              go_wp2_with fail
              go_meet
              exact ⟨congrArg (Value.int .i64) HP1.out.symm, rfl⟩
          case rest =>
            obtain ⟨rfl, rfl⟩ := hcut
            generalize hR : roomL rooms ao = R at HD HHd ⊢
            have hR0 : 0 ≤ R := by rw [← hR]; exact roomL_nonneg rooms ao
            have HR := Lib.hid hR
            clear hR
            go_upto_region 7 with fail
            go_cut [67] from 61 to 159 (fun s67 wx => s67 = .bool (decide (ak = 6) && decide (R = 0)) ∧ wx = wc)
            case first =>
              by_cases t1 : ak = 6
              · obtain rfl : ak = 6 := t1
                by_cases t2 : R = 0
                · obtain rfl : R = 0 := t2
                  go_wp2_with fail
                  go_meet
                  exact ⟨rfl, rfl⟩
                · have t2' : (R == 0) = false := beq_false_of_ne t2
                  go_wp2_with fail
                  go_meet
                  exact ⟨congrArg Value.bool (by simp [t2]), rfl⟩
              · have t1' : (ak == 6) = false := beq_false_of_ne t1
                go_wp2_with fail
                go_meet
                exact ⟨congrArg Value.bool (by simp [t1]), rfl⟩
            case rest =>
              obtain ⟨rfl, rfl⟩ := hcut
              obtain ⟨w1, rfl⟩ : ∃ x, x = wc := ⟨_, rfl⟩
              go_upto_if 67 with fail
              go_cut [12] from 67 to 159 (fun s12 wx => handB rooms l i bg = false ∧ Below w1.heap.size w1 wx)
              case first =>
                cases hT3 : (decide (ak = 6) && decide (R = 0)) with
                | false =>
                  have hh : handB rooms l i bg = false := by
                    cases hh : handB rooms l i bg with
                    | false => rfl
                    | true =>
                      obtain ⟨h1, h2⟩ := HHd.out hh
                      rw [h1, h2] at hT3
                      simp at hT3
                  have Hh := Lib.hid hh
                  clear hh hT3
                  go_wp2_with fail
                  go_meet
                  exact ⟨Hh.out, Below.refl _ _⟩
                | true =>
                  have hT3' : ak = 6 ∧ R = 0 := by simpa using hT3
                  have Hk6 := Lib.hid hT3'.1
                  have HR00 := Lib.hid hT3'.2
                  have hRz : roomL rooms ao = 0 := HR.out.trans hT3'.2
                  have hwl : whichL l i ≤ 100000 := by
                    have := cq_le (isAt l (l.getD i default).kind (l.getD i default).obj) i
                    unfold whichL
                    omega
                  have Hwl := Lib.hid hwl
                  have HRz := Lib.hid hRz
                  clear hT3 hT3' hRz hwl
                  go_upto_region 8 with fail
                  refine wp_region_order 6 [] (.take 0 (.take 1 (.take 2 (.take 3 (.take 4 (.one 5 (.done))))))) (fun x => x.cell? ⟨P, 2, none⟩ = some (.int .i64 ao)) (by kernel_rfl) (by kernel_rfl) p2 ?_
                  refine wpFree_nil ?_
                  repeat (first | (refine wpHeld_take (v := ?_) (by rfl) (by rfl) (fun x hx => ?_) (by exact fun _ _ _ h => h) ?_; rotate_left; (have h1 := hx; (first | (go_simp; done) | (go_simp; with_reducible rfl))); simp only [Act.put, List.setIfInBounds_toArray, List.set_cons_zero, List.set_cons_succ]))
                  refine wpHeld_do (by rfl) (by rfl) (fun K hK => ?_)
                  go_simp
                  refine (which_any ((Hev.out.new Hb1.out).new ((Below.refl _ w1).drew)) hi).mono ?_
                  rintro e w' ⟨rfl, hbw⟩
                  refine hK _ _ ((hbw.cell (World.block_lt_of_cell? w1.drew _ p2)).trans p2) ?_
                  clear hK K
                  try simp only [Act.put, List.setIfInBounds_toArray, List.set_cons_zero, List.set_cons_succ]
                  refine wpHeld_nil ?_
                  dsimp only [List.drop]
                  go_wp2_with fail
                  have hb2 : Below w.heap.size w w' := Hb1.out.trans (((Below.refl _ w1).drew.trans (hbw.mono (Nat.le_refl _))).mono Hb1.out.size)
                  refine (nth_any (Hev.out.new hb2) 5 ao (whichL l i) Hwl.out).mono ?_
                  rintro e w2 ⟨he, hbw2⟩
                  have hb3 : Below w1.heap.size w1 w2 := ((Below.refl _ w1).drew.trans (hbw.mono (Nat.le_refl _))).trans (hbw2.mono hbw.size)
                  have Hb3 := Lib.hid hb3
                  have q0' := (hb3.cell (World.block_lt_of_cell? w1 _ q0)).trans q0
                  clear hb2 hbw hbw2 hb3
                  cases hN : nthL l 5 ao (whichL l i) with
                  | none =>
                    rw [nthV_none hN] at he
                    subst he
                    have hh : handB rooms l i bg = false := hand_none (by rw [← Ha.out]; exact hN)
                    have Hh := Lib.hid hh
                    clear hh hN
                    go_wp2_with fail
                    go_quiet (fail)
                    go_wp2_with fail
                    go_meet
                    exact ⟨Hh.out, below_drewN Hb3.out _⟩
                  | some s =>
                    rw [nthV_some hN] at he
                    subst he
                    have hh : handB rooms l i bg = (decide (s < i) && decide ((l.getD s default).g = bg)) := hand_some (by rw [← Ha.out]; exact Hk6.out) (by rw [← Ha.out]; exact HRz.out) (by rw [← Ha.out]; exact hN)
                    have hsl := (nthL_some.1 hN).1
                    have Hh := Lib.hid hh
                    clear hh hN
                    by_cases t1 : s < i
                    · have t1I : (s : Int) < (i : Int) := by omega
                      have hslI : (s : Int) < (l.length : Int) := by omega
                      obtain ⟨be2, oe2, ce2, he2, _, y0, _⟩ := (Hev.out.new (Hb1.out.trans (Hb3.out.mono Hb1.out.size))).at hsl
                      cases he2
                      obtain ⟨sg, hsg⟩ : ∃ sg, sg = (l.getD s default).g := ⟨_, rfl⟩
                      rw [← hsg] at y0 Hh
                      have Hsg := Lib.hid hsg
                      clear hsg
                      by_cases t2 : sg = bg
                      · obtain rfl : sg = bg := t2
                        have hhT : handB rooms l i sg = true := by rw [Hh.out]; simp [t1]
                        have HhT := Lib.hid hhT
                        clear hhT
                        go_wp2_with fail
                        go_quiet (fail)
                        go_wp2_with fail
                        go_ret
                        exact ⟨ret_v (congrArg Value.bool (by rw [HDL.out, HD.out, HhT.out]; simp)), Hb1.out.trans ((below_drewN Hb3.out _).mono Hb1.out.size)⟩
                      · have t2' : (sg == bg) = false := beq_false_of_ne t2
                        have hhF : handB rooms l i bg = false := by rw [Hh.out]; simp [t2]
                        have HhF := Lib.hid hhF
                        clear hhF t2
                        go_wp2_with fail
                        go_quiet (fail)
                        go_wp2_with fail
                        go_meet
                        exact ⟨HhF.out, below_drewN Hb3.out _⟩
                    · have t1I : ¬ (s : Int) < (i : Int) := by omega
                      have t1J : (i : Int) ≤ (s : Int) := by omega
                      have hhF : handB rooms l i bg = false := by rw [Hh.out]; simp [t1]
                      have HhF := Lib.hid hhF
                      have hdec : decide (s < i) = false := decide_eq_false t1
                      clear hhF t1 t1I
                      go_wp2_with fail
                      go_quiet (fail)
                      go_wp2_with fail
                      go_meet
                      exact ⟨HhF.out, below_drewN Hb3.out _⟩
              case rest =>
                obtain ⟨hh, hbw⟩ := hcut
                rw [← hbw.cell (World.block_lt_of_cell? w1 _ p1)] at p1
                rw [← hbw.cell (World.block_lt_of_cell? w1 _ p2)] at p2
                rw [← hbw.cell (World.block_lt_of_cell? w1 _ q1)] at q1
                rw [← hbw.cell (World.block_lt_of_cell? w1 _ q2)] at q2
                have Hh := Lib.hid hh
                have Hbw := Lib.hid (Hb1.out.trans (hbw.mono Hb1.out.size))
                have hwi : whichL l i ≤ 3000 := by
                  have := cq_le (isAt l (l.getD i default).kind (l.getD i default).obj) i
                  unfold whichL
                  omega
                have hwj : whichL l j ≤ 3000 := by
                  have := cq_le (isAt l (l.getD j default).kind (l.getD j default).obj) j
                  unfold whichL
                  omega
                have Hwh := Lib.hid (fun x (hx : Below w.heap.size w x) => which_any (Hev.out.new hx) hi)
                have Hwh2 := Lib.hid (fun x (hx : Below w.heap.size w x) => which_any (Hev.out.new hx) hj)
                clear hh hbw p0 q0
                by_cases t4 : ao = bo
                · obtain rfl : ao = bo := t4
                  by_cases k4 : ak = 4
                  · obtain rfl : ak = 4 := k4
                    by_cases b3 : bk = 3
                    · obtain rfl : bk = 3 := b3
                      go_wp2_with fail
                      go_ret
                      exact ⟨ret_v (congrArg Value.bool (by rw [HDL.out, HD.out, HT.out, Hh.out]; simp)), Hbw.out⟩
                    · have b3' : (bk == 3) = false := beq_false_of_ne b3
                      have B3 := Lib.hid b3
                      clear b3
                      go_wp2_with fail
                      refine (atomic_any 4 _).mono ?_
                      rintro e w' ⟨rfl, rfl⟩
                      rw [show atomicK 4 = false from rfl]
                      go_wp2_with fail
                      go_ret
                      exact ⟨ret_v (congrArg Value.bool (by rw [HDL.out, HD.out, HT.out, Hh.out]; simp [B3.out, atomicK])), Hbw.out⟩
                  have k4' : (ak == 4) = false := beq_false_of_ne k4
                  cases hat : atomicK ak with
                  | true =>
                    have Hat := Lib.hid hat
                    have hk : (ak == 5) = false ∧ (ak == 6) = false ∧ ak ≠ 5 ∧ ak ≠ 6 := by
                      unfold atomicK at hat
                      simp only [Bool.or_eq_true, decide_eq_true_eq] at hat
                      refine ⟨beq_false_of_ne ?_, beq_false_of_ne ?_, ?_, ?_⟩ <;> omega
                    obtain ⟨k5', k6', k5, k6⟩ := hk
                    have K5 := Lib.hid k5
                    have K6 := Lib.hid k6
                    have K4 := Lib.hid k4
                    clear hat k4 k5 k6
                    go_wp2_with fail
                    refine (atomic_any ak _).mono ?_
                    rintro e w' ⟨rfl, rfl⟩
                    rw [Hat.out]
                    go_wp2_with fail
                    refine (atomic_any bk _).mono ?_
                    rintro e w' ⟨rfl, rfl⟩
                    cases hbt : atomicK bk with
                    | true =>
                      have Hbt := Lib.hid hbt
                      clear hbt
                      go_wp2_with fail
                      go_ret
                      exact ⟨ret_v (congrArg Value.bool (by rw [HDL.out, HD.out, HT.out, Hh.out, Hat.out, Hbt.out]; simp)), Hbw.out⟩
                    | false =>
                      have Hbt := Lib.hid hbt
                      clear hbt
                      go_wp2_with fail
                      go_ret
                      exact ⟨ret_v (congrArg Value.bool (by rw [HDL.out, HD.out, HT.out, Hh.out, Hat.out, Hbt.out]; simp [K4.out, K5.out, K6.out])), Hbw.out⟩
                  | false =>
                    have Hat := Lib.hid hat
                    have K4 := Lib.hid k4
                    clear hat k4
                    by_cases k5 : ak = 5
                    · obtain rfl : ak = 5 := k5
                      by_cases b6 : bk = 6
                      · obtain rfl : bk = 6 := b6
                        generalize whichL l i = a1 at HD Hwh hwi
                        generalize whichL l j = a2 at HD Hwh2 hwj
                        go_wp2_with fail
                        refine (atomic_any 5 _).mono ?_
                        rintro e w' ⟨rfl, rfl⟩
                        rw [show atomicK 5 = false from rfl]
                        go_wp2_with fail
                        refine (Hwh.out _ Hbw.out).mono ?_
                        rintro e w' ⟨rfl, hbx⟩
                        have Hbx := Lib.hid (Hbw.out.trans (hbx.mono Hbw.out.size))
                        clear hbx
                        go_wp2_with fail
                        refine (Hwh2.out _ Hbx.out).mono ?_
                        rintro e w' ⟨rfl, hby⟩
                        have Hby := Lib.hid (Hbx.out.trans (hby.mono Hbx.out.size))
                        clear hby
                        by_cases ha12 : a1 = a2
                        · obtain rfl : a1 = a2 := ha12
                          go_wp2_with fail
                          go_ret
                          exact ⟨ret_v (congrArg Value.bool (by rw [HDL.out, HD.out, HT.out, Hh.out]; simp)), Hby.out⟩
                        · have ha12' : ((a1 : Int) == (a2 : Int)) = false := beq_false_of_ne (by omega)
                          have HA := Lib.hid ha12
                          clear ha12
                          go_wp2_with fail
                          go_ret
                          exact ⟨ret_v (congrArg Value.bool (by rw [HDL.out, HD.out, HT.out, Hh.out]; simp [HA.out, atomicK])), Hby.out⟩
                      · have b6' : (bk == 6) = false := beq_false_of_ne b6
                        have B6 := Lib.hid b6
                        clear b6
                        go_wp2_with fail
                        refine (atomic_any 5 _).mono ?_
                        rintro e w' ⟨rfl, rfl⟩
                        rw [show atomicK 5 = false from rfl]
                        go_wp2_with fail
                        go_ret
                        exact ⟨ret_v (congrArg Value.bool (by rw [HDL.out, HD.out, HT.out, Hh.out]; simp [B6.out, atomicK])), Hbw.out⟩
                    have k5' : (ak == 5) = false := beq_false_of_ne k5
                    have K5 := Lib.hid k5
                    clear k5
                    by_cases k6 : ak = 6
                    · obtain rfl : ak = 6 := k6
                      by_cases b5 : bk = 5
                      · obtain rfl : bk = 5 := b5
                        generalize whichL l i = a1 at HD Hwh hwi
                        generalize whichL l j = a2 at HD Hwh2 hwj
                        go_wp2_with fail
                        refine (atomic_any 6 _).mono ?_
                        rintro e w' ⟨rfl, rfl⟩
                        rw [show atomicK 6 = false from rfl]
                        by_cases r0 : 0 < R
                        · go_wp2_with fail
                          refine (Hwh2.out _ Hbw.out).mono ?_
                          rintro e w' ⟨rfl, hbx⟩
                          have Hbx := Lib.hid (Hbw.out.trans (hbx.mono Hbw.out.size))
                          clear hbx
                          by_cases r1 : R ≤ (a2 : Int)
                          · go_wp2_with fail
                            refine (Hwh2.out _ Hbx.out).mono ?_
                            rintro e w' ⟨rfl, hby⟩
                            have Hby := Lib.hid (Hbx.out.trans (hby.mono Hbx.out.size))
                            clear hby
                            go_wp2_with fail
                            refine (Hwh.out _ Hby.out).mono ?_
                            rintro e w' ⟨rfl, hbz⟩
                            have Hbz := Lib.hid (Hby.out.trans (hbz.mono Hby.out.size))
                            clear hbz
                            go_wp2_with fail
                            go_ret
                            refine ⟨ret_v (congrArg Value.bool ?_), Hbz.out⟩
                            rw [HDL.out, HD.out, HT.out, Hh.out]
                            simp [r0, r1, atomicK]
                            rfl
                          · have r1' : (a2 : Int) < R := by omega
                            go_wp2_with fail
                            go_ret
                            refine ⟨ret_v (congrArg Value.bool ?_), Hbx.out⟩
                            rw [HDL.out, HD.out, HT.out, Hh.out]
                            simp [atomicK]
                            intro h1 h2
                            omega
                        · have r0' : R ≤ 0 := by omega
                          go_wp2_with fail
                          go_ret
                          refine ⟨ret_v (congrArg Value.bool ?_), Hbw.out⟩
                          rw [HDL.out, HD.out, HT.out, Hh.out]
                          simp [atomicK]
                          intro h1 h2
                          omega
                      · have b5' : (bk == 5) = false := beq_false_of_ne b5
                        have B5 := Lib.hid b5
                        clear b5
                        go_wp2_with fail
                        refine (atomic_any 6 _).mono ?_
                        rintro e w' ⟨rfl, rfl⟩
                        rw [show atomicK 6 = false from rfl]
                        go_wp2_with fail
                        go_ret
                        exact ⟨ret_v (congrArg Value.bool (by rw [HDL.out, HD.out, HT.out, Hh.out]; simp [B5.out, atomicK])), Hbw.out⟩
                    have k6' : (ak == 6) = false := beq_false_of_ne k6
                    have K6 := Lib.hid k6
                    clear k6
                    go_wp2_with fail
                    refine (atomic_any ak _).mono ?_
                    rintro e w' ⟨rfl, rfl⟩
                    rw [Hat.out]
                    go_wp2_with fail
                    go_ret
                    exact ⟨ret_v (congrArg Value.bool (by rw [HDL.out, HD.out, HT.out, Hh.out, Hat.out]; simp [K4.out, K5.out, K6.out])), Hbw.out⟩
                · have t4' : (ao != bo) = true := by simpa using t4
                  have T4 := Lib.hid t4
                  clear t4
                  go_wp2_with fail
                  go_ret
                  exact ⟨ret_v (congrArg Value.bool (by rw [HDL.out, HD.out, HT.out, Hh.out]; simp [T4.out])), Hbw.out⟩
end Go.Proofs.YtkjbpkggcddnhaaDoor
