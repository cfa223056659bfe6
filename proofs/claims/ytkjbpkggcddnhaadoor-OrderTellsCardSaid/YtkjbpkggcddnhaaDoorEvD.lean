/- The walk of (*watcher).event: kinds k5c,k5d. -/
import Derived.Test.YtkjbpkggcddnhaaDoorEvHead
namespace Go.Proofs.YtkjbpkggcddnhaaDoor
set_option linter.unusedVariables false
set_option linter.unusedSimpArgs false
open Go.RowKit

set_option maxRecDepth 100000 in
set_option maxHeartbeats 1600000 in
theorem event_k5c {w : World} {W : Nat} {ρ : Nat → Role} {rooms : List Int} {s : WS} {N : Nat} {m : WM} (h : IsW w W ρ rooms s N m) (hN : N ≤ 9000) (g : Nat) (hg : g < 8) (obj at_ : Int) (hwf : (Lit.int .i64 obj).wf = true)
    (r : Nat) (hr : roomL rooms obj = r) (hr9 : r ≤ 9223372036854775807) (hA1 : 0 < r) (hA2 : ¬ r ≤ (s.pp obj).sent.length) (hbd : getL (comesL rooms s ⟨g, 5, obj, at_⟩) g ≤ 9000000) :
    Calls Tryd.prog 42 #[.pointer (some ⟨W, 0, none⟩), .agg #[.int .i64 g, .int .i64 5, .int .i64 obj, .int .i64 at_]] w (EvPost w W ρ rooms s N ⟨g, 5, obj, at_⟩) := by
  have HBD : Hid (getL (s.own g) g ≤ 9000000) := by have h := hbd; rw [show comesL rooms s ⟨g, 5, obj, at_⟩ = s.own g from (comes5_plain hr (by omega))] at h; exact h
  clear hbd
  obtain ⟨i0, hi, hz0, hz1, hz2⟩ := info_parts info_int
  have hco := h.co g hg
  have hlt := h.lt
  have Hst0 := Lib.hid (fun (n : Nat) => St.begin (ev := ⟨g, 5, obj, at_⟩) h 38 129 n #[.slice none 0 0, .slice none 0 0, .slice none 0 0])
  generalize hvo : m.vo g = v0 at hco
  have Hvo := Lib.hid hvo
  clear hvo
  have hg0 : (0 : Int) ≤ (g : Int) := by omega
  have hg8 : (g : Int) < 8 := by omega
  have hg9 : (g : Int) < (g : Int) + 1 := by omega
  go_enter Tryd.func42, Tryd.ntmps42
  go_wp2_with fail
  go_quiet (fail)
  go_wp2_with fail
  refine (pipe_any (Hst0.out nq).isw (by omega) hwf).mono ?_
  rintro e w0 hpp
  obtain ⟨p, ρ2, m', rfl, hf3, hst, hr2, hvr, hvo', hM1, hM2, hM3, hf1, hf2, hcg⟩ := (Hst0.out nq).pipe hpp
  obtain ⟨q, v1, v2, v3, l1, l2, hq, hP⟩ := (hst.isw.pp.2 obj).2 _ hf3
  obtain rfl : p = q := by simpa using hq
  have hc0 := hst.isw.own g (by omega) (by omega)
  rw [hvo', Hvo.out] at hc0
  have hn1 := hP.n1
  have hn2 := hP.n2
  have hp0 := hP.c0
  have hp1 := hP.c1
  have he2 := hst.e2
  have hW0 := hst.isw.c0
  have hrooms := hst.isw.rooms
  have hco1 := hP.o1
  have hco2 := hP.o2
  have hk1 := hP.k1
  have hk2 := hP.k2
  have Hst := Lib.hid hst
  have Hf3 := Lib.hid hf3
  clear hst hf3 hpp hr2 hvr hvo' hM1 hM2 hM3 hf1 hf2 hcg hP hq Hst0 hco
  have HRm : Hid (∀ x, x.cell? ⟨W, 0, none⟩ = some m'.vr → Ints x m'.vr rooms → Calls Tryd.prog 64 #[.pointer (some ⟨W, 0, none⟩), .int .i64 obj] x fun e w' => e = .returned (.int .i64 r) ∧ x = w') := fun x h1 h2 => by
    have h := room_any obj h1 h2
    rw [hr] at h
    exact h
  obtain ⟨a2, k2, rfl⟩ := owns_shape hco2
  obtain ⟨a1, k1', rfl⟩ := owns_shape hco1
  have Hr := Lib.hid hr
  clear hr hk1 hk2 hco1 hco2
  go_wp2_with fail
  refine wp_region_order 9 [] (.take 0 (.take 1 (.take 2 (.take 3 (.take 4 (.take 5 (.take 6 (.take 7 (.one 8 (.done)))))))))) (fun x => x.cell? ⟨p, 0, none⟩ = some (.slice a1 (s.pp obj).sent.length k1') ∧ x.cell? ⟨w.heap.size, 2, none⟩ = some (.int .i64 obj)) (by kernel_rfl) (by kernel_rfl) ⟨hp0, he2⟩ ?_
  refine wpFree_nil ?_
  repeat (refine wpHeld_take (v := ?_) (by rfl) (by rfl) (fun x hx => ?_) (by exact fun _ _ _ h => h) ?_; rotate_left; (obtain ⟨h1, h2⟩ := hx; (first | (go_simp; done) | (go_simp; with_reducible rfl))); simp only [Act.put, List.setIfInBounds_toArray, List.set_cons_zero, List.set_cons_succ])
  refine wpHeld_do (by rfl) (by rfl) (fun K hK => ?_)
  go_simp
  refine (HRm.out w0.drew hW0 hrooms).mono ?_
  rintro e w' ⟨rfl, rfl⟩
  refine hK _ _ ⟨hp0, he2⟩ ?_
  clear hK K
  try simp only [Act.put, List.setIfInBounds_toArray, List.set_cons_zero, List.set_cons_succ]
  refine wpHeld_nil ?_
  dsimp only [List.drop]
  have hst00 := Hst.out.drew
  have hclk00 := hc0.drew
  clear hc0
  have hst0 := hst00
  have hclk0 := hclk00
  have hce0 := hst0.e0
  go_wp2_with (first | (go_at_call 64; refine (HRm.out w0.drew hW0 hrooms).mono ?_; rintro e w' ⟨rfl, rfl⟩) | (at_make; refine wpList_make_full _ rfl _ _ 23 rfl 0 3 i0 (.int .i64 0) 1 Tryd.underlying23 hi hz0 hz1 .i64 .i64 _ _ (g + 1) rfl rfl ?d1 ?d2 ?d3 ?d4 (Nat.zero_le _) ?_))
  (try (case d1 => omega))
  (try (case d2 => omega))
  case d3 => first | omega | (rw [hz2]; omega)
  case d4 => unfold maxLen; omega
  intro w1 hown hgr
  obtain ⟨hst1, hmade⟩ := hst0.made hgr hown (by simp)
  have hclk1 := hclk0.kept (S := fun _ => False) (Chg.grown hgr (fun k hk => by cases hk)) (fun _ h => h.elim)
  have hce := hst1.e0
  have Hst1 := Lib.hid hst1
  have Hclk1 := Lib.hid hclk1
  clear hst1 hst0 hclk0 hclk1 hgr hown hi hce0
  generalize hB : w0.heap.size = B at hmade ⊢
  have HB := Lib.hid hB
  clear hB
  obtain ⟨lc, hlc⟩ : ∃ lc, lc = s.own g := ⟨_, rfl⟩
  have hci := Hclk1.out.1
  have hl8 := Hclk1.out.2.1
  rw [← hlc] at hci hl8
  have hbd' : getL lc g ≤ 9000000 := by rw [hlc]; exact HBD.out
  have hbd0 := getL_nonneg lc g
  have Hlc := Lib.hid hlc
  clear hlc
  have hBg := hmade.cell g (by omega)
  have hBfg := hmade.fz g
  go_wp2_with fail
  refine wp_region_order 8 [] (.take 0 (.take 1 (.take 2 (.take 3 (.take 4 (.take 5 (.one 6 (.take 7 (.done))))))))) (fun x => x.cell? ⟨w.heap.size, 0, none⟩ = some (.int .i64 g)) (by kernel_rfl) (by kernel_rfl) hce ?_
  refine wpFree_nil ?_
  repeat (refine wpHeld_take (v := ?_) (by rfl) (by rfl) (fun x hx => ?_) (by exact fun _ _ _ h => h) ?_; rotate_left; (have h1 := hx; (first | (go_simp; done) | (go_simp; with_reducible rfl))); simp only [Act.put, List.setIfInBounds_toArray, List.set_cons_zero, List.set_cons_succ])
  refine wpHeld_do (by rfl) (by rfl) (fun K hK => ?_)
  go_simp
  refine (get_ints (l := lc) (w := w1.drew) hci _).mono ?_
  rintro e w' ⟨rfl, rfl⟩
  refine hK _ _ hce ?_
  clear hK K
  try simp only [Act.put, List.setIfInBounds_toArray, List.set_cons_zero, List.set_cons_succ]
  repeat (refine wpHeld_take (v := ?_) (by rfl) (by rfl) (fun x hx => ?_) (by exact fun _ _ _ h => h) ?_; rotate_left; (have h1 := hx; (first | (go_simp; done) | (go_simp; with_reducible rfl))); simp only [Act.put, List.setIfInBounds_toArray, List.set_cons_zero, List.set_cons_succ])
  refine wpHeld_nil ?_
  dsimp only [List.drop]
  go_wp2_with fail
  generalize hx : getL lc g + 1 = x
  have Hx := Lib.hid hx
  clear hx
  have hst2 := (Hst1.out.set_new (o := g) (v := .int .i64 x) hmade.ge hmade.ne hmade.role).drew
  have hone := hmade.one hg x
  have hci2 : Ints (w1.setCell ⟨B, g, none⟩ (.int .i64 x)) _ lc := hci.kept (Chg.setCell (S := fun b => b = B) w1 _ rfl) (fun b hb e => by have h1 := Hclk1.out.2.2 b hb; rw [e, hmade.role] at h1; cases h1)
  have Hst2 := Lib.hid hst2
  clear hst2 hBg hBfg hmade hce hbd0 hbd'
  refine (join_any _ _ lc (List.replicate g 0 ++ [x]) (w1.setCell ⟨B, g, none⟩ (.int .i64 x)).drew hci2 hone (by omega) (by simp; omega)).mono ?_
  rintro e w2 ⟨v, rfl, hv1, hv2, hv3⟩
  obtain ⟨va, nl, vc, rfl⟩ := hv1.shape'
  have hl82 : (joinL lc (List.replicate g 0 ++ [x])).length ≤ 8 := by have := joinL_length lc (List.replicate g 0 ++ [x]); simp at this; omega
  obtain ⟨hst3, hclk3, _⟩ := Hst2.out.clk hv3 hv1 hv2 hl82
  have hL : joinL lc (List.replicate g 0 ++ [x]) = clockL rooms s ⟨g, 5, obj, at_⟩ := by
    show _ = tickL _ _
    unfold tickL
    rw [← Hx.out, Hlc.out]
    rw [show comesL rooms s ⟨g, 5, obj, at_⟩ = s.own g from (comes5_plain Hr.out (by omega))]
    rfl
  rw [hL] at hclk3
  have hce := hst3.e0
  have hcw := hst3.isw.co g hg
  have hfw := hst3.isw.fz (1 + g)
  have Hst3 := Lib.hid hst3
  have Hclk3 := Lib.hid hclk3
  clear hst3 hclk3 hv1 hv2 hv3 hone hci2 hci Hst2 hL
  go_wp2_with fail
  refine wp_region_order 6 [] (.take 0 (.take 1 (.take 2 (.take 3 (.take 4 (.take 5 (.done))))))) (fun x => x.cell? ⟨w.heap.size, 0, none⟩ = some (.int .i64 g)) (by kernel_rfl) (by kernel_rfl) hce ?_
  refine wpFree_nil ?_
  repeat (refine wpHeld_take (v := ?_) (by rfl) (by rfl) (fun x hx => ?_) (by exact fun _ _ _ h => h) ?_; rotate_left; (have h1 := hx; (first | (go_simp; done) | (go_simp; with_reducible rfl))); simp only [Act.put, List.setIfInBounds_toArray, List.set_cons_zero, List.set_cons_succ])
  refine wpHeld_nil ?_
  dsimp only [List.drop]
  have hst4 := Hst3.out.put_own hg Hclk3.out
  have hk0 := hst4.e0
  have hk1 := hst4.e1
  have hk2 := hst4.e2
  have hclk4 : Clk (w2.setCell ⟨W, 1 + g, none⟩ (.slice va nl vc)) _ _ _ := Hclk3.out.kept (Chg.setCell (S := fun b => b = W) w2 _ rfl) (fun b e => by rw [e, Hst3.out.isw.rW]; simp)
  have Hst4 := Lib.hid hst4
  have Hclk4 := Lib.hid hclk4
  clear hst4 hclk4 hce
  go_wp2_with fail
  have hst5 := Hst4.out.drew.drew
  have hclk5 := Hclk4.out.drew.drew
  generalize hw8 : (w2.setCell ⟨W, 1 + g, none⟩ (.slice va nl vc)).drew = w8 at hst5 hclk5
  obtain ⟨q, u1, u2, u3, m1, m2, hq, hQ⟩ := (hst5.isw.pp.2 obj).2 _ Hf3.out
  obtain rfl : p = q := by simpa using hq
  replace hQ : IsPipe w8.drew _ obj p (s.pp obj) (N + 1) u1 u2 u3 m1 m2 := hQ
  have hn1 : (s.pp obj).sent.length ≤ N + 1 := hQ.n1
  have Hsame : Hid ((s.pp obj).frm.length = (s.pp obj).sent.length) := hQ.same
  obtain ⟨a1, c1, rfl⟩ := owns_shape hQ.o1
  obtain ⟨a3, c3, rfl⟩ := owns_shape hQ.o3
  have hS : Sx p w.heap.size _ _ g w8.drew := ⟨hQ.c0, hQ.c2, hst5.e0⟩
  obtain ⟨SS, hSS⟩ : ∃ SS : Nat → Prop, SS = fun b => (Value.slice a1 (s.pp obj).sent.length c1).ownBlock = some b := ⟨_, rfl⟩
  have hQlt : ∀ b, SS b → b < w8.drew.heap.size := fun b e => (hQ.o1.lt b (by rw [hSS] at e; exact e)).2
  have hSp : ¬ SS p := fun e => by rw [hSS] at e; have := hQ.r1 p e; rw [hQ.role] at this; cases this
  have hSE : ¬ SS w.heap.size := fun e => by rw [hSS] at e; have := hQ.r1 _ e; rw [hst5.er] at this; cases this
  have hC : Chg SS w8.drew w8.drew := Chg.refl _ _
  have HSS := Lib.hid hSS
  have ho1 := hQ.o1
  obtain ⟨i0, hi, hz0, hz1, hz2⟩ := info_parts info_int
  obtain ⟨i23, hi23, hy1, hy2, hy3⟩ := info_parts info_ints
  clear hSS hk0 hk1 hk2
  refine wp_region_order 16 [0, 1] (.take 2 (.take 3 (.take 4 (.take 5 (.take 6 (.take 9 (.take 10 (.take 11 (.take 12 (.take 13 (.take 14 (.two 7 15 (.two 8 15 (.one 15 (.done)) (.one 8 (.done))) (.one 7 (.one 8 (.done))))))))))))))) (fun x => Sx p w.heap.size (.slice a1 (s.pp obj).sent.length c1) (.slice a3 (s.pp obj).frm.length c3) g x) (by kernel_rfl) (by kernel_rfl) hS ?_
  repeat (refine wpFree_take (v := ?_) (by rfl) (by rfl) (fun x => ?_) (by exact fun _ _ _ h => h) ?_; rotate_left; (first | (go_simp; done) | (go_simp; with_reducible rfl)); simp only [Act.put, List.setIfInBounds_toArray, List.set_cons_zero, List.set_cons_succ])
  refine wpFree_nil ?_
  repeat (refine wpHeld_take (v := ?_) (by rfl) (by rfl) (fun x hx => ?_) (by exact fun _ _ _ h => h) ?_; rotate_left; (obtain ⟨h1, h2, h3⟩ := hx; (first | (go_simp; done) | (go_simp; with_reducible rfl))); simp only [Act.put, List.setIfInBounds_toArray, List.set_cons_zero, List.set_cons_succ])
  generalize w8.drew = y0 at hst5 hclk5 hQ hS hC hQlt ho1 ⊢
  refine wpHeld_two (by rfl) (by rfl) (by rfl) (by rfl) (fun K hK => ?_) (fun K hK => ?_)
  · go_simp
    have hx1 := new_cell y0 (.slice va nl vc) 23
    have hcn := Chg.alloc SS y0 (.cells #[.slice va nl vc] 23)
    have hcf := Chg.alloc (fun _ => False) y0 (.cells #[.slice va nl vc] 23)
    replace hS := hS.chg hcn hSp hSE
    replace ho1 := ownsRow_chg ho1 hcf (fun _ _ h => h)
    replace hC := hC.trans hcn
    generalize hXe : y0.heap.size = X1 at hx1 ⊢
    clear hXe
    generalize y0.alloc (.cells #[.slice va nl vc] 23) = y1 at hcn hcf hx1 hS hC ho1 ⊢
    refine hK _ _ hS ?_
    clear hK K hcn hcf
    try simp only [Act.put, List.setIfInBounds_toArray, List.set_cons_zero, List.set_cons_succ]
    refine wpHeld_two (by rfl) (by rfl) (by rfl) (by rfl) (fun K hK => ?_) (fun K hK => ?_)
    · refine wp_append_at (w := y1) _ _ 26 (by rfl) 23 i23 (.slice none 0 0) 24 Tryd.underlying26 hi23 hy1 hy2 hy3 rfl _ _ _ (by rfl) ho1 X1 1 (.slice va nl vc) (by rfl) hx1 rfl (by omega) (by omega) ?_
      rintro v1' y2 hown1 hg1 hl1 ⟨g1, cp1, rfl⟩
      have hcn : Chg SS y1 y2 := Chg.grown hg1 (fun k hk => by rw [HSS.out]; exact hk)
      replace hl1 := lies_mono hl1 hC.size
      replace hC := hC.trans hcn
      replace hS := hS.chg hcn hSp hSE
      refine hK _ _ hS ?_
      clear hK K hcn hg1 ho1 hx1
      try simp only [Act.put, List.setIfInBounds_toArray, List.set_cons_zero, List.set_cons_succ]
      refine wpHeld_do (by rfl) (by rfl) (fun K hK => ?_)
      go_simp
      have hx3 := new_cell y2 (.int .i64 g) 3
      have hcn := Chg.alloc SS y2 (.cells #[.int .i64 g] 3)
      have hcf := Chg.alloc (fun _ => False) y2 (.cells #[.int .i64 g] 3)
      replace hS := hS.chg hcn hSp hSE
      replace hown1 := ownsRow_chg hown1 hcf (fun _ _ h => h)
      have hsz0 : y0.heap.size ≤ y2.heap.size := hC.size
      replace hC := hC.trans hcn
      generalize hXe : y2.heap.size = X3 at hx3 ⊢
      have hX3l : y0.heap.size ≤ X3 := by rw [← hXe]; exact hsz0
      clear hsz0
      clear hXe
      generalize y2.alloc (.cells #[.int .i64 g] 3) = y3 at hcn hcf hx3 hS hC hown1 ⊢
      refine hK _ _ hS ?_
      clear hK K hcn hcf
      try simp only [Act.put, List.setIfInBounds_toArray, List.set_cons_zero, List.set_cons_succ]
      refine wpHeld_nil ?_
      dsimp only [List.drop]
      have ho3 : y3.ownsRow 0 3 1 (.slice a3 (s.pp obj).frm.length c3) (s.pp obj).frm.length ((s.pp obj).frm.map (Value.int .i64)) := ownsRow_chg hQ.o3 hC (fun b hb e => by rw [HSS.out] at e; have h1 := hQ.r1 b e; rw [hQ.r3 b hb] at h1; cases h1)
      refine wpList_append_at rfl _ _ 23 (by rfl) 3 i0 (.int .i64 0) 8 Tryd.underlying23 hi hz0 hz1 hz2 rfl _ _ _ (by rfl) ho3 X3 1 (.int .i64 g) (by rfl) hx3 rfl (by have := Hsame.out; omega) (by omega) ?_
      rintro v3' y4 hown3 hg3 hl3 ⟨g3, cp3, rfl⟩
      have hc4 : Chg (fun b => (Value.slice a3 (s.pp obj).frm.length c3).ownBlock = some b) y3 y4 := Chg.grown hg3 (fun k hk => hk)
      have hp3 : ¬ (Value.slice a3 (s.pp obj).frm.length c3).ownBlock = some p := fun e => by have h1 := hQ.r3 p e; rw [hQ.role] at h1; cases h1
      have hp40 := hc4.cell hS.1 hp3
      have hp42 := hc4.cell hS.2.1 hp3
      have hpf0 : y4.frozen? ⟨p, 0, none⟩ = false := by
        rw [hc4.frozen (a := ⟨p, 0, none⟩) (Nat.lt_of_lt_of_le hQ.lt hC.size) hp3, hC.frozen (a := ⟨p, 0, none⟩) hQ.lt hSp]
        exact hQ.fz 0
      have hpf2 : y4.frozen? ⟨p, 2, none⟩ = false := by
        rw [hc4.frozen (a := ⟨p, 2, none⟩) (Nat.lt_of_lt_of_le hQ.lt hC.size) hp3, hC.frozen (a := ⟨p, 2, none⟩) hQ.lt hSp]
        exact hQ.fz 2
      have hpf := hQ.push_sent hst5.fresh (hC.mono (fun k hk _ => by rw [HSS.out] at hk; exact hk)) hown1 hl1 hc4 hown3 hl3 hclk5 hg0 hg8
      have hst6 := (hst5.mono (Nat.le_succ _)).set_pipe hpf.2.1 (fun b h => h) hpf.2.2.1 hpf.2.2.2.1 Hf3.out hpf.1
      have hclk6 := hpf.2.2.2.2 _ _ hclk5
      have Hst6 := Lib.hid hst6
      have Hclk6 := Lib.hid hclk6
      clear hst6 hclk6 hpf hst5 hclk5 hQ hC hS hown1 hown3 hl1 hl3 hc4 hg3 ho3 hx3
      go_wp2
      go_ret
      have e : stepL rooms s ⟨g, 5, obj, at_⟩ = { (s.setOwn g (clockL rooms s ⟨g, 5, obj, at_⟩)) with pp := upd s.pp obj ⟨(s.pp obj).sent ++ [clockL rooms s ⟨g, 5, obj, at_⟩], (s.pp obj).got, (s.pp obj).frm ++ [(g : Int)]⟩ } := by
        unfold stepL leavesL
        first | (simp; done) | (simp; rfl)
      exact (St.state Hst6.out e).done (show N + 1 + 1 ≤ N + 3 by omega) Hclk6.out
    · go_simp
      have hx3 := new_cell y1 (.int .i64 g) 3
      have hcn := Chg.alloc SS y1 (.cells #[.int .i64 g] 3)
      have hcf := Chg.alloc (fun _ => False) y1 (.cells #[.int .i64 g] 3)
      replace hS := hS.chg hcn hSp hSE
      replace ho1 := ownsRow_chg ho1 hcf (fun _ _ h => h)
      replace hx1 := hcf.cell hx1 (fun h => h)
      have hsz0 : y0.heap.size ≤ y1.heap.size := hC.size
      replace hC := hC.trans hcn
      generalize hXe : y1.heap.size = X3 at hx3 ⊢
      have hX3l : y0.heap.size ≤ X3 := by rw [← hXe]; exact hsz0
      clear hsz0
      clear hXe
      generalize y1.alloc (.cells #[.int .i64 g] 3) = y2 at hcn hcf hx3 hS hC ho1 hx1 ⊢
      refine hK _ _ hS ?_
      clear hK K hcn hcf
      try simp only [Act.put, List.setIfInBounds_toArray, List.set_cons_zero, List.set_cons_succ]
      refine wpHeld_do (by rfl) (by rfl) (fun K hK => ?_)
      refine wp_append_at (w := y2) _ _ 26 (by rfl) 23 i23 (.slice none 0 0) 24 Tryd.underlying26 hi23 hy1 hy2 hy3 rfl _ _ _ (by rfl) ho1 X1 1 (.slice va nl vc) (by rfl) hx1 rfl (by omega) (by omega) ?_
      rintro v1' y3 hown1 hg1 hl1 ⟨g1, cp1, rfl⟩
      have hcn : Chg SS y2 y3 := Chg.grown hg1 (fun k hk => by rw [HSS.out]; exact hk)
      replace hl1 := lies_mono hl1 hC.size
      replace hC := hC.trans hcn
      replace hS := hS.chg hcn hSp hSE
      replace hx3 := hcn.cell hx3 (fun e => absurd (hQlt X3 e) (by omega))
      refine hK _ _ hS ?_
      clear hK K hcn hg1 ho1 hx1
      try simp only [Act.put, List.setIfInBounds_toArray, List.set_cons_zero, List.set_cons_succ]
      refine wpHeld_nil ?_
      dsimp only [List.drop]
      have ho3 : y3.ownsRow 0 3 1 (.slice a3 (s.pp obj).frm.length c3) (s.pp obj).frm.length ((s.pp obj).frm.map (Value.int .i64)) := ownsRow_chg hQ.o3 hC (fun b hb e => by rw [HSS.out] at e; have h1 := hQ.r1 b e; rw [hQ.r3 b hb] at h1; cases h1)
      refine wpList_append_at rfl _ _ 23 (by rfl) 3 i0 (.int .i64 0) 8 Tryd.underlying23 hi hz0 hz1 hz2 rfl _ _ _ (by rfl) ho3 X3 1 (.int .i64 g) (by rfl) hx3 rfl (by have := Hsame.out; omega) (by omega) ?_
      rintro v3' y4 hown3 hg3 hl3 ⟨g3, cp3, rfl⟩
      have hc4 : Chg (fun b => (Value.slice a3 (s.pp obj).frm.length c3).ownBlock = some b) y3 y4 := Chg.grown hg3 (fun k hk => hk)
      have hp3 : ¬ (Value.slice a3 (s.pp obj).frm.length c3).ownBlock = some p := fun e => by have h1 := hQ.r3 p e; rw [hQ.role] at h1; cases h1
      have hp40 := hc4.cell hS.1 hp3
      have hp42 := hc4.cell hS.2.1 hp3
      have hpf0 : y4.frozen? ⟨p, 0, none⟩ = false := by
        rw [hc4.frozen (a := ⟨p, 0, none⟩) (Nat.lt_of_lt_of_le hQ.lt hC.size) hp3, hC.frozen (a := ⟨p, 0, none⟩) hQ.lt hSp]
        exact hQ.fz 0
      have hpf2 : y4.frozen? ⟨p, 2, none⟩ = false := by
        rw [hc4.frozen (a := ⟨p, 2, none⟩) (Nat.lt_of_lt_of_le hQ.lt hC.size) hp3, hC.frozen (a := ⟨p, 2, none⟩) hQ.lt hSp]
        exact hQ.fz 2
      have hpf := hQ.push_sent hst5.fresh (hC.mono (fun k hk _ => by rw [HSS.out] at hk; exact hk)) hown1 hl1 hc4 hown3 hl3 hclk5 hg0 hg8
      have hst6 := (hst5.mono (Nat.le_succ _)).set_pipe hpf.2.1 (fun b h => h) hpf.2.2.1 hpf.2.2.2.1 Hf3.out hpf.1
      have hclk6 := hpf.2.2.2.2 _ _ hclk5
      have Hst6 := Lib.hid hst6
      have Hclk6 := Lib.hid hclk6
      clear hst6 hclk6 hpf hst5 hclk5 hQ hC hS hown1 hown3 hl1 hl3 hc4 hg3 ho3 hx3
      go_wp2
      go_ret
      have e : stepL rooms s ⟨g, 5, obj, at_⟩ = { (s.setOwn g (clockL rooms s ⟨g, 5, obj, at_⟩)) with pp := upd s.pp obj ⟨(s.pp obj).sent ++ [clockL rooms s ⟨g, 5, obj, at_⟩], (s.pp obj).got, (s.pp obj).frm ++ [(g : Int)]⟩ } := by
        unfold stepL leavesL
        first | (simp; done) | (simp; rfl)
      exact (St.state Hst6.out e).done (show N + 1 + 1 ≤ N + 3 by omega) Hclk6.out
  · go_simp
    have hx3 := new_cell y0 (.int .i64 g) 3
    have hcn := Chg.alloc SS y0 (.cells #[.int .i64 g] 3)
    have hcf := Chg.alloc (fun _ => False) y0 (.cells #[.int .i64 g] 3)
    replace hS := hS.chg hcn hSp hSE
    replace ho1 := ownsRow_chg ho1 hcf (fun _ _ h => h)
    have hsz0 : y0.heap.size ≤ y0.heap.size := hC.size
    replace hC := hC.trans hcn
    generalize hXe : y0.heap.size = X3 at hx3 ⊢
    have hX3l : y0.heap.size ≤ X3 := by rw [← hXe]; exact hsz0
    clear hsz0
    clear hXe
    generalize y0.alloc (.cells #[.int .i64 g] 3) = y1 at hcn hcf hx3 hS hC ho1 ⊢
    refine hK _ _ hS ?_
    clear hK K hcn hcf
    try simp only [Act.put, List.setIfInBounds_toArray, List.set_cons_zero, List.set_cons_succ]
    refine wpHeld_do (by rfl) (by rfl) (fun K hK => ?_)
    go_simp
    have hx1 := new_cell y1 (.slice va nl vc) 23
    have hcn := Chg.alloc SS y1 (.cells #[.slice va nl vc] 23)
    have hcf := Chg.alloc (fun _ => False) y1 (.cells #[.slice va nl vc] 23)
    replace hS := hS.chg hcn hSp hSE
    replace ho1 := ownsRow_chg ho1 hcf (fun _ _ h => h)
    replace hx3 := hcf.cell hx3 (fun h => h)
    replace hC := hC.trans hcn
    generalize hXe : y1.heap.size = X1 at hx1 ⊢
    clear hXe
    generalize y1.alloc (.cells #[.slice va nl vc] 23) = y2 at hcn hcf hx1 hS hC ho1 hx3 ⊢
    refine hK _ _ hS ?_
    clear hK K hcn hcf
    try simp only [Act.put, List.setIfInBounds_toArray, List.set_cons_zero, List.set_cons_succ]
    refine wpHeld_do (by rfl) (by rfl) (fun K hK => ?_)
    refine wp_append_at (w := y2) _ _ 26 (by rfl) 23 i23 (.slice none 0 0) 24 Tryd.underlying26 hi23 hy1 hy2 hy3 rfl _ _ _ (by rfl) ho1 X1 1 (.slice va nl vc) (by rfl) hx1 rfl (by omega) (by omega) ?_
    rintro v1' y3 hown1 hg1 hl1 ⟨g1, cp1, rfl⟩
    have hcn : Chg SS y2 y3 := Chg.grown hg1 (fun k hk => by rw [HSS.out]; exact hk)
    replace hl1 := lies_mono hl1 hC.size
    replace hC := hC.trans hcn
    replace hS := hS.chg hcn hSp hSE
    replace hx3 := hcn.cell hx3 (fun e => absurd (hQlt X3 e) (by omega))
    refine hK _ _ hS ?_
    clear hK K hcn hg1 ho1 hx1
    try simp only [Act.put, List.setIfInBounds_toArray, List.set_cons_zero, List.set_cons_succ]
    refine wpHeld_nil ?_
    dsimp only [List.drop]
    have ho3 : y3.ownsRow 0 3 1 (.slice a3 (s.pp obj).frm.length c3) (s.pp obj).frm.length ((s.pp obj).frm.map (Value.int .i64)) := ownsRow_chg hQ.o3 hC (fun b hb e => by rw [HSS.out] at e; have h1 := hQ.r1 b e; rw [hQ.r3 b hb] at h1; cases h1)
    refine wpList_append_at rfl _ _ 23 (by rfl) 3 i0 (.int .i64 0) 8 Tryd.underlying23 hi hz0 hz1 hz2 rfl _ _ _ (by rfl) ho3 X3 1 (.int .i64 g) (by rfl) hx3 rfl (by have := Hsame.out; omega) (by omega) ?_
    rintro v3' y4 hown3 hg3 hl3 ⟨g3, cp3, rfl⟩
    have hc4 : Chg (fun b => (Value.slice a3 (s.pp obj).frm.length c3).ownBlock = some b) y3 y4 := Chg.grown hg3 (fun k hk => hk)
    have hp3 : ¬ (Value.slice a3 (s.pp obj).frm.length c3).ownBlock = some p := fun e => by have h1 := hQ.r3 p e; rw [hQ.role] at h1; cases h1
    have hp40 := hc4.cell hS.1 hp3
    have hp42 := hc4.cell hS.2.1 hp3
    have hpf0 : y4.frozen? ⟨p, 0, none⟩ = false := by
      rw [hc4.frozen (a := ⟨p, 0, none⟩) (Nat.lt_of_lt_of_le hQ.lt hC.size) hp3, hC.frozen (a := ⟨p, 0, none⟩) hQ.lt hSp]
      exact hQ.fz 0
    have hpf2 : y4.frozen? ⟨p, 2, none⟩ = false := by
      rw [hc4.frozen (a := ⟨p, 2, none⟩) (Nat.lt_of_lt_of_le hQ.lt hC.size) hp3, hC.frozen (a := ⟨p, 2, none⟩) hQ.lt hSp]
      exact hQ.fz 2
    have hpf := hQ.push_sent hst5.fresh (hC.mono (fun k hk _ => by rw [HSS.out] at hk; exact hk)) hown1 hl1 hc4 hown3 hl3 hclk5 hg0 hg8
    have hst6 := (hst5.mono (Nat.le_succ _)).set_pipe hpf.2.1 (fun b h => h) hpf.2.2.1 hpf.2.2.2.1 Hf3.out hpf.1
    have hclk6 := hpf.2.2.2.2 _ _ hclk5
    have Hst6 := Lib.hid hst6
    have Hclk6 := Lib.hid hclk6
    clear hst6 hclk6 hpf hst5 hclk5 hQ hC hS hown1 hown3 hl1 hl3 hc4 hg3 ho3 hx3
    go_wp2
    go_ret
    have e : stepL rooms s ⟨g, 5, obj, at_⟩ = { (s.setOwn g (clockL rooms s ⟨g, 5, obj, at_⟩)) with pp := upd s.pp obj ⟨(s.pp obj).sent ++ [clockL rooms s ⟨g, 5, obj, at_⟩], (s.pp obj).got, (s.pp obj).frm ++ [(g : Int)]⟩ } := by
      unfold stepL leavesL
      first | (simp; done) | (simp; rfl)
    exact (St.state Hst6.out e).done (show N + 1 + 1 ≤ N + 3 by omega) Hclk6.out

set_option maxRecDepth 100000 in
set_option maxHeartbeats 1600000 in
theorem event_k5d {w : World} {W : Nat} {ρ : Nat → Role} {rooms : List Int} {s : WS} {N : Nat} {m : WM} (h : IsW w W ρ rooms s N m) (hN : N ≤ 9000) (g : Nat) (hg : g < 8) (obj at_ : Int) (hwf : (Lit.int .i64 obj).wf = true)
    (r : Nat) (hr : roomL rooms obj = r) (hr9 : r ≤ 9223372036854775807) (hA1 : 0 < r) (hA2 : r ≤ (s.pp obj).sent.length) (hA3 : ¬ (s.pp obj).sent.length - r < (s.pp obj).got.length) (hbd : getL (comesL rooms s ⟨g, 5, obj, at_⟩) g ≤ 9000000) :
    Calls Tryd.prog 42 #[.pointer (some ⟨W, 0, none⟩), .agg #[.int .i64 g, .int .i64 5, .int .i64 obj, .int .i64 at_]] w (EvPost w W ρ rooms s N ⟨g, 5, obj, at_⟩) := by
  have HBD : Hid (getL (s.own g) g ≤ 9000000) := by have h := hbd; rw [show comesL rooms s ⟨g, 5, obj, at_⟩ = s.own g from (comes5_plain hr (by omega))] at h; exact h
  clear hbd
  obtain ⟨i0, hi, hz0, hz1, hz2⟩ := info_parts info_int
  have hco := h.co g hg
  have hlt := h.lt
  have Hst0 := Lib.hid (fun (n : Nat) => St.begin (ev := ⟨g, 5, obj, at_⟩) h 38 129 n #[.slice none 0 0, .slice none 0 0, .slice none 0 0])
  generalize hvo : m.vo g = v0 at hco
  have Hvo := Lib.hid hvo
  clear hvo
  have hg0 : (0 : Int) ≤ (g : Int) := by omega
  have hg8 : (g : Int) < 8 := by omega
  have hg9 : (g : Int) < (g : Int) + 1 := by omega
  go_enter Tryd.func42, Tryd.ntmps42
  go_wp2_with fail
  go_quiet (fail)
  go_wp2_with fail
  refine (pipe_any (Hst0.out nq).isw (by omega) hwf).mono ?_
  rintro e w0 hpp
  obtain ⟨p, ρ2, m', rfl, hf3, hst, hr2, hvr, hvo', hM1, hM2, hM3, hf1, hf2, hcg⟩ := (Hst0.out nq).pipe hpp
  obtain ⟨q, v1, v2, v3, l1, l2, hq, hP⟩ := (hst.isw.pp.2 obj).2 _ hf3
  obtain rfl : p = q := by simpa using hq
  have hc0 := hst.isw.own g (by omega) (by omega)
  rw [hvo', Hvo.out] at hc0
  have hn1 := hP.n1
  have hn2 := hP.n2
  have hp0 := hP.c0
  have hp1 := hP.c1
  have he2 := hst.e2
  have hW0 := hst.isw.c0
  have hrooms := hst.isw.rooms
  have hco1 := hP.o1
  have hco2 := hP.o2
  have hk1 := hP.k1
  have hk2 := hP.k2
  have Hst := Lib.hid hst
  have Hf3 := Lib.hid hf3
  clear hst hf3 hpp hr2 hvr hvo' hM1 hM2 hM3 hf1 hf2 hcg hP hq Hst0 hco
  have HRm : Hid (∀ x, x.cell? ⟨W, 0, none⟩ = some m'.vr → Ints x m'.vr rooms → Calls Tryd.prog 64 #[.pointer (some ⟨W, 0, none⟩), .int .i64 obj] x fun e w' => e = .returned (.int .i64 r) ∧ x = w') := fun x h1 h2 => by
    have h := room_any obj h1 h2
    rw [hr] at h
    exact h
  obtain ⟨a2, k2, rfl⟩ := owns_shape hco2
  obtain ⟨a1, k1', rfl⟩ := owns_shape hco1
  have Hr := Lib.hid hr
  clear hr hk1 hk2 hco1 hco2
  go_wp2_with fail
  refine wp_region_order 9 [] (.take 0 (.take 1 (.take 2 (.take 3 (.take 4 (.take 5 (.take 6 (.take 7 (.one 8 (.done)))))))))) (fun x => x.cell? ⟨p, 0, none⟩ = some (.slice a1 (s.pp obj).sent.length k1') ∧ x.cell? ⟨w.heap.size, 2, none⟩ = some (.int .i64 obj)) (by kernel_rfl) (by kernel_rfl) ⟨hp0, he2⟩ ?_
  refine wpFree_nil ?_
  repeat (refine wpHeld_take (v := ?_) (by rfl) (by rfl) (fun x hx => ?_) (by exact fun _ _ _ h => h) ?_; rotate_left; (obtain ⟨h1, h2⟩ := hx; (first | (go_simp; done) | (go_simp; with_reducible rfl))); simp only [Act.put, List.setIfInBounds_toArray, List.set_cons_zero, List.set_cons_succ])
  refine wpHeld_do (by rfl) (by rfl) (fun K hK => ?_)
  go_simp
  refine (HRm.out w0.drew hW0 hrooms).mono ?_
  rintro e w' ⟨rfl, rfl⟩
  refine hK _ _ ⟨hp0, he2⟩ ?_
  clear hK K
  try simp only [Act.put, List.setIfInBounds_toArray, List.set_cons_zero, List.set_cons_succ]
  refine wpHeld_nil ?_
  dsimp only [List.drop]
  have hst00 := Hst.out.drew
  have hclk00 := hc0.drew
  clear hc0
  have hst0 := hst00
  have hclk0 := hclk00
  have hce0 := hst0.e0
  go_wp2_with (first | (go_at_call 64; refine (HRm.out w0.drew hW0 hrooms).mono ?_; rintro e w' ⟨rfl, rfl⟩) | (at_make; refine wpList_make_full _ rfl _ _ 23 rfl 0 3 i0 (.int .i64 0) 1 Tryd.underlying23 hi hz0 hz1 .i64 .i64 _ _ (g + 1) rfl rfl ?d1 ?d2 ?d3 ?d4 (Nat.zero_le _) ?_))
  (try (case d1 => omega))
  (try (case d2 => omega))
  case d3 => first | omega | (rw [hz2]; omega)
  case d4 => unfold maxLen; omega
  intro w1 hown hgr
  obtain ⟨hst1, hmade⟩ := hst0.made hgr hown (by simp)
  have hclk1 := hclk0.kept (S := fun _ => False) (Chg.grown hgr (fun k hk => by cases hk)) (fun _ h => h.elim)
  have hce := hst1.e0
  have Hst1 := Lib.hid hst1
  have Hclk1 := Lib.hid hclk1
  clear hst1 hst0 hclk0 hclk1 hgr hown hi hce0
  generalize hB : w0.heap.size = B at hmade ⊢
  have HB := Lib.hid hB
  clear hB
  obtain ⟨lc, hlc⟩ : ∃ lc, lc = s.own g := ⟨_, rfl⟩
  have hci := Hclk1.out.1
  have hl8 := Hclk1.out.2.1
  rw [← hlc] at hci hl8
  have hbd' : getL lc g ≤ 9000000 := by rw [hlc]; exact HBD.out
  have hbd0 := getL_nonneg lc g
  have Hlc := Lib.hid hlc
  clear hlc
  have hBg := hmade.cell g (by omega)
  have hBfg := hmade.fz g
  go_wp2_with fail
  refine wp_region_order 8 [] (.take 0 (.take 1 (.take 2 (.take 3 (.take 4 (.take 5 (.one 6 (.take 7 (.done))))))))) (fun x => x.cell? ⟨w.heap.size, 0, none⟩ = some (.int .i64 g)) (by kernel_rfl) (by kernel_rfl) hce ?_
  refine wpFree_nil ?_
  repeat (refine wpHeld_take (v := ?_) (by rfl) (by rfl) (fun x hx => ?_) (by exact fun _ _ _ h => h) ?_; rotate_left; (have h1 := hx; (first | (go_simp; done) | (go_simp; with_reducible rfl))); simp only [Act.put, List.setIfInBounds_toArray, List.set_cons_zero, List.set_cons_succ])
  refine wpHeld_do (by rfl) (by rfl) (fun K hK => ?_)
  go_simp
  refine (get_ints (l := lc) (w := w1.drew) hci _).mono ?_
  rintro e w' ⟨rfl, rfl⟩
  refine hK _ _ hce ?_
  clear hK K
  try simp only [Act.put, List.setIfInBounds_toArray, List.set_cons_zero, List.set_cons_succ]
  repeat (refine wpHeld_take (v := ?_) (by rfl) (by rfl) (fun x hx => ?_) (by exact fun _ _ _ h => h) ?_; rotate_left; (have h1 := hx; (first | (go_simp; done) | (go_simp; with_reducible rfl))); simp only [Act.put, List.setIfInBounds_toArray, List.set_cons_zero, List.set_cons_succ])
  refine wpHeld_nil ?_
  dsimp only [List.drop]
  go_wp2_with fail
  generalize hx : getL lc g + 1 = x
  have Hx := Lib.hid hx
  clear hx
  have hst2 := (Hst1.out.set_new (o := g) (v := .int .i64 x) hmade.ge hmade.ne hmade.role).drew
  have hone := hmade.one hg x
  have hci2 : Ints (w1.setCell ⟨B, g, none⟩ (.int .i64 x)) _ lc := hci.kept (Chg.setCell (S := fun b => b = B) w1 _ rfl) (fun b hb e => by have h1 := Hclk1.out.2.2 b hb; rw [e, hmade.role] at h1; cases h1)
  have Hst2 := Lib.hid hst2
  clear hst2 hBg hBfg hmade hce hbd0 hbd'
  refine (join_any _ _ lc (List.replicate g 0 ++ [x]) (w1.setCell ⟨B, g, none⟩ (.int .i64 x)).drew hci2 hone (by omega) (by simp; omega)).mono ?_
  rintro e w2 ⟨v, rfl, hv1, hv2, hv3⟩
  obtain ⟨va, nl, vc, rfl⟩ := hv1.shape'
  have hl82 : (joinL lc (List.replicate g 0 ++ [x])).length ≤ 8 := by have := joinL_length lc (List.replicate g 0 ++ [x]); simp at this; omega
  obtain ⟨hst3, hclk3, _⟩ := Hst2.out.clk hv3 hv1 hv2 hl82
  have hL : joinL lc (List.replicate g 0 ++ [x]) = clockL rooms s ⟨g, 5, obj, at_⟩ := by
    show _ = tickL _ _
    unfold tickL
    rw [← Hx.out, Hlc.out]
    rw [show comesL rooms s ⟨g, 5, obj, at_⟩ = s.own g from (comes5_plain Hr.out (by omega))]
    rfl
  rw [hL] at hclk3
  have hce := hst3.e0
  have hcw := hst3.isw.co g hg
  have hfw := hst3.isw.fz (1 + g)
  have Hst3 := Lib.hid hst3
  have Hclk3 := Lib.hid hclk3
  clear hst3 hclk3 hv1 hv2 hv3 hone hci2 hci Hst2 hL
  go_wp2_with fail
  refine wp_region_order 6 [] (.take 0 (.take 1 (.take 2 (.take 3 (.take 4 (.take 5 (.done))))))) (fun x => x.cell? ⟨w.heap.size, 0, none⟩ = some (.int .i64 g)) (by kernel_rfl) (by kernel_rfl) hce ?_
  refine wpFree_nil ?_
  repeat (refine wpHeld_take (v := ?_) (by rfl) (by rfl) (fun x hx => ?_) (by exact fun _ _ _ h => h) ?_; rotate_left; (have h1 := hx; (first | (go_simp; done) | (go_simp; with_reducible rfl))); simp only [Act.put, List.setIfInBounds_toArray, List.set_cons_zero, List.set_cons_succ])
  refine wpHeld_nil ?_
  dsimp only [List.drop]
  have hst4 := Hst3.out.put_own hg Hclk3.out
  have hk0 := hst4.e0
  have hk1 := hst4.e1
  have hk2 := hst4.e2
  have hclk4 : Clk (w2.setCell ⟨W, 1 + g, none⟩ (.slice va nl vc)) _ _ _ := Hclk3.out.kept (Chg.setCell (S := fun b => b = W) w2 _ rfl) (fun b e => by rw [e, Hst3.out.isw.rW]; simp)
  have Hst4 := Lib.hid hst4
  have Hclk4 := Lib.hid hclk4
  clear hst4 hclk4 hce
  go_wp2_with fail
  have hst5 := Hst4.out.drew.drew
  have hclk5 := Hclk4.out.drew.drew
  generalize hw8 : (w2.setCell ⟨W, 1 + g, none⟩ (.slice va nl vc)).drew = w8 at hst5 hclk5
  obtain ⟨q, u1, u2, u3, m1, m2, hq, hQ⟩ := (hst5.isw.pp.2 obj).2 _ Hf3.out
  obtain rfl : p = q := by simpa using hq
  replace hQ : IsPipe w8.drew _ obj p (s.pp obj) (N + 1) u1 u2 u3 m1 m2 := hQ
  have hn1 : (s.pp obj).sent.length ≤ N + 1 := hQ.n1
  have Hsame : Hid ((s.pp obj).frm.length = (s.pp obj).sent.length) := hQ.same
  obtain ⟨a1, c1, rfl⟩ := owns_shape hQ.o1
  obtain ⟨a3, c3, rfl⟩ := owns_shape hQ.o3
  have hS : Sx p w.heap.size _ _ g w8.drew := ⟨hQ.c0, hQ.c2, hst5.e0⟩
  obtain ⟨SS, hSS⟩ : ∃ SS : Nat → Prop, SS = fun b => (Value.slice a1 (s.pp obj).sent.length c1).ownBlock = some b := ⟨_, rfl⟩
  have hQlt : ∀ b, SS b → b < w8.drew.heap.size := fun b e => (hQ.o1.lt b (by rw [hSS] at e; exact e)).2
  have hSp : ¬ SS p := fun e => by rw [hSS] at e; have := hQ.r1 p e; rw [hQ.role] at this; cases this
  have hSE : ¬ SS w.heap.size := fun e => by rw [hSS] at e; have := hQ.r1 _ e; rw [hst5.er] at this; cases this
  have hC : Chg SS w8.drew w8.drew := Chg.refl _ _
  have HSS := Lib.hid hSS
  have ho1 := hQ.o1
  obtain ⟨i0, hi, hz0, hz1, hz2⟩ := info_parts info_int
  obtain ⟨i23, hi23, hy1, hy2, hy3⟩ := info_parts info_ints
  clear hSS hk0 hk1 hk2
  refine wp_region_order 16 [0, 1] (.take 2 (.take 3 (.take 4 (.take 5 (.take 6 (.take 9 (.take 10 (.take 11 (.take 12 (.take 13 (.take 14 (.two 7 15 (.two 8 15 (.one 15 (.done)) (.one 8 (.done))) (.one 7 (.one 8 (.done))))))))))))))) (fun x => Sx p w.heap.size (.slice a1 (s.pp obj).sent.length c1) (.slice a3 (s.pp obj).frm.length c3) g x) (by kernel_rfl) (by kernel_rfl) hS ?_
  repeat (refine wpFree_take (v := ?_) (by rfl) (by rfl) (fun x => ?_) (by exact fun _ _ _ h => h) ?_; rotate_left; (first | (go_simp; done) | (go_simp; with_reducible rfl)); simp only [Act.put, List.setIfInBounds_toArray, List.set_cons_zero, List.set_cons_succ])
  refine wpFree_nil ?_
  repeat (refine wpHeld_take (v := ?_) (by rfl) (by rfl) (fun x hx => ?_) (by exact fun _ _ _ h => h) ?_; rotate_left; (obtain ⟨h1, h2, h3⟩ := hx; (first | (go_simp; done) | (go_simp; with_reducible rfl))); simp only [Act.put, List.setIfInBounds_toArray, List.set_cons_zero, List.set_cons_succ])
  generalize w8.drew = y0 at hst5 hclk5 hQ hS hC hQlt ho1 ⊢
  refine wpHeld_two (by rfl) (by rfl) (by rfl) (by rfl) (fun K hK => ?_) (fun K hK => ?_)
  · go_simp
    have hx1 := new_cell y0 (.slice va nl vc) 23
    have hcn := Chg.alloc SS y0 (.cells #[.slice va nl vc] 23)
    have hcf := Chg.alloc (fun _ => False) y0 (.cells #[.slice va nl vc] 23)
    replace hS := hS.chg hcn hSp hSE
    replace ho1 := ownsRow_chg ho1 hcf (fun _ _ h => h)
    replace hC := hC.trans hcn
    generalize hXe : y0.heap.size = X1 at hx1 ⊢
    clear hXe
    generalize y0.alloc (.cells #[.slice va nl vc] 23) = y1 at hcn hcf hx1 hS hC ho1 ⊢
    refine hK _ _ hS ?_
    clear hK K hcn hcf
    try simp only [Act.put, List.setIfInBounds_toArray, List.set_cons_zero, List.set_cons_succ]
    refine wpHeld_two (by rfl) (by rfl) (by rfl) (by rfl) (fun K hK => ?_) (fun K hK => ?_)
    · refine wp_append_at (w := y1) _ _ 26 (by rfl) 23 i23 (.slice none 0 0) 24 Tryd.underlying26 hi23 hy1 hy2 hy3 rfl _ _ _ (by rfl) ho1 X1 1 (.slice va nl vc) (by rfl) hx1 rfl (by omega) (by omega) ?_
      rintro v1' y2 hown1 hg1 hl1 ⟨g1, cp1, rfl⟩
      have hcn : Chg SS y1 y2 := Chg.grown hg1 (fun k hk => by rw [HSS.out]; exact hk)
      replace hl1 := lies_mono hl1 hC.size
      replace hC := hC.trans hcn
      replace hS := hS.chg hcn hSp hSE
      refine hK _ _ hS ?_
      clear hK K hcn hg1 ho1 hx1
      try simp only [Act.put, List.setIfInBounds_toArray, List.set_cons_zero, List.set_cons_succ]
      refine wpHeld_do (by rfl) (by rfl) (fun K hK => ?_)
      go_simp
      have hx3 := new_cell y2 (.int .i64 g) 3
      have hcn := Chg.alloc SS y2 (.cells #[.int .i64 g] 3)
      have hcf := Chg.alloc (fun _ => False) y2 (.cells #[.int .i64 g] 3)
      replace hS := hS.chg hcn hSp hSE
      replace hown1 := ownsRow_chg hown1 hcf (fun _ _ h => h)
      have hsz0 : y0.heap.size ≤ y2.heap.size := hC.size
      replace hC := hC.trans hcn
      generalize hXe : y2.heap.size = X3 at hx3 ⊢
      have hX3l : y0.heap.size ≤ X3 := by rw [← hXe]; exact hsz0
      clear hsz0
      clear hXe
      generalize y2.alloc (.cells #[.int .i64 g] 3) = y3 at hcn hcf hx3 hS hC hown1 ⊢
      refine hK _ _ hS ?_
      clear hK K hcn hcf
      try simp only [Act.put, List.setIfInBounds_toArray, List.set_cons_zero, List.set_cons_succ]
      refine wpHeld_nil ?_
      dsimp only [List.drop]
      have ho3 : y3.ownsRow 0 3 1 (.slice a3 (s.pp obj).frm.length c3) (s.pp obj).frm.length ((s.pp obj).frm.map (Value.int .i64)) := ownsRow_chg hQ.o3 hC (fun b hb e => by rw [HSS.out] at e; have h1 := hQ.r1 b e; rw [hQ.r3 b hb] at h1; cases h1)
      refine wpList_append_at rfl _ _ 23 (by rfl) 3 i0 (.int .i64 0) 8 Tryd.underlying23 hi hz0 hz1 hz2 rfl _ _ _ (by rfl) ho3 X3 1 (.int .i64 g) (by rfl) hx3 rfl (by have := Hsame.out; omega) (by omega) ?_
      rintro v3' y4 hown3 hg3 hl3 ⟨g3, cp3, rfl⟩
      have hc4 : Chg (fun b => (Value.slice a3 (s.pp obj).frm.length c3).ownBlock = some b) y3 y4 := Chg.grown hg3 (fun k hk => hk)
      have hp3 : ¬ (Value.slice a3 (s.pp obj).frm.length c3).ownBlock = some p := fun e => by have h1 := hQ.r3 p e; rw [hQ.role] at h1; cases h1
      have hp40 := hc4.cell hS.1 hp3
      have hp42 := hc4.cell hS.2.1 hp3
      have hpf0 : y4.frozen? ⟨p, 0, none⟩ = false := by
        rw [hc4.frozen (a := ⟨p, 0, none⟩) (Nat.lt_of_lt_of_le hQ.lt hC.size) hp3, hC.frozen (a := ⟨p, 0, none⟩) hQ.lt hSp]
        exact hQ.fz 0
      have hpf2 : y4.frozen? ⟨p, 2, none⟩ = false := by
        rw [hc4.frozen (a := ⟨p, 2, none⟩) (Nat.lt_of_lt_of_le hQ.lt hC.size) hp3, hC.frozen (a := ⟨p, 2, none⟩) hQ.lt hSp]
        exact hQ.fz 2
      have hpf := hQ.push_sent hst5.fresh (hC.mono (fun k hk _ => by rw [HSS.out] at hk; exact hk)) hown1 hl1 hc4 hown3 hl3 hclk5 hg0 hg8
      have hst6 := (hst5.mono (Nat.le_succ _)).set_pipe hpf.2.1 (fun b h => h) hpf.2.2.1 hpf.2.2.2.1 Hf3.out hpf.1
      have hclk6 := hpf.2.2.2.2 _ _ hclk5
      have Hst6 := Lib.hid hst6
      have Hclk6 := Lib.hid hclk6
      clear hst6 hclk6 hpf hst5 hclk5 hQ hC hS hown1 hown3 hl1 hl3 hc4 hg3 ho3 hx3
      go_wp2
      go_ret
      have e : stepL rooms s ⟨g, 5, obj, at_⟩ = { (s.setOwn g (clockL rooms s ⟨g, 5, obj, at_⟩)) with pp := upd s.pp obj ⟨(s.pp obj).sent ++ [clockL rooms s ⟨g, 5, obj, at_⟩], (s.pp obj).got, (s.pp obj).frm ++ [(g : Int)]⟩ } := by
        unfold stepL leavesL
        first | (simp; done) | (simp; rfl)
      exact (St.state Hst6.out e).done (show N + 1 + 1 ≤ N + 3 by omega) Hclk6.out
    · go_simp
      have hx3 := new_cell y1 (.int .i64 g) 3
      have hcn := Chg.alloc SS y1 (.cells #[.int .i64 g] 3)
      have hcf := Chg.alloc (fun _ => False) y1 (.cells #[.int .i64 g] 3)
      replace hS := hS.chg hcn hSp hSE
      replace ho1 := ownsRow_chg ho1 hcf (fun _ _ h => h)
      replace hx1 := hcf.cell hx1 (fun h => h)
      have hsz0 : y0.heap.size ≤ y1.heap.size := hC.size
      replace hC := hC.trans hcn
      generalize hXe : y1.heap.size = X3 at hx3 ⊢
      have hX3l : y0.heap.size ≤ X3 := by rw [← hXe]; exact hsz0
      clear hsz0
      clear hXe
      generalize y1.alloc (.cells #[.int .i64 g] 3) = y2 at hcn hcf hx3 hS hC ho1 hx1 ⊢
      refine hK _ _ hS ?_
      clear hK K hcn hcf
      try simp only [Act.put, List.setIfInBounds_toArray, List.set_cons_zero, List.set_cons_succ]
      refine wpHeld_do (by rfl) (by rfl) (fun K hK => ?_)
      refine wp_append_at (w := y2) _ _ 26 (by rfl) 23 i23 (.slice none 0 0) 24 Tryd.underlying26 hi23 hy1 hy2 hy3 rfl _ _ _ (by rfl) ho1 X1 1 (.slice va nl vc) (by rfl) hx1 rfl (by omega) (by omega) ?_
      rintro v1' y3 hown1 hg1 hl1 ⟨g1, cp1, rfl⟩
      have hcn : Chg SS y2 y3 := Chg.grown hg1 (fun k hk => by rw [HSS.out]; exact hk)
      replace hl1 := lies_mono hl1 hC.size
      replace hC := hC.trans hcn
      replace hS := hS.chg hcn hSp hSE
      replace hx3 := hcn.cell hx3 (fun e => absurd (hQlt X3 e) (by omega))
      refine hK _ _ hS ?_
      clear hK K hcn hg1 ho1 hx1
      try simp only [Act.put, List.setIfInBounds_toArray, List.set_cons_zero, List.set_cons_succ]
      refine wpHeld_nil ?_
      dsimp only [List.drop]
      have ho3 : y3.ownsRow 0 3 1 (.slice a3 (s.pp obj).frm.length c3) (s.pp obj).frm.length ((s.pp obj).frm.map (Value.int .i64)) := ownsRow_chg hQ.o3 hC (fun b hb e => by rw [HSS.out] at e; have h1 := hQ.r1 b e; rw [hQ.r3 b hb] at h1; cases h1)
      refine wpList_append_at rfl _ _ 23 (by rfl) 3 i0 (.int .i64 0) 8 Tryd.underlying23 hi hz0 hz1 hz2 rfl _ _ _ (by rfl) ho3 X3 1 (.int .i64 g) (by rfl) hx3 rfl (by have := Hsame.out; omega) (by omega) ?_
      rintro v3' y4 hown3 hg3 hl3 ⟨g3, cp3, rfl⟩
      have hc4 : Chg (fun b => (Value.slice a3 (s.pp obj).frm.length c3).ownBlock = some b) y3 y4 := Chg.grown hg3 (fun k hk => hk)
      have hp3 : ¬ (Value.slice a3 (s.pp obj).frm.length c3).ownBlock = some p := fun e => by have h1 := hQ.r3 p e; rw [hQ.role] at h1; cases h1
      have hp40 := hc4.cell hS.1 hp3
      have hp42 := hc4.cell hS.2.1 hp3
      have hpf0 : y4.frozen? ⟨p, 0, none⟩ = false := by
        rw [hc4.frozen (a := ⟨p, 0, none⟩) (Nat.lt_of_lt_of_le hQ.lt hC.size) hp3, hC.frozen (a := ⟨p, 0, none⟩) hQ.lt hSp]
        exact hQ.fz 0
      have hpf2 : y4.frozen? ⟨p, 2, none⟩ = false := by
        rw [hc4.frozen (a := ⟨p, 2, none⟩) (Nat.lt_of_lt_of_le hQ.lt hC.size) hp3, hC.frozen (a := ⟨p, 2, none⟩) hQ.lt hSp]
        exact hQ.fz 2
      have hpf := hQ.push_sent hst5.fresh (hC.mono (fun k hk _ => by rw [HSS.out] at hk; exact hk)) hown1 hl1 hc4 hown3 hl3 hclk5 hg0 hg8
      have hst6 := (hst5.mono (Nat.le_succ _)).set_pipe hpf.2.1 (fun b h => h) hpf.2.2.1 hpf.2.2.2.1 Hf3.out hpf.1
      have hclk6 := hpf.2.2.2.2 _ _ hclk5
      have Hst6 := Lib.hid hst6
      have Hclk6 := Lib.hid hclk6
      clear hst6 hclk6 hpf hst5 hclk5 hQ hC hS hown1 hown3 hl1 hl3 hc4 hg3 ho3 hx3
      go_wp2
      go_ret
      have e : stepL rooms s ⟨g, 5, obj, at_⟩ = { (s.setOwn g (clockL rooms s ⟨g, 5, obj, at_⟩)) with pp := upd s.pp obj ⟨(s.pp obj).sent ++ [clockL rooms s ⟨g, 5, obj, at_⟩], (s.pp obj).got, (s.pp obj).frm ++ [(g : Int)]⟩ } := by
        unfold stepL leavesL
        first | (simp; done) | (simp; rfl)
      exact (St.state Hst6.out e).done (show N + 1 + 1 ≤ N + 3 by omega) Hclk6.out
  · go_simp
    have hx3 := new_cell y0 (.int .i64 g) 3
    have hcn := Chg.alloc SS y0 (.cells #[.int .i64 g] 3)
    have hcf := Chg.alloc (fun _ => False) y0 (.cells #[.int .i64 g] 3)
    replace hS := hS.chg hcn hSp hSE
    replace ho1 := ownsRow_chg ho1 hcf (fun _ _ h => h)
    have hsz0 : y0.heap.size ≤ y0.heap.size := hC.size
    replace hC := hC.trans hcn
    generalize hXe : y0.heap.size = X3 at hx3 ⊢
    have hX3l : y0.heap.size ≤ X3 := by rw [← hXe]; exact hsz0
    clear hsz0
    clear hXe
    generalize y0.alloc (.cells #[.int .i64 g] 3) = y1 at hcn hcf hx3 hS hC ho1 ⊢
    refine hK _ _ hS ?_
    clear hK K hcn hcf
    try simp only [Act.put, List.setIfInBounds_toArray, List.set_cons_zero, List.set_cons_succ]
    refine wpHeld_do (by rfl) (by rfl) (fun K hK => ?_)
    go_simp
    have hx1 := new_cell y1 (.slice va nl vc) 23
    have hcn := Chg.alloc SS y1 (.cells #[.slice va nl vc] 23)
    have hcf := Chg.alloc (fun _ => False) y1 (.cells #[.slice va nl vc] 23)
    replace hS := hS.chg hcn hSp hSE
    replace ho1 := ownsRow_chg ho1 hcf (fun _ _ h => h)
    replace hx3 := hcf.cell hx3 (fun h => h)
    replace hC := hC.trans hcn
    generalize hXe : y1.heap.size = X1 at hx1 ⊢
    clear hXe
    generalize y1.alloc (.cells #[.slice va nl vc] 23) = y2 at hcn hcf hx1 hS hC ho1 hx3 ⊢
    refine hK _ _ hS ?_
    clear hK K hcn hcf
    try simp only [Act.put, List.setIfInBounds_toArray, List.set_cons_zero, List.set_cons_succ]
    refine wpHeld_do (by rfl) (by rfl) (fun K hK => ?_)
    refine wp_append_at (w := y2) _ _ 26 (by rfl) 23 i23 (.slice none 0 0) 24 Tryd.underlying26 hi23 hy1 hy2 hy3 rfl _ _ _ (by rfl) ho1 X1 1 (.slice va nl vc) (by rfl) hx1 rfl (by omega) (by omega) ?_
    rintro v1' y3 hown1 hg1 hl1 ⟨g1, cp1, rfl⟩
    have hcn : Chg SS y2 y3 := Chg.grown hg1 (fun k hk => by rw [HSS.out]; exact hk)
    replace hl1 := lies_mono hl1 hC.size
    replace hC := hC.trans hcn
    replace hS := hS.chg hcn hSp hSE
    replace hx3 := hcn.cell hx3 (fun e => absurd (hQlt X3 e) (by omega))
    refine hK _ _ hS ?_
    clear hK K hcn hg1 ho1 hx1
    try simp only [Act.put, List.setIfInBounds_toArray, List.set_cons_zero, List.set_cons_succ]
    refine wpHeld_nil ?_
    dsimp only [List.drop]
    have ho3 : y3.ownsRow 0 3 1 (.slice a3 (s.pp obj).frm.length c3) (s.pp obj).frm.length ((s.pp obj).frm.map (Value.int .i64)) := ownsRow_chg hQ.o3 hC (fun b hb e => by rw [HSS.out] at e; have h1 := hQ.r1 b e; rw [hQ.r3 b hb] at h1; cases h1)
    refine wpList_append_at rfl _ _ 23 (by rfl) 3 i0 (.int .i64 0) 8 Tryd.underlying23 hi hz0 hz1 hz2 rfl _ _ _ (by rfl) ho3 X3 1 (.int .i64 g) (by rfl) hx3 rfl (by have := Hsame.out; omega) (by omega) ?_
    rintro v3' y4 hown3 hg3 hl3 ⟨g3, cp3, rfl⟩
    have hc4 : Chg (fun b => (Value.slice a3 (s.pp obj).frm.length c3).ownBlock = some b) y3 y4 := Chg.grown hg3 (fun k hk => hk)
    have hp3 : ¬ (Value.slice a3 (s.pp obj).frm.length c3).ownBlock = some p := fun e => by have h1 := hQ.r3 p e; rw [hQ.role] at h1; cases h1
    have hp40 := hc4.cell hS.1 hp3
    have hp42 := hc4.cell hS.2.1 hp3
    have hpf0 : y4.frozen? ⟨p, 0, none⟩ = false := by
      rw [hc4.frozen (a := ⟨p, 0, none⟩) (Nat.lt_of_lt_of_le hQ.lt hC.size) hp3, hC.frozen (a := ⟨p, 0, none⟩) hQ.lt hSp]
      exact hQ.fz 0
    have hpf2 : y4.frozen? ⟨p, 2, none⟩ = false := by
      rw [hc4.frozen (a := ⟨p, 2, none⟩) (Nat.lt_of_lt_of_le hQ.lt hC.size) hp3, hC.frozen (a := ⟨p, 2, none⟩) hQ.lt hSp]
      exact hQ.fz 2
    have hpf := hQ.push_sent hst5.fresh (hC.mono (fun k hk _ => by rw [HSS.out] at hk; exact hk)) hown1 hl1 hc4 hown3 hl3 hclk5 hg0 hg8
    have hst6 := (hst5.mono (Nat.le_succ _)).set_pipe hpf.2.1 (fun b h => h) hpf.2.2.1 hpf.2.2.2.1 Hf3.out hpf.1
    have hclk6 := hpf.2.2.2.2 _ _ hclk5
    have Hst6 := Lib.hid hst6
    have Hclk6 := Lib.hid hclk6
    clear hst6 hclk6 hpf hst5 hclk5 hQ hC hS hown1 hown3 hl1 hl3 hc4 hg3 ho3 hx3
    go_wp2
    go_ret
    have e : stepL rooms s ⟨g, 5, obj, at_⟩ = { (s.setOwn g (clockL rooms s ⟨g, 5, obj, at_⟩)) with pp := upd s.pp obj ⟨(s.pp obj).sent ++ [clockL rooms s ⟨g, 5, obj, at_⟩], (s.pp obj).got, (s.pp obj).frm ++ [(g : Int)]⟩ } := by
      unfold stepL leavesL
      first | (simp; done) | (simp; rfl)
    exact (St.state Hst6.out e).done (show N + 1 + 1 ≤ N + 3 by omega) Hclk6.out
end Go.Proofs.YtkjbpkggcddnhaaDoor
