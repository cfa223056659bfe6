/- The walk of (*watcher).event: kinds k6b,k6c,k6d. -/
import Derived.Test.YtkjbpkggcddnhaaDoorEvHead
namespace Go.Proofs.YtkjbpkggcddnhaaDoor
set_option linter.unusedVariables false
set_option linter.unusedSimpArgs false
open Go.RowKit

set_option maxRecDepth 100000 in
set_option maxHeartbeats 1600000 in
theorem event_k6b {w : World} {W : Nat} {ρ : Nat → Role} {rooms : List Int} {s : WS} {N : Nat} {m : WM} (h : IsW w W ρ rooms s N m) (hN : N ≤ 9000) (g : Nat) (hg : g < 8) (obj at_ : Int) (hwf : (Lit.int .i64 obj).wf = true)
    (r : Nat) (hr : roomL rooms obj = r) (hr9 : r ≤ 9223372036854775807) (hA1 : (s.pp obj).got.length < (s.pp obj).sent.length) (hA2 : ¬ r = 0) (hbd : getL (comesL rooms s ⟨g, 6, obj, at_⟩) g ≤ 9000000) :
    Calls Tryd.prog 42 #[.pointer (some ⟨W, 0, none⟩), .agg #[.int .i64 g, .int .i64 6, .int .i64 obj, .int .i64 at_]] w (EvPost w W ρ rooms s N ⟨g, 6, obj, at_⟩) := by
  have HBD : Hid (getL (joinL (s.own g) ((s.pp obj).sent.getD (s.pp obj).got.length [])) g ≤ 9000000) := by have h := hbd; rw [show comesL rooms s ⟨g, 6, obj, at_⟩ = joinL (s.own g) ((s.pp obj).sent.getD (s.pp obj).got.length []) from (comes6_join hA1)] at h; exact h
  clear hbd
  obtain ⟨i0, hi, hz0, hz1, hz2⟩ := info_parts info_int
  have hco := h.co g hg
  have hlt := h.lt
  have Hst0 := Lib.hid (fun (n : Nat) => St.begin (ev := ⟨g, 6, obj, at_⟩) h 38 129 n #[.slice none 0 0, .slice none 0 0, .slice none 0 0])
  generalize hvo : m.vo g = v0 at hco
  have Hvo := Lib.hid hvo
  clear hvo
  have hg0 : (0 : Int) ≤ (g : Int) := by omega
  have hg8 : (g : Int) < 8 := by omega
  have hg9 : (g : Int) < (g : Int) + 1 := by omega
  go_enter Tryd.func42, Tryd.ntmps42
  go_wp2_with fail
  go_quiet (fail)
  go_wp2_with fail
  refine (pipe_any (Hst0.out nq).isw (by omega) hwf).mono ?_
  rintro e w0 hpp
  obtain ⟨p, ρ2, m', rfl, hf3, hst, hr2, hvr, hvo', hM1, hM2, hM3, hf1, hf2, hcg⟩ := (Hst0.out nq).pipe hpp
  obtain ⟨q, v1, v2, v3, l1, l2, hq, hP⟩ := (hst.isw.pp.2 obj).2 _ hf3
  obtain rfl : p = q := by simpa using hq
  have hc0 := hst.isw.own g (by omega) (by omega)
  rw [hvo', Hvo.out] at hc0
  have hn1 := hP.n1
  have hn2 := hP.n2
  have hp0 := hP.c0
  have hp1 := hP.c1
  have he2 := hst.e2
  have hW0 := hst.isw.c0
  have hrooms := hst.isw.rooms
  have hco1 := hP.o1
  have hco2 := hP.o2
  have hk1 := hP.k1
  have hk2 := hP.k2
  have Hst := Lib.hid hst
  have Hf3 := Lib.hid hf3
  clear hst hf3 hpp hr2 hvr hvo' hM1 hM2 hM3 hf1 hf2 hcg hP hq Hst0 hco
  obtain ⟨b1, k1', rfl, hsent⟩ := owns_at hco1 hA1
  have hkk := hk1.2 _ hA1
  generalize l1.getD (s.pp obj).got.length undef = vk at hsent hkk
  obtain ⟨a2, k2', rfl⟩ := owns_shape hco2
  have Hr := Lib.hid hr
  clear hr hk1 hk2 hco1 hco2
  go_wp2_with fail
  refine (join_any v0 vk (s.own g) ((s.pp obj).sent.getD (s.pp obj).got.length []) w0 hc0.1 hkk.1 (by have := hc0.2.1; omega) (by have := hkk.2.1; omega)).mono ?_
  rintro e w01 ⟨v, rfl, hv1, hv2, hv3⟩
  obtain ⟨va', nl', vc', rfl⟩ := hv1.shape'
  have hl81 : (joinL (s.own g) ((s.pp obj).sent.getD (s.pp obj).got.length [])).length ≤ 8 := by have h1 := joinL_length (s.own g) ((s.pp obj).sent.getD (s.pp obj).got.length []); have h2 := hc0.2.1; have h3 := hkk.2.1; omega
  obtain ⟨hst00, hclk00, _⟩ := Hst.out.clk hv3 hv1 hv2 hl81
  clear hv1 hv2 hv3 hkk hsent hc0 hp0 hp1 he2 hW0 hrooms
  have hst0 := hst00
  have hclk0 := hclk00
  have hce0 := hst0.e0
  go_wp2_with (first | (at_make; refine wpList_make_full _ rfl _ _ 23 rfl 0 3 i0 (.int .i64 0) 1 Tryd.underlying23 hi hz0 hz1 .i64 .i64 _ _ (g + 1) rfl rfl ?d1 ?d2 ?d3 ?d4 (Nat.zero_le _) ?_))
  (try (case d1 => omega))
  (try (case d2 => omega))
  case d3 => first | omega | (rw [hz2]; omega)
  case d4 => unfold maxLen; omega
  intro w1 hown hgr
  obtain ⟨hst1, hmade⟩ := hst0.made hgr hown (by simp)
  have hclk1 := hclk0.kept (S := fun _ => False) (Chg.grown hgr (fun k hk => by cases hk)) (fun _ h => h.elim)
  have hce := hst1.e0
  have Hst1 := Lib.hid hst1
  have Hclk1 := Lib.hid hclk1
  clear hst1 hst0 hclk0 hclk1 hgr hown hi hce0
  generalize hB : w01.heap.size = B at hmade ⊢
  have HB := Lib.hid hB
  clear hB
  obtain ⟨lc, hlc⟩ : ∃ lc, lc = joinL (s.own g) ((s.pp obj).sent.getD (s.pp obj).got.length []) := ⟨_, rfl⟩
  have hci := Hclk1.out.1
  have hl8 := Hclk1.out.2.1
  rw [← hlc] at hci hl8
  have hbd' : getL lc g ≤ 9000000 := by rw [hlc]; exact HBD.out
  have hbd0 := getL_nonneg lc g
  have Hlc := Lib.hid hlc
  clear hlc
  have hBg := hmade.cell g (by omega)
  have hBfg := hmade.fz g
  go_wp2_with fail
  refine wp_region_order 8 [] (.take 0 (.take 1 (.take 2 (.take 3 (.take 4 (.take 5 (.one 6 (.take 7 (.done))))))))) (fun x => x.cell? ⟨w.heap.size, 0, none⟩ = some (.int .i64 g)) (by kernel_rfl) (by kernel_rfl) hce ?_
  refine wpFree_nil ?_
  repeat (refine wpHeld_take (v := ?_) (by rfl) (by rfl) (fun x hx => ?_) (by exact fun _ _ _ h => h) ?_; rotate_left; (have h1 := hx; (first | (go_simp; done) | (go_simp; with_reducible rfl))); simp only [Act.put, List.setIfInBounds_toArray, List.set_cons_zero, List.set_cons_succ])
  refine wpHeld_do (by rfl) (by rfl) (fun K hK => ?_)
  go_simp
  refine (get_ints (l := lc) (w := w1.drew) hci _).mono ?_
  rintro e w' ⟨rfl, rfl⟩
  refine hK _ _ hce ?_
  clear hK K
  try simp only [Act.put, List.setIfInBounds_toArray, List.set_cons_zero, List.set_cons_succ]
  repeat (refine wpHeld_take (v := ?_) (by rfl) (by rfl) (fun x hx => ?_) (by exact fun _ _ _ h => h) ?_; rotate_left; (have h1 := hx; (first | (go_simp; done) | (go_simp; with_reducible rfl))); simp only [Act.put, List.setIfInBounds_toArray, List.set_cons_zero, List.set_cons_succ])
  refine wpHeld_nil ?_
  dsimp only [List.drop]
  go_wp2_with fail
  generalize hx : getL lc g + 1 = x
  have Hx := Lib.hid hx
  clear hx
  have hst2 := (Hst1.out.set_new (o := g) (v := .int .i64 x) hmade.ge hmade.ne hmade.role).drew
  have hone := hmade.one hg x
  have hci2 : Ints (w1.setCell ⟨B, g, none⟩ (.int .i64 x)) _ lc := hci.kept (Chg.setCell (S := fun b => b = B) w1 _ rfl) (fun b hb e => by have h1 := Hclk1.out.2.2 b hb; rw [e, hmade.role] at h1; cases h1)
  have Hst2 := Lib.hid hst2
  clear hst2 hBg hBfg hmade hce hbd0 hbd'
  refine (join_any _ _ lc (List.replicate g 0 ++ [x]) (w1.setCell ⟨B, g, none⟩ (.int .i64 x)).drew hci2 hone (by omega) (by simp; omega)).mono ?_
  rintro e w2 ⟨v, rfl, hv1, hv2, hv3⟩
  obtain ⟨va, nl, vc, rfl⟩ := hv1.shape'
  have hl82 : (joinL lc (List.replicate g 0 ++ [x])).length ≤ 8 := by have := joinL_length lc (List.replicate g 0 ++ [x]); simp at this; omega
  obtain ⟨hst3, hclk3, _⟩ := Hst2.out.clk hv3 hv1 hv2 hl82
  have hL : joinL lc (List.replicate g 0 ++ [x]) = clockL rooms s ⟨g, 6, obj, at_⟩ := by
    show _ = tickL _ _
    unfold tickL
    rw [← Hx.out, Hlc.out]
    rw [show comesL rooms s ⟨g, 6, obj, at_⟩ = joinL (s.own g) ((s.pp obj).sent.getD (s.pp obj).got.length []) from (comes6_join hA1)]
    rfl
  rw [hL] at hclk3
  have hce := hst3.e0
  have hcw := hst3.isw.co g hg
  have hfw := hst3.isw.fz (1 + g)
  have Hst3 := Lib.hid hst3
  have Hclk3 := Lib.hid hclk3
  clear hst3 hclk3 hv1 hv2 hv3 hone hci2 hci Hst2 hL
  go_wp2_with fail
  refine wp_region_order 6 [] (.take 0 (.take 1 (.take 2 (.take 3 (.take 4 (.take 5 (.done))))))) (fun x => x.cell? ⟨w.heap.size, 0, none⟩ = some (.int .i64 g)) (by kernel_rfl) (by kernel_rfl) hce ?_
  refine wpFree_nil ?_
  repeat (refine wpHeld_take (v := ?_) (by rfl) (by rfl) (fun x hx => ?_) (by exact fun _ _ _ h => h) ?_; rotate_left; (have h1 := hx; (first | (go_simp; done) | (go_simp; with_reducible rfl))); simp only [Act.put, List.setIfInBounds_toArray, List.set_cons_zero, List.set_cons_succ])
  refine wpHeld_nil ?_
  dsimp only [List.drop]
  have hst4 := Hst3.out.put_own hg Hclk3.out
  have hk0 := hst4.e0
  have hk1 := hst4.e1
  have hk2 := hst4.e2
  have hclk4 : Clk (w2.setCell ⟨W, 1 + g, none⟩ (.slice va nl vc)) _ _ _ := Hclk3.out.kept (Chg.setCell (S := fun b => b = W) w2 _ rfl) (fun b e => by rw [e, Hst3.out.isw.rW]; simp)
  have Hst4 := Lib.hid hst4
  have Hclk4 := Lib.hid hclk4
  clear hst4 hclk4 hce
  have hst5 := Hst4.out
  have hclk5 := Hclk4.out
  obtain ⟨q, u1, u2, u3, m1, m2, hq, hQ⟩ := (hst5.isw.pp.2 obj).2 _ Hf3.out
  obtain rfl : p = q := by simpa using hq
  replace hQ : IsPipe (w2.setCell ⟨W, 1 + g, none⟩ (.slice va nl vc)) _ obj p (s.pp obj) (N + 1) u1 u2 u3 m1 m2 := hQ
  have hn1 : (s.pp obj).sent.length ≤ N + 1 := hQ.n1
  have hn2 : (s.pp obj).got.length ≤ N + 1 := hQ.n2
  have Hsame : Hid ((s.pp obj).frm.length = (s.pp obj).sent.length) := hQ.same
  obtain ⟨a2, c2, rfl⟩ := owns_shape hQ.o2
  obtain ⟨a3, c3, rfl⟩ := owns_shape hQ.o3
  have hq1 := hQ.c1
  obtain ⟨i23, hi23, hy1, hy2, hy3⟩ := info_parts info_ints
  have hsz : (w2.setCell ⟨W, 1 + g, none⟩ (.slice va nl vc)).heap.size = w2.heap.size := by simp [World.setCell]
  have ho2 : (((w2.setCell ⟨W, 1 + g, none⟩ (.slice va nl vc)).alloc (.cells #[.slice va nl vc] 23)).drew).ownsRow 0 23 1 (.slice a2 (s.pp obj).got.length c2) (s.pp obj).got.length m2 := ownsRow_chg hQ.o2 ((Chg.alloc (fun _ => False) _ (.cells #[.slice va nl vc] 23)).trans (Chg.drew _ _)) (fun _ _ h => h)
  have hx2 : (((w2.setCell ⟨W, 1 + g, none⟩ (.slice va nl vc)).alloc (.cells #[.slice va nl vc] 23)).drew).cell? ⟨w2.heap.size, 0, none⟩ = some (.slice va nl vc) := by rw [← hsz]; exact new_cell _ _ _
  have Hsz := Lib.hid hsz
  clear hsz
  go_wp2_with (at_builtin; refine wpList_append_at rfl _ _ 26 (by rfl) 23 i23 (.slice none 0 0) 24 Tryd.underlying26 hi23 hy1 hy2 hy3 rfl _ _ _ (by rfl) ho2 w2.heap.size 1 (.slice va nl vc) (by rfl) hx2 rfl (by omega) (by omega) ?_)
  rintro v2' w9 hown2 hg2 hl2 g2 cp2 rfl
  have hc9 : Chg (fun b => (Value.slice a2 (s.pp obj).got.length c2).ownBlock = some b) (w2.setCell ⟨W, 1 + g, none⟩ (.slice va nl vc)) w9 := ((Chg.alloc _ _ (.cells #[.slice va nl vc] 23)).trans (Chg.drew _ _)).trans (Chg.grown hg2 (fun k hk => hk))
  have hl2' : Lies (w2.setCell ⟨W, 1 + g, none⟩ (.slice va nl vc)) (.slice a2 (s.pp obj).got.length c2) (.slice (some ⟨g2, 0, none⟩) ((s.pp obj).got.length + 1) cp2) := lies_mono hl2 ((Chg.alloc (fun _ => False) _ (.cells #[.slice va nl vc] 23)).trans (Chg.drew _ _)).size
  have hpp : ¬ (Value.slice a2 (s.pp obj).got.length c2).ownBlock = some p := fun e => by have h1 := hQ.r2 p e; rw [hQ.role] at h1; cases h1
  have hp91 := hc9.cell hQ.c1 hpp
  have hpf1 : w9.frozen? ⟨p, 1, none⟩ = false := by rw [hc9.frozen (a := ⟨p, 1, none⟩) hQ.lt hpp]; exact hQ.fz 1
  have hpf := hQ.push_got hst5.fresh hc9 hown2 hl2' hclk5
  have hst6 := (hst5.mono (Nat.le_succ _)).set_pipe hpf.2.1 (fun b h => h) hpf.2.2.1 hpf.2.2.2.1 Hf3.out hpf.1
  have hclk6 := hpf.2.2.2.2 _ _ hclk5
  have hpc1 := hpf.1.c1
  have hpc2 := hpf.1.c2
  have he26 := hst6.e2
  have hW6 := hst6.isw.c0
  have hrm6 : Ints _ m'.vr rooms := hst6.isw.rooms
  have Hpf := Lib.hid hpf
  have Hst6 := Lib.hid hst6
  have Hclk6 := Lib.hid hclk6
  have HQ := Lib.hid hQ
  clear hst6 hclk6 hpf hst5 hclk5 hown2 hg2 hl2 hl2' hx2 ho2 hq1 hk0 hk1 hk2 hc9 hQ
  have HRm : Hid (∀ x, x.cell? ⟨W, 0, none⟩ = some m'.vr → Ints x m'.vr rooms → Calls Tryd.prog 64 #[.pointer (some ⟨W, 0, none⟩), .int .i64 obj] x fun e w' => e = .returned (.int .i64 r) ∧ x = w') := fun x h1 h2 => by
    have h := room_any obj h1 h2
    rw [Hr.out] at h
    exact h
  go_wp2_with (go_at_call 64; refine (HRm.out (w9.setCell ⟨p, 1, none⟩ (.slice (some ⟨g2, 0, none⟩) ((s.pp obj).got.length + 1) cp2)) hW6 hrm6).mono ?_; rintro e w' ⟨rfl, rfl⟩)
  all_goals
    go_ret
    have e : stepL rooms s ⟨g, 6, obj, at_⟩ = { (s.setOwn g (clockL rooms s ⟨g, 6, obj, at_⟩)) with pp := upd s.pp obj ⟨(s.pp obj).sent, (s.pp obj).got ++ [clockL rooms s ⟨g, 6, obj, at_⟩], (s.pp obj).frm⟩ } := by
      have hcond : ¬ (roomL rooms obj = 0 ∧ (s.pp obj).got.length < (s.pp obj).frm.length) := by rw [Hr.out, Hsame.out]; omega
      show leavesL rooms _ _ _ = _
      unfold leavesL
      simp only [show ¬ (6 : Int) = 4 by decide, show ¬ ((6 : Int) = 7 ∨ (6 : Int) = 8 ∨ (6 : Int) = 9) by decide, show ¬ (6 : Int) = 10 by decide, show ¬ (6 : Int) = 5 by decide, if_false, if_true]
      exact if_neg hcond
    exact (St.state Hst6.out e).done (show N + 1 + 1 ≤ N + 3 by omega) Hclk6.out

set_option maxRecDepth 100000 in
set_option maxHeartbeats 1600000 in
theorem event_k6c {w : World} {W : Nat} {ρ : Nat → Role} {rooms : List Int} {s : WS} {N : Nat} {m : WM} (h : IsW w W ρ rooms s N m) (hN : N ≤ 9000) (g : Nat) (hg : g < 8) (obj at_ : Int) (hwf : (Lit.int .i64 obj).wf = true)
    (r : Nat) (hr : roomL rooms obj = r) (hr9 : r ≤ 9223372036854775807) (hA1 : ¬ (s.pp obj).got.length < (s.pp obj).sent.length) (hA2 : r = 0) (hbd : getL (comesL rooms s ⟨g, 6, obj, at_⟩) g ≤ 9000000) :
    Calls Tryd.prog 42 #[.pointer (some ⟨W, 0, none⟩), .agg #[.int .i64 g, .int .i64 6, .int .i64 obj, .int .i64 at_]] w (EvPost w W ρ rooms s N ⟨g, 6, obj, at_⟩) := by
  have HBD : Hid (getL (s.own g) g ≤ 9000000) := by have h := hbd; rw [show comesL rooms s ⟨g, 6, obj, at_⟩ = s.own g from (comes6_plain hA1)] at h; exact h
  clear hbd
  obtain ⟨i0, hi, hz0, hz1, hz2⟩ := info_parts info_int
  have hco := h.co g hg
  have hlt := h.lt
  have Hst0 := Lib.hid (fun (n : Nat) => St.begin (ev := ⟨g, 6, obj, at_⟩) h 38 129 n #[.slice none 0 0, .slice none 0 0, .slice none 0 0])
  generalize hvo : m.vo g = v0 at hco
  have Hvo := Lib.hid hvo
  clear hvo
  have hg0 : (0 : Int) ≤ (g : Int) := by omega
  have hg8 : (g : Int) < 8 := by omega
  have hg9 : (g : Int) < (g : Int) + 1 := by omega
  go_enter Tryd.func42, Tryd.ntmps42
  go_wp2_with fail
  go_quiet (fail)
  go_wp2_with fail
  refine (pipe_any (Hst0.out nq).isw (by omega) hwf).mono ?_
  rintro e w0 hpp
  obtain ⟨p, ρ2, m', rfl, hf3, hst, hr2, hvr, hvo', hM1, hM2, hM3, hf1, hf2, hcg⟩ := (Hst0.out nq).pipe hpp
  obtain ⟨q, v1, v2, v3, l1, l2, hq, hP⟩ := (hst.isw.pp.2 obj).2 _ hf3
  obtain rfl : p = q := by simpa using hq
  have hc0 := hst.isw.own g (by omega) (by omega)
  rw [hvo', Hvo.out] at hc0
  have hn1 := hP.n1
  have hn2 := hP.n2
  have hp0 := hP.c0
  have hp1 := hP.c1
  have he2 := hst.e2
  have hW0 := hst.isw.c0
  have hrooms := hst.isw.rooms
  have hco1 := hP.o1
  have hco2 := hP.o2
  have hk1 := hP.k1
  have hk2 := hP.k2
  have Hst := Lib.hid hst
  have Hf3 := Lib.hid hf3
  clear hst hf3 hpp hr2 hvr hvo' hM1 hM2 hM3 hf1 hf2 hcg hP hq Hst0 hco
  obtain ⟨a1, k1', rfl⟩ := owns_shape hco1
  obtain ⟨a2, k2', rfl⟩ := owns_shape hco2
  have Hr := Lib.hid hr
  clear hr hk1 hk2 hco1 hco2
  have hst00 := Hst.out
  have hclk00 := hc0
  clear hc0
  have hst0 := hst00
  have hclk0 := hclk00
  have hce0 := hst0.e0
  go_wp2_with (first | (at_make; refine wpList_make_full _ rfl _ _ 23 rfl 0 3 i0 (.int .i64 0) 1 Tryd.underlying23 hi hz0 hz1 .i64 .i64 _ _ (g + 1) rfl rfl ?d1 ?d2 ?d3 ?d4 (Nat.zero_le _) ?_))
  (try (case d1 => omega))
  (try (case d2 => omega))
  case d3 => first | omega | (rw [hz2]; omega)
  case d4 => unfold maxLen; omega
  intro w1 hown hgr
  obtain ⟨hst1, hmade⟩ := hst0.made hgr hown (by simp)
  have hclk1 := hclk0.kept (S := fun _ => False) (Chg.grown hgr (fun k hk => by cases hk)) (fun _ h => h.elim)
  have hce := hst1.e0
  have Hst1 := Lib.hid hst1
  have Hclk1 := Lib.hid hclk1
  clear hst1 hst0 hclk0 hclk1 hgr hown hi hce0
  generalize hB : w0.heap.size = B at hmade ⊢
  have HB := Lib.hid hB
  clear hB
  obtain ⟨lc, hlc⟩ : ∃ lc, lc = s.own g := ⟨_, rfl⟩
  have hci := Hclk1.out.1
  have hl8 := Hclk1.out.2.1
  rw [← hlc] at hci hl8
  have hbd' : getL lc g ≤ 9000000 := by rw [hlc]; exact HBD.out
  have hbd0 := getL_nonneg lc g
  have Hlc := Lib.hid hlc
  clear hlc
  have hBg := hmade.cell g (by omega)
  have hBfg := hmade.fz g
  go_wp2_with fail
  refine wp_region_order 8 [] (.take 0 (.take 1 (.take 2 (.take 3 (.take 4 (.take 5 (.one 6 (.take 7 (.done))))))))) (fun x => x.cell? ⟨w.heap.size, 0, none⟩ = some (.int .i64 g)) (by kernel_rfl) (by kernel_rfl) hce ?_
  refine wpFree_nil ?_
  repeat (refine wpHeld_take (v := ?_) (by rfl) (by rfl) (fun x hx => ?_) (by exact fun _ _ _ h => h) ?_; rotate_left; (have h1 := hx; (first | (go_simp; done) | (go_simp; with_reducible rfl))); simp only [Act.put, List.setIfInBounds_toArray, List.set_cons_zero, List.set_cons_succ])
  refine wpHeld_do (by rfl) (by rfl) (fun K hK => ?_)
  go_simp
  refine (get_ints (l := lc) (w := w1.drew) hci _).mono ?_
  rintro e w' ⟨rfl, rfl⟩
  refine hK _ _ hce ?_
  clear hK K
  try simp only [Act.put, List.setIfInBounds_toArray, List.set_cons_zero, List.set_cons_succ]
  repeat (refine wpHeld_take (v := ?_) (by rfl) (by rfl) (fun x hx => ?_) (by exact fun _ _ _ h => h) ?_; rotate_left; (have h1 := hx; (first | (go_simp; done) | (go_simp; with_reducible rfl))); simp only [Act.put, List.setIfInBounds_toArray, List.set_cons_zero, List.set_cons_succ])
  refine wpHeld_nil ?_
  dsimp only [List.drop]
  go_wp2_with fail
  generalize hx : getL lc g + 1 = x
  have Hx := Lib.hid hx
  clear hx
  have hst2 := (Hst1.out.set_new (o := g) (v := .int .i64 x) hmade.ge hmade.ne hmade.role).drew
  have hone := hmade.one hg x
  have hci2 : Ints (w1.setCell ⟨B, g, none⟩ (.int .i64 x)) _ lc := hci.kept (Chg.setCell (S := fun b => b = B) w1 _ rfl) (fun b hb e => by have h1 := Hclk1.out.2.2 b hb; rw [e, hmade.role] at h1; cases h1)
  have Hst2 := Lib.hid hst2
  clear hst2 hBg hBfg hmade hce hbd0 hbd'
  refine (join_any _ _ lc (List.replicate g 0 ++ [x]) (w1.setCell ⟨B, g, none⟩ (.int .i64 x)).drew hci2 hone (by omega) (by simp; omega)).mono ?_
  rintro e w2 ⟨v, rfl, hv1, hv2, hv3⟩
  obtain ⟨va, nl, vc, rfl⟩ := hv1.shape'
  have hl82 : (joinL lc (List.replicate g 0 ++ [x])).length ≤ 8 := by have := joinL_length lc (List.replicate g 0 ++ [x]); simp at this; omega
  obtain ⟨hst3, hclk3, _⟩ := Hst2.out.clk hv3 hv1 hv2 hl82
  have hL : joinL lc (List.replicate g 0 ++ [x]) = clockL rooms s ⟨g, 6, obj, at_⟩ := by
    show _ = tickL _ _
    unfold tickL
    rw [← Hx.out, Hlc.out]
    rw [show comesL rooms s ⟨g, 6, obj, at_⟩ = s.own g from (comes6_plain hA1)]
    rfl
  rw [hL] at hclk3
  have hce := hst3.e0
  have hcw := hst3.isw.co g hg
  have hfw := hst3.isw.fz (1 + g)
  have Hst3 := Lib.hid hst3
  have Hclk3 := Lib.hid hclk3
  clear hst3 hclk3 hv1 hv2 hv3 hone hci2 hci Hst2 hL
  go_wp2_with fail
  refine wp_region_order 6 [] (.take 0 (.take 1 (.take 2 (.take 3 (.take 4 (.take 5 (.done))))))) (fun x => x.cell? ⟨w.heap.size, 0, none⟩ = some (.int .i64 g)) (by kernel_rfl) (by kernel_rfl) hce ?_
  refine wpFree_nil ?_
  repeat (refine wpHeld_take (v := ?_) (by rfl) (by rfl) (fun x hx => ?_) (by exact fun _ _ _ h => h) ?_; rotate_left; (have h1 := hx; (first | (go_simp; done) | (go_simp; with_reducible rfl))); simp only [Act.put, List.setIfInBounds_toArray, List.set_cons_zero, List.set_cons_succ])
  refine wpHeld_nil ?_
  dsimp only [List.drop]
  have hst4 := Hst3.out.put_own hg Hclk3.out
  have hk0 := hst4.e0
  have hk1 := hst4.e1
  have hk2 := hst4.e2
  have hclk4 : Clk (w2.setCell ⟨W, 1 + g, none⟩ (.slice va nl vc)) _ _ _ := Hclk3.out.kept (Chg.setCell (S := fun b => b = W) w2 _ rfl) (fun b e => by rw [e, Hst3.out.isw.rW]; simp)
  have Hst4 := Lib.hid hst4
  have Hclk4 := Lib.hid hclk4
  clear hst4 hclk4 hce
  have hst5 := Hst4.out
  have hclk5 := Hclk4.out
  obtain ⟨q, u1, u2, u3, m1, m2, hq, hQ⟩ := (hst5.isw.pp.2 obj).2 _ Hf3.out
  obtain rfl : p = q := by simpa using hq
  replace hQ : IsPipe (w2.setCell ⟨W, 1 + g, none⟩ (.slice va nl vc)) _ obj p (s.pp obj) (N + 1) u1 u2 u3 m1 m2 := hQ
  have hn1 : (s.pp obj).sent.length ≤ N + 1 := hQ.n1
  have hn2 : (s.pp obj).got.length ≤ N + 1 := hQ.n2
  have Hsame : Hid ((s.pp obj).frm.length = (s.pp obj).sent.length) := hQ.same
  obtain ⟨a2, c2, rfl⟩ := owns_shape hQ.o2
  obtain ⟨a3, c3, rfl⟩ := owns_shape hQ.o3
  have hq1 := hQ.c1
  obtain ⟨i23, hi23, hy1, hy2, hy3⟩ := info_parts info_ints
  have hsz : (w2.setCell ⟨W, 1 + g, none⟩ (.slice va nl vc)).heap.size = w2.heap.size := by simp [World.setCell]
  have ho2 : (((w2.setCell ⟨W, 1 + g, none⟩ (.slice va nl vc)).alloc (.cells #[.slice va nl vc] 23)).drew).ownsRow 0 23 1 (.slice a2 (s.pp obj).got.length c2) (s.pp obj).got.length m2 := ownsRow_chg hQ.o2 ((Chg.alloc (fun _ => False) _ (.cells #[.slice va nl vc] 23)).trans (Chg.drew _ _)) (fun _ _ h => h)
  have hx2 : (((w2.setCell ⟨W, 1 + g, none⟩ (.slice va nl vc)).alloc (.cells #[.slice va nl vc] 23)).drew).cell? ⟨w2.heap.size, 0, none⟩ = some (.slice va nl vc) := by rw [← hsz]; exact new_cell _ _ _
  have Hsz := Lib.hid hsz
  clear hsz
  go_wp2_with (at_builtin; refine wpList_append_at rfl _ _ 26 (by rfl) 23 i23 (.slice none 0 0) 24 Tryd.underlying26 hi23 hy1 hy2 hy3 rfl _ _ _ (by rfl) ho2 w2.heap.size 1 (.slice va nl vc) (by rfl) hx2 rfl (by omega) (by omega) ?_)
  rintro v2' w9 hown2 hg2 hl2 g2 cp2 rfl
  have hc9 : Chg (fun b => (Value.slice a2 (s.pp obj).got.length c2).ownBlock = some b) (w2.setCell ⟨W, 1 + g, none⟩ (.slice va nl vc)) w9 := ((Chg.alloc _ _ (.cells #[.slice va nl vc] 23)).trans (Chg.drew _ _)).trans (Chg.grown hg2 (fun k hk => hk))
  have hl2' : Lies (w2.setCell ⟨W, 1 + g, none⟩ (.slice va nl vc)) (.slice a2 (s.pp obj).got.length c2) (.slice (some ⟨g2, 0, none⟩) ((s.pp obj).got.length + 1) cp2) := lies_mono hl2 ((Chg.alloc (fun _ => False) _ (.cells #[.slice va nl vc] 23)).trans (Chg.drew _ _)).size
  have hpp : ¬ (Value.slice a2 (s.pp obj).got.length c2).ownBlock = some p := fun e => by have h1 := hQ.r2 p e; rw [hQ.role] at h1; cases h1
  have hp91 := hc9.cell hQ.c1 hpp
  have hpf1 : w9.frozen? ⟨p, 1, none⟩ = false := by rw [hc9.frozen (a := ⟨p, 1, none⟩) hQ.lt hpp]; exact hQ.fz 1
  have hpf := hQ.push_got hst5.fresh hc9 hown2 hl2' hclk5
  have hst6 := (hst5.mono (Nat.le_succ _)).set_pipe hpf.2.1 (fun b h => h) hpf.2.2.1 hpf.2.2.2.1 Hf3.out hpf.1
  have hclk6 := hpf.2.2.2.2 _ _ hclk5
  have hpc1 := hpf.1.c1
  have hpc2 := hpf.1.c2
  have he26 := hst6.e2
  have hW6 := hst6.isw.c0
  have hrm6 : Ints _ m'.vr rooms := hst6.isw.rooms
  have Hpf := Lib.hid hpf
  have Hst6 := Lib.hid hst6
  have Hclk6 := Lib.hid hclk6
  have HQ := Lib.hid hQ
  clear hst6 hclk6 hpf hst5 hclk5 hown2 hg2 hl2 hl2' hx2 ho2 hq1 hk0 hk1 hk2 hc9 hQ
  have HRm : Hid (∀ x, x.cell? ⟨W, 0, none⟩ = some m'.vr → Ints x m'.vr rooms → Calls Tryd.prog 64 #[.pointer (some ⟨W, 0, none⟩), .int .i64 obj] x fun e w' => e = .returned (.int .i64 r) ∧ x = w') := fun x h1 h2 => by
    have h := room_any obj h1 h2
    rw [Hr.out] at h
    exact h
  have hA3 : (s.pp obj).frm.length ≤ (s.pp obj).got.length := by rw [Hsame.out]; omega
  go_wp2_with (go_at_call 64; refine (HRm.out (w9.setCell ⟨p, 1, none⟩ (.slice (some ⟨g2, 0, none⟩) ((s.pp obj).got.length + 1) cp2)) hW6 hrm6).mono ?_; rintro e w' ⟨rfl, rfl⟩)
  all_goals
    go_ret
    have e : stepL rooms s ⟨g, 6, obj, at_⟩ = { (s.setOwn g (clockL rooms s ⟨g, 6, obj, at_⟩)) with pp := upd s.pp obj ⟨(s.pp obj).sent, (s.pp obj).got ++ [clockL rooms s ⟨g, 6, obj, at_⟩], (s.pp obj).frm⟩ } := by
      have hcond : ¬ (roomL rooms obj = 0 ∧ (s.pp obj).got.length < (s.pp obj).frm.length) := by rw [Hr.out, Hsame.out]; omega
      show leavesL rooms _ _ _ = _
      unfold leavesL
      simp only [show ¬ (6 : Int) = 4 by decide, show ¬ ((6 : Int) = 7 ∨ (6 : Int) = 8 ∨ (6 : Int) = 9) by decide, show ¬ (6 : Int) = 10 by decide, show ¬ (6 : Int) = 5 by decide, if_false, if_true]
      exact if_neg hcond
    exact (St.state Hst6.out e).done (show N + 1 + 1 ≤ N + 3 by omega) Hclk6.out

set_option maxRecDepth 100000 in
set_option maxHeartbeats 1600000 in
theorem event_k6d {w : World} {W : Nat} {ρ : Nat → Role} {rooms : List Int} {s : WS} {N : Nat} {m : WM} (h : IsW w W ρ rooms s N m) (hN : N ≤ 9000) (g : Nat) (hg : g < 8) (obj at_ : Int) (hwf : (Lit.int .i64 obj).wf = true)
    (r : Nat) (hr : roomL rooms obj = r) (hr9 : r ≤ 9223372036854775807) (hA1 : ¬ (s.pp obj).got.length < (s.pp obj).sent.length) (hA2 : ¬ r = 0) (hbd : getL (comesL rooms s ⟨g, 6, obj, at_⟩) g ≤ 9000000) :
    Calls Tryd.prog 42 #[.pointer (some ⟨W, 0, none⟩), .agg #[.int .i64 g, .int .i64 6, .int .i64 obj, .int .i64 at_]] w (EvPost w W ρ rooms s N ⟨g, 6, obj, at_⟩) := by
  have HBD : Hid (getL (s.own g) g ≤ 9000000) := by have h := hbd; rw [show comesL rooms s ⟨g, 6, obj, at_⟩ = s.own g from (comes6_plain hA1)] at h; exact h
  clear hbd
  obtain ⟨i0, hi, hz0, hz1, hz2⟩ := info_parts info_int
  have hco := h.co g hg
  have hlt := h.lt
  have Hst0 := Lib.hid (fun (n : Nat) => St.begin (ev := ⟨g, 6, obj, at_⟩) h 38 129 n #[.slice none 0 0, .slice none 0 0, .slice none 0 0])
  generalize hvo : m.vo g = v0 at hco
  have Hvo := Lib.hid hvo
  clear hvo
  have hg0 : (0 : Int) ≤ (g : Int) := by omega
  have hg8 : (g : Int) < 8 := by omega
  have hg9 : (g : Int) < (g : Int) + 1 := by omega
  go_enter Tryd.func42, Tryd.ntmps42
  go_wp2_with fail
  go_quiet (fail)
  go_wp2_with fail
  refine (pipe_any (Hst0.out nq).isw (by omega) hwf).mono ?_
  rintro e w0 hpp
  obtain ⟨p, ρ2, m', rfl, hf3, hst, hr2, hvr, hvo', hM1, hM2, hM3, hf1, hf2, hcg⟩ := (Hst0.out nq).pipe hpp
  obtain ⟨q, v1, v2, v3, l1, l2, hq, hP⟩ := (hst.isw.pp.2 obj).2 _ hf3
  obtain rfl : p = q := by simpa using hq
  have hc0 := hst.isw.own g (by omega) (by omega)
  rw [hvo', Hvo.out] at hc0
  have hn1 := hP.n1
  have hn2 := hP.n2
  have hp0 := hP.c0
  have hp1 := hP.c1
  have he2 := hst.e2
  have hW0 := hst.isw.c0
  have hrooms := hst.isw.rooms
  have hco1 := hP.o1
  have hco2 := hP.o2
  have hk1 := hP.k1
  have hk2 := hP.k2
  have Hst := Lib.hid hst
  have Hf3 := Lib.hid hf3
  clear hst hf3 hpp hr2 hvr hvo' hM1 hM2 hM3 hf1 hf2 hcg hP hq Hst0 hco
  obtain ⟨a1, k1', rfl⟩ := owns_shape hco1
  obtain ⟨a2, k2', rfl⟩ := owns_shape hco2
  have Hr := Lib.hid hr
  clear hr hk1 hk2 hco1 hco2
  have hst00 := Hst.out
  have hclk00 := hc0
  clear hc0
  have hst0 := hst00
  have hclk0 := hclk00
  have hce0 := hst0.e0
  go_wp2_with (first | (at_make; refine wpList_make_full _ rfl _ _ 23 rfl 0 3 i0 (.int .i64 0) 1 Tryd.underlying23 hi hz0 hz1 .i64 .i64 _ _ (g + 1) rfl rfl ?d1 ?d2 ?d3 ?d4 (Nat.zero_le _) ?_))
  (try (case d1 => omega))
  (try (case d2 => omega))
  case d3 => first | omega | (rw [hz2]; omega)
  case d4 => unfold maxLen; omega
  intro w1 hown hgr
  obtain ⟨hst1, hmade⟩ := hst0.made hgr hown (by simp)
  have hclk1 := hclk0.kept (S := fun _ => False) (Chg.grown hgr (fun k hk => by cases hk)) (fun _ h => h.elim)
  have hce := hst1.e0
  have Hst1 := Lib.hid hst1
  have Hclk1 := Lib.hid hclk1
  clear hst1 hst0 hclk0 hclk1 hgr hown hi hce0
  generalize hB : w0.heap.size = B at hmade ⊢
  have HB := Lib.hid hB
  clear hB
  obtain ⟨lc, hlc⟩ : ∃ lc, lc = s.own g := ⟨_, rfl⟩
  have hci := Hclk1.out.1
  have hl8 := Hclk1.out.2.1
  rw [← hlc] at hci hl8
  have hbd' : getL lc g ≤ 9000000 := by rw [hlc]; exact HBD.out
  have hbd0 := getL_nonneg lc g
  have Hlc := Lib.hid hlc
  clear hlc
  have hBg := hmade.cell g (by omega)
  have hBfg := hmade.fz g
  go_wp2_with fail
  refine wp_region_order 8 [] (.take 0 (.take 1 (.take 2 (.take 3 (.take 4 (.take 5 (.one 6 (.take 7 (.done))))))))) (fun x => x.cell? ⟨w.heap.size, 0, none⟩ = some (.int .i64 g)) (by kernel_rfl) (by kernel_rfl) hce ?_
  refine wpFree_nil ?_
  repeat (refine wpHeld_take (v := ?_) (by rfl) (by rfl) (fun x hx => ?_) (by exact fun _ _ _ h => h) ?_; rotate_left; (have h1 := hx; (first | (go_simp; done) | (go_simp; with_reducible rfl))); simp only [Act.put, List.setIfInBounds_toArray, List.set_cons_zero, List.set_cons_succ])
  refine wpHeld_do (by rfl) (by rfl) (fun K hK => ?_)
  go_simp
  refine (get_ints (l := lc) (w := w1.drew) hci _).mono ?_
  rintro e w' ⟨rfl, rfl⟩
  refine hK _ _ hce ?_
  clear hK K
  try simp only [Act.put, List.setIfInBounds_toArray, List.set_cons_zero, List.set_cons_succ]
  repeat (refine wpHeld_take (v := ?_) (by rfl) (by rfl) (fun x hx => ?_) (by exact fun _ _ _ h => h) ?_; rotate_left; (have h1 := hx; (first | (go_simp; done) | (go_simp; with_reducible rfl))); simp only [Act.put, List.setIfInBounds_toArray, List.set_cons_zero, List.set_cons_succ])
  refine wpHeld_nil ?_
  dsimp only [List.drop]
  go_wp2_with fail
  generalize hx : getL lc g + 1 = x
  have Hx := Lib.hid hx
  clear hx
  have hst2 := (Hst1.out.set_new (o := g) (v := .int .i64 x) hmade.ge hmade.ne hmade.role).drew
  have hone := hmade.one hg x
  have hci2 : Ints (w1.setCell ⟨B, g, none⟩ (.int .i64 x)) _ lc := hci.kept (Chg.setCell (S := fun b => b = B) w1 _ rfl) (fun b hb e => by have h1 := Hclk1.out.2.2 b hb; rw [e, hmade.role] at h1; cases h1)
  have Hst2 := Lib.hid hst2
  clear hst2 hBg hBfg hmade hce hbd0 hbd'
  refine (join_any _ _ lc (List.replicate g 0 ++ [x]) (w1.setCell ⟨B, g, none⟩ (.int .i64 x)).drew hci2 hone (by omega) (by simp; omega)).mono ?_
  rintro e w2 ⟨v, rfl, hv1, hv2, hv3⟩
  obtain ⟨va, nl, vc, rfl⟩ := hv1.shape'
  have hl82 : (joinL lc (List.replicate g 0 ++ [x])).length ≤ 8 := by have := joinL_length lc (List.replicate g 0 ++ [x]); simp at this; omega
  obtain ⟨hst3, hclk3, _⟩ := Hst2.out.clk hv3 hv1 hv2 hl82
  have hL : joinL lc (List.replicate g 0 ++ [x]) = clockL rooms s ⟨g, 6, obj, at_⟩ := by
    show _ = tickL _ _
    unfold tickL
    rw [← Hx.out, Hlc.out]
    rw [show comesL rooms s ⟨g, 6, obj, at_⟩ = s.own g from (comes6_plain hA1)]
    rfl
  rw [hL] at hclk3
  have hce := hst3.e0
  have hcw := hst3.isw.co g hg
  have hfw := hst3.isw.fz (1 + g)
  have Hst3 := Lib.hid hst3
  have Hclk3 := Lib.hid hclk3
  clear hst3 hclk3 hv1 hv2 hv3 hone hci2 hci Hst2 hL
  go_wp2_with fail
  refine wp_region_order 6 [] (.take 0 (.take 1 (.take 2 (.take 3 (.take 4 (.take 5 (.done))))))) (fun x => x.cell? ⟨w.heap.size, 0, none⟩ = some (.int .i64 g)) (by kernel_rfl) (by kernel_rfl) hce ?_
  refine wpFree_nil ?_
  repeat (refine wpHeld_take (v := ?_) (by rfl) (by rfl) (fun x hx => ?_) (by exact fun _ _ _ h => h) ?_; rotate_left; (have h1 := hx; (first | (go_simp; done) | (go_simp; with_reducible rfl))); simp only [Act.put, List.setIfInBounds_toArray, List.set_cons_zero, List.set_cons_succ])
  refine wpHeld_nil ?_
  dsimp only [List.drop]
  have hst4 := Hst3.out.put_own hg Hclk3.out
  have hk0 := hst4.e0
  have hk1 := hst4.e1
  have hk2 := hst4.e2
  have hclk4 : Clk (w2.setCell ⟨W, 1 + g, none⟩ (.slice va nl vc)) _ _ _ := Hclk3.out.kept (Chg.setCell (S := fun b => b = W) w2 _ rfl) (fun b e => by rw [e, Hst3.out.isw.rW]; simp)
  have Hst4 := Lib.hid hst4
  have Hclk4 := Lib.hid hclk4
  clear hst4 hclk4 hce
  have hst5 := Hst4.out
  have hclk5 := Hclk4.out
  obtain ⟨q, u1, u2, u3, m1, m2, hq, hQ⟩ := (hst5.isw.pp.2 obj).2 _ Hf3.out
  obtain rfl : p = q := by simpa using hq
  replace hQ : IsPipe (w2.setCell ⟨W, 1 + g, none⟩ (.slice va nl vc)) _ obj p (s.pp obj) (N + 1) u1 u2 u3 m1 m2 := hQ
  have hn1 : (s.pp obj).sent.length ≤ N + 1 := hQ.n1
  have hn2 : (s.pp obj).got.length ≤ N + 1 := hQ.n2
  have Hsame : Hid ((s.pp obj).frm.length = (s.pp obj).sent.length) := hQ.same
  obtain ⟨a2, c2, rfl⟩ := owns_shape hQ.o2
  obtain ⟨a3, c3, rfl⟩ := owns_shape hQ.o3
  have hq1 := hQ.c1
  obtain ⟨i23, hi23, hy1, hy2, hy3⟩ := info_parts info_ints
  have hsz : (w2.setCell ⟨W, 1 + g, none⟩ (.slice va nl vc)).heap.size = w2.heap.size := by simp [World.setCell]
  have ho2 : (((w2.setCell ⟨W, 1 + g, none⟩ (.slice va nl vc)).alloc (.cells #[.slice va nl vc] 23)).drew).ownsRow 0 23 1 (.slice a2 (s.pp obj).got.length c2) (s.pp obj).got.length m2 := ownsRow_chg hQ.o2 ((Chg.alloc (fun _ => False) _ (.cells #[.slice va nl vc] 23)).trans (Chg.drew _ _)) (fun _ _ h => h)
  have hx2 : (((w2.setCell ⟨W, 1 + g, none⟩ (.slice va nl vc)).alloc (.cells #[.slice va nl vc] 23)).drew).cell? ⟨w2.heap.size, 0, none⟩ = some (.slice va nl vc) := by rw [← hsz]; exact new_cell _ _ _
  have Hsz := Lib.hid hsz
  clear hsz
  go_wp2_with (at_builtin; refine wpList_append_at rfl _ _ 26 (by rfl) 23 i23 (.slice none 0 0) 24 Tryd.underlying26 hi23 hy1 hy2 hy3 rfl _ _ _ (by rfl) ho2 w2.heap.size 1 (.slice va nl vc) (by rfl) hx2 rfl (by omega) (by omega) ?_)
  rintro v2' w9 hown2 hg2 hl2 g2 cp2 rfl
  have hc9 : Chg (fun b => (Value.slice a2 (s.pp obj).got.length c2).ownBlock = some b) (w2.setCell ⟨W, 1 + g, none⟩ (.slice va nl vc)) w9 := ((Chg.alloc _ _ (.cells #[.slice va nl vc] 23)).trans (Chg.drew _ _)).trans (Chg.grown hg2 (fun k hk => hk))
  have hl2' : Lies (w2.setCell ⟨W, 1 + g, none⟩ (.slice va nl vc)) (.slice a2 (s.pp obj).got.length c2) (.slice (some ⟨g2, 0, none⟩) ((s.pp obj).got.length + 1) cp2) := lies_mono hl2 ((Chg.alloc (fun _ => False) _ (.cells #[.slice va nl vc] 23)).trans (Chg.drew _ _)).size
  have hpp : ¬ (Value.slice a2 (s.pp obj).got.length c2).ownBlock = some p := fun e => by have h1 := hQ.r2 p e; rw [hQ.role] at h1; cases h1
  have hp91 := hc9.cell hQ.c1 hpp
  have hpf1 : w9.frozen? ⟨p, 1, none⟩ = false := by rw [hc9.frozen (a := ⟨p, 1, none⟩) hQ.lt hpp]; exact hQ.fz 1
  have hpf := hQ.push_got hst5.fresh hc9 hown2 hl2' hclk5
  have hst6 := (hst5.mono (Nat.le_succ _)).set_pipe hpf.2.1 (fun b h => h) hpf.2.2.1 hpf.2.2.2.1 Hf3.out hpf.1
  have hclk6 := hpf.2.2.2.2 _ _ hclk5
  have hpc1 := hpf.1.c1
  have hpc2 := hpf.1.c2
  have he26 := hst6.e2
  have hW6 := hst6.isw.c0
  have hrm6 : Ints _ m'.vr rooms := hst6.isw.rooms
  have Hpf := Lib.hid hpf
  have Hst6 := Lib.hid hst6
  have Hclk6 := Lib.hid hclk6
  have HQ := Lib.hid hQ
  clear hst6 hclk6 hpf hst5 hclk5 hown2 hg2 hl2 hl2' hx2 ho2 hq1 hk0 hk1 hk2 hc9 hQ
  have HRm : Hid (∀ x, x.cell? ⟨W, 0, none⟩ = some m'.vr → Ints x m'.vr rooms → Calls Tryd.prog 64 #[.pointer (some ⟨W, 0, none⟩), .int .i64 obj] x fun e w' => e = .returned (.int .i64 r) ∧ x = w') := fun x h1 h2 => by
    have h := room_any obj h1 h2
    rw [Hr.out] at h
    exact h
  have hA3 : (s.pp obj).frm.length ≤ (s.pp obj).got.length := by rw [Hsame.out]; omega
  go_wp2_with (go_at_call 64; refine (HRm.out (w9.setCell ⟨p, 1, none⟩ (.slice (some ⟨g2, 0, none⟩) ((s.pp obj).got.length + 1) cp2)) hW6 hrm6).mono ?_; rintro e w' ⟨rfl, rfl⟩)
  all_goals
    go_ret
    have e : stepL rooms s ⟨g, 6, obj, at_⟩ = { (s.setOwn g (clockL rooms s ⟨g, 6, obj, at_⟩)) with pp := upd s.pp obj ⟨(s.pp obj).sent, (s.pp obj).got ++ [clockL rooms s ⟨g, 6, obj, at_⟩], (s.pp obj).frm⟩ } := by
      have hcond : ¬ (roomL rooms obj = 0 ∧ (s.pp obj).got.length < (s.pp obj).frm.length) := by rw [Hr.out, Hsame.out]; omega
      show leavesL rooms _ _ _ = _
      unfold leavesL
      simp only [show ¬ (6 : Int) = 4 by decide, show ¬ ((6 : Int) = 7 ∨ (6 : Int) = 8 ∨ (6 : Int) = 9) by decide, show ¬ (6 : Int) = 10 by decide, show ¬ (6 : Int) = 5 by decide, if_false, if_true]
      exact if_neg hcond
    exact (St.state Hst6.out e).done (show N + 1 + 1 ≤ N + 3 by omega) Hclk6.out
end Go.Proofs.YtkjbpkggcddnhaaDoor
