/- The walk of (*watcher).event: kinds other,3,4,7. -/
import Derived.Test.YtkjbpkggcddnhaaDoorEvHead
namespace Go.Proofs.YtkjbpkggcddnhaaDoor
set_option linter.unusedVariables false
set_option linter.unusedSimpArgs false
open Go.RowKit

set_option maxRecDepth 100000 in
set_option maxHeartbeats 1600000 in
theorem event_other {w : World} {W : Nat} {ρ : Nat → Role} {rooms : List Int} {s : WS} {N : Nat} {m : WM} (h : IsW w W ρ rooms s N m) (hN : N ≤ 9000) (g : Nat) (hg : g < 8) (kind obj at_ : Int) (hwf : (Lit.int .i64 obj).wf = true)
    (k3 : (kind == 3) = false) (k4 : (kind == 4) = false) (k5 : (kind == 5) = false) (k6 : (kind == 6) = false) (k7 : (kind == 7) = false) (k8 : (kind == 8) = false) (k9 : (kind == 9) = false) (k10 : (kind == 10) = false) (hbd : getL (comesL rooms s ⟨g, kind, obj, at_⟩) g ≤ 9000000) :
    Calls Tryd.prog 42 #[.pointer (some ⟨W, 0, none⟩), .agg #[.int .i64 g, .int .i64 kind, .int .i64 obj, .int .i64 at_]] w (EvPost w W ρ rooms s N ⟨g, kind, obj, at_⟩) := by
  have HBD : Hid (getL (s.own g) g ≤ 9000000) := by have h := hbd; rw [show comesL rooms s ⟨g, kind, obj, at_⟩ = s.own g from (by unfold comesL; simp [beq_eq_false_iff_ne.1 k3, beq_eq_false_iff_ne.1 k5, beq_eq_false_iff_ne.1 k6, beq_eq_false_iff_ne.1 k7, beq_eq_false_iff_ne.1 k8, beq_eq_false_iff_ne.1 k9])] at h; exact h
  clear hbd
  obtain ⟨i0, hi, hz0, hz1, hz2⟩ := info_parts info_int
  have hco := h.co g hg
  have hlt := h.lt
  have Hst0 := Lib.hid (fun (n : Nat) => St.begin (ev := ⟨g, kind, obj, at_⟩) h 38 129 n #[.slice none 0 0, .slice none 0 0, .slice none 0 0])
  generalize hvo : m.vo g = v0 at hco
  have Hvo := Lib.hid hvo
  clear hvo
  have hg0 : (0 : Int) ≤ (g : Int) := by omega
  have hg8 : (g : Int) < 8 := by omega
  have hg9 : (g : Int) < (g : Int) + 1 := by omega
  go_enter Tryd.func42, Tryd.ntmps42
  go_wp2_with fail
  go_quiet (fail)
  have hc0 := (Hst0.out nq).isw.own g (by omega) (by omega)
  rw [Hvo.out] at hc0
  have hst0 := Hst0.out nq
  have hclk0 := hc0
  have hce0 := hst0.e0
  go_wp2_with (first | (at_make; refine wpList_make_full _ rfl _ _ 23 rfl 0 3 i0 (.int .i64 0) 1 Tryd.underlying23 hi hz0 hz1 .i64 .i64 _ _ (g + 1) rfl rfl ?d1 ?d2 ?d3 ?d4 (Nat.zero_le _) ?_))
  (try (case d1 => omega))
  (try (case d2 => omega))
  case d3 => first | omega | (rw [hz2]; omega)
  case d4 => unfold maxLen; omega
  intro w1 hown hgr
  obtain ⟨hst1, hmade⟩ := hst0.made hgr hown (by simp)
  have hclk1 := hclk0.kept (S := fun _ => False) (Chg.grown hgr (fun k hk => by cases hk)) (fun _ h => h.elim)
  have hce := hst1.e0
  have Hst1 := Lib.hid hst1
  have Hclk1 := Lib.hid hclk1
  clear hst1 hst0 hclk0 hclk1 hgr hown hi hce0
  generalize hB : w.heap.size + 1 + 1 = B at hmade ⊢
  have HB := Lib.hid hB
  clear hB
  obtain ⟨lc, hlc⟩ : ∃ lc, lc = s.own g := ⟨_, rfl⟩
  have hci := Hclk1.out.1
  have hl8 := Hclk1.out.2.1
  rw [← hlc] at hci hl8
  have hbd' : getL lc g ≤ 9000000 := by rw [hlc]; exact HBD.out
  have hbd0 := getL_nonneg lc g
  have Hlc := Lib.hid hlc
  clear hlc
  have hBg := hmade.cell g (by omega)
  have hBfg := hmade.fz g
  go_wp2_with fail
  refine wp_region_order 8 [] (.take 0 (.take 1 (.take 2 (.take 3 (.take 4 (.take 5 (.one 6 (.take 7 (.done))))))))) (fun x => x.cell? ⟨w.heap.size, 0, none⟩ = some (.int .i64 g)) (by kernel_rfl) (by kernel_rfl) hce ?_
  refine wpFree_nil ?_
  repeat (refine wpHeld_take (v := ?_) (by rfl) (by rfl) (fun x hx => ?_) (by exact fun _ _ _ h => h) ?_; rotate_left; (have h1 := hx; (first | (go_simp; done) | (go_simp; with_reducible rfl))); simp only [Act.put, List.setIfInBounds_toArray, List.set_cons_zero, List.set_cons_succ])
  refine wpHeld_do (by rfl) (by rfl) (fun K hK => ?_)
  go_simp
  refine (get_ints (l := lc) (w := w1.drew) hci _).mono ?_
  rintro e w' ⟨rfl, rfl⟩
  refine hK _ _ hce ?_
  clear hK K
  try simp only [Act.put, List.setIfInBounds_toArray, List.set_cons_zero, List.set_cons_succ]
  repeat (refine wpHeld_take (v := ?_) (by rfl) (by rfl) (fun x hx => ?_) (by exact fun _ _ _ h => h) ?_; rotate_left; (have h1 := hx; (first | (go_simp; done) | (go_simp; with_reducible rfl))); simp only [Act.put, List.setIfInBounds_toArray, List.set_cons_zero, List.set_cons_succ])
  refine wpHeld_nil ?_
  dsimp only [List.drop]
  go_wp2_with fail
  generalize hx : getL lc g + 1 = x
  have Hx := Lib.hid hx
  clear hx
  have hst2 := (Hst1.out.set_new (o := g) (v := .int .i64 x) hmade.ge hmade.ne hmade.role).drew
  have hone := hmade.one hg x
  have hci2 : Ints (w1.setCell ⟨B, g, none⟩ (.int .i64 x)) _ lc := hci.kept (Chg.setCell (S := fun b => b = B) w1 _ rfl) (fun b hb e => by have h1 := Hclk1.out.2.2 b hb; rw [e, hmade.role] at h1; cases h1)
  have Hst2 := Lib.hid hst2
  clear hst2 hBg hBfg hmade hce hbd0 hbd'
  refine (join_any _ _ lc (List.replicate g 0 ++ [x]) (w1.setCell ⟨B, g, none⟩ (.int .i64 x)).drew hci2 hone (by omega) (by simp; omega)).mono ?_
  rintro e w2 ⟨v, rfl, hv1, hv2, hv3⟩
  obtain ⟨va, nl, vc, rfl⟩ := hv1.shape'
  have hl82 : (joinL lc (List.replicate g 0 ++ [x])).length ≤ 8 := by have := joinL_length lc (List.replicate g 0 ++ [x]); simp at this; omega
  obtain ⟨hst3, hclk3, _⟩ := Hst2.out.clk hv3 hv1 hv2 hl82
  have hL : joinL lc (List.replicate g 0 ++ [x]) = clockL rooms s ⟨g, kind, obj, at_⟩ := by
    show _ = tickL _ _
    unfold tickL
    rw [← Hx.out, Hlc.out]
    rw [show comesL rooms s ⟨g, kind, obj, at_⟩ = s.own g from (by unfold comesL; simp [beq_eq_false_iff_ne.1 k3, beq_eq_false_iff_ne.1 k5, beq_eq_false_iff_ne.1 k6, beq_eq_false_iff_ne.1 k7, beq_eq_false_iff_ne.1 k8, beq_eq_false_iff_ne.1 k9])]
    rfl
  rw [hL] at hclk3
  have hce := hst3.e0
  have hcw := hst3.isw.co g hg
  have hfw := hst3.isw.fz (1 + g)
  have Hst3 := Lib.hid hst3
  have Hclk3 := Lib.hid hclk3
  clear hst3 hclk3 hv1 hv2 hv3 hone hci2 hci Hst2 hL
  go_wp2_with fail
  refine wp_region_order 6 [] (.take 0 (.take 1 (.take 2 (.take 3 (.take 4 (.take 5 (.done))))))) (fun x => x.cell? ⟨w.heap.size, 0, none⟩ = some (.int .i64 g)) (by kernel_rfl) (by kernel_rfl) hce ?_
  refine wpFree_nil ?_
  repeat (refine wpHeld_take (v := ?_) (by rfl) (by rfl) (fun x hx => ?_) (by exact fun _ _ _ h => h) ?_; rotate_left; (have h1 := hx; (first | (go_simp; done) | (go_simp; with_reducible rfl))); simp only [Act.put, List.setIfInBounds_toArray, List.set_cons_zero, List.set_cons_succ])
  refine wpHeld_nil ?_
  dsimp only [List.drop]
  have hst4 := Hst3.out.put_own hg Hclk3.out
  have hk0 := hst4.e0
  have hk1 := hst4.e1
  have hk2 := hst4.e2
  have hclk4 : Clk (w2.setCell ⟨W, 1 + g, none⟩ (.slice va nl vc)) _ _ _ := Hclk3.out.kept (Chg.setCell (S := fun b => b = W) w2 _ rfl) (fun b e => by rw [e, Hst3.out.isw.rW]; simp)
  have Hst4 := Lib.hid hst4
  have Hclk4 := Lib.hid hclk4
  clear hst4 hclk4 hce
  go_wp2
  go_ret
  have e : stepL rooms s ⟨g, kind, obj, at_⟩ = s.setOwn g (clockL rooms s ⟨g, kind, obj, at_⟩) := by
    unfold stepL leavesL
    simp [beq_eq_false_iff_ne.1 k4, beq_eq_false_iff_ne.1 k5, beq_eq_false_iff_ne.1 k6, beq_eq_false_iff_ne.1 k7, beq_eq_false_iff_ne.1 k8, beq_eq_false_iff_ne.1 k9, beq_eq_false_iff_ne.1 k10]
  have hf := Hst4.out.drew
  rw [← e] at hf
  exact hf.done (Nat.le_add_right _ _) Hclk4.out

set_option maxRecDepth 100000 in
set_option maxHeartbeats 1600000 in
theorem event_k3 {w : World} {W : Nat} {ρ : Nat → Role} {rooms : List Int} {s : WS} {N : Nat} {m : WM} (h : IsW w W ρ rooms s N m) (hN : N ≤ 9000) (g : Nat) (hg : g < 8) (obj at_ : Int) (hwf : (Lit.int .i64 obj).wf = true)
     (hbd : getL (comesL rooms s ⟨g, 3, obj, at_⟩) g ≤ 9000000) :
    Calls Tryd.prog 42 #[.pointer (some ⟨W, 0, none⟩), .agg #[.int .i64 g, .int .i64 3, .int .i64 obj, .int .i64 at_]] w (EvPost w W ρ rooms s N ⟨g, 3, obj, at_⟩) := by
  have HBD : Hid (getL (joinL (s.own g) (s.mu obj)) g ≤ 9000000) := by have h := hbd; rw [show comesL rooms s ⟨g, 3, obj, at_⟩ = joinL (s.own g) (s.mu obj) from (by unfold comesL; simp)] at h; exact h
  clear hbd
  obtain ⟨i0, hi, hz0, hz1, hz2⟩ := info_parts info_int
  have hco := h.co g hg
  have hlt := h.lt
  have Hst0 := Lib.hid (fun (n : Nat) => St.begin (ev := ⟨g, 3, obj, at_⟩) h 38 129 n #[.slice none 0 0, .slice none 0 0, .slice none 0 0])
  generalize hvo : m.vo g = v0 at hco
  have Hvo := Lib.hid hvo
  clear hvo
  have hg0 : (0 : Int) ≤ (g : Int) := by omega
  have hg8 : (g : Int) < 8 := by omega
  have hg9 : (g : Int) < (g : Int) + 1 := by omega
  go_enter Tryd.func42, Tryd.ntmps42
  go_wp2_with fail
  go_quiet (fail)
  go_wp2_with fail
  have hst0d := (Hst0.out nq).drew
  have hc0 := hst0d.isw.own g (by omega) (by omega)
  rw [Hvo.out] at hc0
  have hat := hst0d.isw.mu.at obj
  have hlk := hst0d.isw.mu.1.lookup und_int Tryd.underlying74 (zero_ints _) hwf
  generalize (m.f1 obj).getD (.slice none 0 0) = vm at hat hlk
  have hc9 := hst0d.isw.c9
  have he2 := hst0d.e2
  refine wp_region_order 8 [] (.take 0 (.take 1 (.take 2 (.take 3 (.take 4 (.take 5 (.take 6 (.take 7 (.done))))))))) (fun x => x.cell? ⟨W, 9, none⟩ = some (.map (some m.M1)) ∧ x.cell? ⟨w.heap.size, 2, none⟩ = some (.int .i64 obj) ∧ (Instr.lookup 74 (.map (some m.M1)) (.int .i64 obj) false).run Tryd.prog x = .ok vm x) (by kernel_rfl) (by kernel_rfl) ⟨hc9, he2, hlk⟩ ?_
  refine wpFree_nil ?_
  repeat (refine wpHeld_take (v := ?_) (by rfl) (by rfl) (fun x hx => ?_) (by exact fun _ _ _ h => h) ?_; rotate_left; (obtain ⟨h1, h2, h3⟩ := hx; (first | (go_simp; done) | (go_simp; with_reducible rfl))); simp only [Act.put, List.setIfInBounds_toArray, List.set_cons_zero, List.set_cons_succ])
  refine wpHeld_nil ?_
  dsimp only [List.drop]
  have Hlk := Lib.hid hlk
  clear hlk hc9 he2
  go_wp2_with fail
  refine (join_any v0 vm (s.own g) (s.mu obj) _ hc0.1 hat.1 (by have := hc0.2.1; omega) (by have := hat.2.1; omega)).mono ?_
  rintro e w0 ⟨v, rfl, hv1, hv2, hv3⟩
  obtain ⟨va', nl', vc', rfl⟩ := hv1.shape'
  have hl81 : (joinL (s.own g) (s.mu obj)).length ≤ 8 := by have h1 := joinL_length (s.own g) (s.mu obj); have h2 := hc0.2.1; have h3 := hat.2.1; omega
  obtain ⟨hst00, hclk00, _⟩ := hst0d.clk hv3 hv1 hv2 hl81
  clear hv1 hv2 hv3 hat Hlk hst0d hc0
  have hst0 := hst00
  have hclk0 := hclk00
  have hce0 := hst0.e0
  go_wp2_with (first | (at_make; refine wpList_make_full _ rfl _ _ 23 rfl 0 3 i0 (.int .i64 0) 1 Tryd.underlying23 hi hz0 hz1 .i64 .i64 _ _ (g + 1) rfl rfl ?d1 ?d2 ?d3 ?d4 (Nat.zero_le _) ?_))
  (try (case d1 => omega))
  (try (case d2 => omega))
  case d3 => first | omega | (rw [hz2]; omega)
  case d4 => unfold maxLen; omega
  intro w1 hown hgr
  obtain ⟨hst1, hmade⟩ := hst0.made hgr hown (by simp)
  have hclk1 := hclk0.kept (S := fun _ => False) (Chg.grown hgr (fun k hk => by cases hk)) (fun _ h => h.elim)
  have hce := hst1.e0
  have Hst1 := Lib.hid hst1
  have Hclk1 := Lib.hid hclk1
  clear hst1 hst0 hclk0 hclk1 hgr hown hi hce0
  generalize hB : w0.heap.size = B at hmade ⊢
  have HB := Lib.hid hB
  clear hB
  obtain ⟨lc, hlc⟩ : ∃ lc, lc = joinL (s.own g) (s.mu obj) := ⟨_, rfl⟩
  have hci := Hclk1.out.1
  have hl8 := Hclk1.out.2.1
  rw [← hlc] at hci hl8
  have hbd' : getL lc g ≤ 9000000 := by rw [hlc]; exact HBD.out
  have hbd0 := getL_nonneg lc g
  have Hlc := Lib.hid hlc
  clear hlc
  have hBg := hmade.cell g (by omega)
  have hBfg := hmade.fz g
  go_wp2_with fail
  refine wp_region_order 8 [] (.take 0 (.take 1 (.take 2 (.take 3 (.take 4 (.take 5 (.one 6 (.take 7 (.done))))))))) (fun x => x.cell? ⟨w.heap.size, 0, none⟩ = some (.int .i64 g)) (by kernel_rfl) (by kernel_rfl) hce ?_
  refine wpFree_nil ?_
  repeat (refine wpHeld_take (v := ?_) (by rfl) (by rfl) (fun x hx => ?_) (by exact fun _ _ _ h => h) ?_; rotate_left; (have h1 := hx; (first | (go_simp; done) | (go_simp; with_reducible rfl))); simp only [Act.put, List.setIfInBounds_toArray, List.set_cons_zero, List.set_cons_succ])
  refine wpHeld_do (by rfl) (by rfl) (fun K hK => ?_)
  go_simp
  refine (get_ints (l := lc) (w := w1.drew) hci _).mono ?_
  rintro e w' ⟨rfl, rfl⟩
  refine hK _ _ hce ?_
  clear hK K
  try simp only [Act.put, List.setIfInBounds_toArray, List.set_cons_zero, List.set_cons_succ]
  repeat (refine wpHeld_take (v := ?_) (by rfl) (by rfl) (fun x hx => ?_) (by exact fun _ _ _ h => h) ?_; rotate_left; (have h1 := hx; (first | (go_simp; done) | (go_simp; with_reducible rfl))); simp only [Act.put, List.setIfInBounds_toArray, List.set_cons_zero, List.set_cons_succ])
  refine wpHeld_nil ?_
  dsimp only [List.drop]
  go_wp2_with fail
  generalize hx : getL lc g + 1 = x
  have Hx := Lib.hid hx
  clear hx
  have hst2 := (Hst1.out.set_new (o := g) (v := .int .i64 x) hmade.ge hmade.ne hmade.role).drew
  have hone := hmade.one hg x
  have hci2 : Ints (w1.setCell ⟨B, g, none⟩ (.int .i64 x)) _ lc := hci.kept (Chg.setCell (S := fun b => b = B) w1 _ rfl) (fun b hb e => by have h1 := Hclk1.out.2.2 b hb; rw [e, hmade.role] at h1; cases h1)
  have Hst2 := Lib.hid hst2
  clear hst2 hBg hBfg hmade hce hbd0 hbd'
  refine (join_any _ _ lc (List.replicate g 0 ++ [x]) (w1.setCell ⟨B, g, none⟩ (.int .i64 x)).drew hci2 hone (by omega) (by simp; omega)).mono ?_
  rintro e w2 ⟨v, rfl, hv1, hv2, hv3⟩
  obtain ⟨va, nl, vc, rfl⟩ := hv1.shape'
  have hl82 : (joinL lc (List.replicate g 0 ++ [x])).length ≤ 8 := by have := joinL_length lc (List.replicate g 0 ++ [x]); simp at this; omega
  obtain ⟨hst3, hclk3, _⟩ := Hst2.out.clk hv3 hv1 hv2 hl82
  have hL : joinL lc (List.replicate g 0 ++ [x]) = clockL rooms s ⟨g, 3, obj, at_⟩ := by
    show _ = tickL _ _
    unfold tickL
    rw [← Hx.out, Hlc.out]
    rw [show comesL rooms s ⟨g, 3, obj, at_⟩ = joinL (s.own g) (s.mu obj) from (by unfold comesL; simp)]
    rfl
  rw [hL] at hclk3
  have hce := hst3.e0
  have hcw := hst3.isw.co g hg
  have hfw := hst3.isw.fz (1 + g)
  have Hst3 := Lib.hid hst3
  have Hclk3 := Lib.hid hclk3
  clear hst3 hclk3 hv1 hv2 hv3 hone hci2 hci Hst2 hL
  go_wp2_with fail
  refine wp_region_order 6 [] (.take 0 (.take 1 (.take 2 (.take 3 (.take 4 (.take 5 (.done))))))) (fun x => x.cell? ⟨w.heap.size, 0, none⟩ = some (.int .i64 g)) (by kernel_rfl) (by kernel_rfl) hce ?_
  refine wpFree_nil ?_
  repeat (refine wpHeld_take (v := ?_) (by rfl) (by rfl) (fun x hx => ?_) (by exact fun _ _ _ h => h) ?_; rotate_left; (have h1 := hx; (first | (go_simp; done) | (go_simp; with_reducible rfl))); simp only [Act.put, List.setIfInBounds_toArray, List.set_cons_zero, List.set_cons_succ])
  refine wpHeld_nil ?_
  dsimp only [List.drop]
  have hst4 := Hst3.out.put_own hg Hclk3.out
  have hk0 := hst4.e0
  have hk1 := hst4.e1
  have hk2 := hst4.e2
  have hclk4 : Clk (w2.setCell ⟨W, 1 + g, none⟩ (.slice va nl vc)) _ _ _ := Hclk3.out.kept (Chg.setCell (S := fun b => b = W) w2 _ rfl) (fun b e => by rw [e, Hst3.out.isw.rW]; simp)
  have Hst4 := Lib.hid hst4
  have Hclk4 := Lib.hid hclk4
  clear hst4 hclk4 hce
  go_wp2
  go_ret
  have e : stepL rooms s ⟨g, 3, obj, at_⟩ = s.setOwn g (clockL rooms s ⟨g, 3, obj, at_⟩) := by
    unfold stepL leavesL
    first | (simp; done) | (simp; rfl)
  exact (St.state Hst4.out.drew e).done (Nat.le_add_right _ _) Hclk4.out

set_option maxRecDepth 100000 in
set_option maxHeartbeats 1600000 in
theorem event_k7 {w : World} {W : Nat} {ρ : Nat → Role} {rooms : List Int} {s : WS} {N : Nat} {m : WM} (h : IsW w W ρ rooms s N m) (hN : N ≤ 9000) (g : Nat) (hg : g < 8) (obj at_ : Int) (hwf : (Lit.int .i64 obj).wf = true)
     (hbd : getL (comesL rooms s ⟨g, 7, obj, at_⟩) g ≤ 9000000) :
    Calls Tryd.prog 42 #[.pointer (some ⟨W, 0, none⟩), .agg #[.int .i64 g, .int .i64 7, .int .i64 obj, .int .i64 at_]] w (EvPost w W ρ rooms s N ⟨g, 7, obj, at_⟩) := by
  have HBD : Hid (getL (joinL (s.own g) (s.am obj)) g ≤ 9000000) := by have h := hbd; rw [show comesL rooms s ⟨g, 7, obj, at_⟩ = joinL (s.own g) (s.am obj) from (by unfold comesL; simp)] at h; exact h
  clear hbd
  obtain ⟨i0, hi, hz0, hz1, hz2⟩ := info_parts info_int
  have hco := h.co g hg
  have hlt := h.lt
  have Hst0 := Lib.hid (fun (n : Nat) => St.begin (ev := ⟨g, 7, obj, at_⟩) h 38 129 n #[.slice none 0 0, .slice none 0 0, .slice none 0 0])
  generalize hvo : m.vo g = v0 at hco
  have Hvo := Lib.hid hvo
  clear hvo
  have hg0 : (0 : Int) ≤ (g : Int) := by omega
  have hg8 : (g : Int) < 8 := by omega
  have hg9 : (g : Int) < (g : Int) + 1 := by omega
  go_enter Tryd.func42, Tryd.ntmps42
  go_wp2_with fail
  go_quiet (fail)
  go_wp2_with fail
  have hst0d := (Hst0.out nq).drew
  have hc0 := hst0d.isw.own g (by omega) (by omega)
  rw [Hvo.out] at hc0
  have hat := hst0d.isw.am.at obj
  have hlk := hst0d.isw.am.1.lookup und_int Tryd.underlying74 (zero_ints _) hwf
  generalize (m.f2 obj).getD (.slice none 0 0) = vm at hat hlk
  have hc9 := hst0d.isw.c10
  have he2 := hst0d.e2
  refine wp_region_order 8 [] (.take 0 (.take 1 (.take 2 (.take 3 (.take 4 (.take 5 (.take 6 (.take 7 (.done))))))))) (fun x => x.cell? ⟨W, 10, none⟩ = some (.map (some m.M2)) ∧ x.cell? ⟨w.heap.size, 2, none⟩ = some (.int .i64 obj) ∧ (Instr.lookup 74 (.map (some m.M2)) (.int .i64 obj) false).run Tryd.prog x = .ok vm x) (by kernel_rfl) (by kernel_rfl) ⟨hc9, he2, hlk⟩ ?_
  refine wpFree_nil ?_
  repeat (refine wpHeld_take (v := ?_) (by rfl) (by rfl) (fun x hx => ?_) (by exact fun _ _ _ h => h) ?_; rotate_left; (obtain ⟨h1, h2, h3⟩ := hx; (first | (go_simp; done) | (go_simp; with_reducible rfl))); simp only [Act.put, List.setIfInBounds_toArray, List.set_cons_zero, List.set_cons_succ])
  refine wpHeld_nil ?_
  dsimp only [List.drop]
  have Hlk := Lib.hid hlk
  clear hlk hc9 he2
  go_wp2_with fail
  refine (join_any v0 vm (s.own g) (s.am obj) _ hc0.1 hat.1 (by have := hc0.2.1; omega) (by have := hat.2.1; omega)).mono ?_
  rintro e w0 ⟨v, rfl, hv1, hv2, hv3⟩
  obtain ⟨va', nl', vc', rfl⟩ := hv1.shape'
  have hl81 : (joinL (s.own g) (s.am obj)).length ≤ 8 := by have h1 := joinL_length (s.own g) (s.am obj); have h2 := hc0.2.1; have h3 := hat.2.1; omega
  obtain ⟨hst00, hclk00, _⟩ := hst0d.clk hv3 hv1 hv2 hl81
  clear hv1 hv2 hv3 hat Hlk hst0d hc0
  have hst0 := hst00
  have hclk0 := hclk00
  have hce0 := hst0.e0
  go_wp2_with (first | (at_make; refine wpList_make_full _ rfl _ _ 23 rfl 0 3 i0 (.int .i64 0) 1 Tryd.underlying23 hi hz0 hz1 .i64 .i64 _ _ (g + 1) rfl rfl ?d1 ?d2 ?d3 ?d4 (Nat.zero_le _) ?_))
  (try (case d1 => omega))
  (try (case d2 => omega))
  case d3 => first | omega | (rw [hz2]; omega)
  case d4 => unfold maxLen; omega
  intro w1 hown hgr
  obtain ⟨hst1, hmade⟩ := hst0.made hgr hown (by simp)
  have hclk1 := hclk0.kept (S := fun _ => False) (Chg.grown hgr (fun k hk => by cases hk)) (fun _ h => h.elim)
  have hce := hst1.e0
  have Hst1 := Lib.hid hst1
  have Hclk1 := Lib.hid hclk1
  clear hst1 hst0 hclk0 hclk1 hgr hown hi hce0
  generalize hB : w0.heap.size = B at hmade ⊢
  have HB := Lib.hid hB
  clear hB
  obtain ⟨lc, hlc⟩ : ∃ lc, lc = joinL (s.own g) (s.am obj) := ⟨_, rfl⟩
  have hci := Hclk1.out.1
  have hl8 := Hclk1.out.2.1
  rw [← hlc] at hci hl8
  have hbd' : getL lc g ≤ 9000000 := by rw [hlc]; exact HBD.out
  have hbd0 := getL_nonneg lc g
  have Hlc := Lib.hid hlc
  clear hlc
  have hBg := hmade.cell g (by omega)
  have hBfg := hmade.fz g
  go_wp2_with fail
  refine wp_region_order 8 [] (.take 0 (.take 1 (.take 2 (.take 3 (.take 4 (.take 5 (.one 6 (.take 7 (.done))))))))) (fun x => x.cell? ⟨w.heap.size, 0, none⟩ = some (.int .i64 g)) (by kernel_rfl) (by kernel_rfl) hce ?_
  refine wpFree_nil ?_
  repeat (refine wpHeld_take (v := ?_) (by rfl) (by rfl) (fun x hx => ?_) (by exact fun _ _ _ h => h) ?_; rotate_left; (have h1 := hx; (first | (go_simp; done) | (go_simp; with_reducible rfl))); simp only [Act.put, List.setIfInBounds_toArray, List.set_cons_zero, List.set_cons_succ])
  refine wpHeld_do (by rfl) (by rfl) (fun K hK => ?_)
  go_simp
  refine (get_ints (l := lc) (w := w1.drew) hci _).mono ?_
  rintro e w' ⟨rfl, rfl⟩
  refine hK _ _ hce ?_
  clear hK K
  try simp only [Act.put, List.setIfInBounds_toArray, List.set_cons_zero, List.set_cons_succ]
  repeat (refine wpHeld_take (v := ?_) (by rfl) (by rfl) (fun x hx => ?_) (by exact fun _ _ _ h => h) ?_; rotate_left; (have h1 := hx; (first | (go_simp; done) | (go_simp; with_reducible rfl))); simp only [Act.put, List.setIfInBounds_toArray, List.set_cons_zero, List.set_cons_succ])
  refine wpHeld_nil ?_
  dsimp only [List.drop]
  go_wp2_with fail
  generalize hx : getL lc g + 1 = x
  have Hx := Lib.hid hx
  clear hx
  have hst2 := (Hst1.out.set_new (o := g) (v := .int .i64 x) hmade.ge hmade.ne hmade.role).drew
  have hone := hmade.one hg x
  have hci2 : Ints (w1.setCell ⟨B, g, none⟩ (.int .i64 x)) _ lc := hci.kept (Chg.setCell (S := fun b => b = B) w1 _ rfl) (fun b hb e => by have h1 := Hclk1.out.2.2 b hb; rw [e, hmade.role] at h1; cases h1)
  have Hst2 := Lib.hid hst2
  clear hst2 hBg hBfg hmade hce hbd0 hbd'
  refine (join_any _ _ lc (List.replicate g 0 ++ [x]) (w1.setCell ⟨B, g, none⟩ (.int .i64 x)).drew hci2 hone (by omega) (by simp; omega)).mono ?_
  rintro e w2 ⟨v, rfl, hv1, hv2, hv3⟩
  obtain ⟨va, nl, vc, rfl⟩ := hv1.shape'
  have hl82 : (joinL lc (List.replicate g 0 ++ [x])).length ≤ 8 := by have := joinL_length lc (List.replicate g 0 ++ [x]); simp at this; omega
  obtain ⟨hst3, hclk3, _⟩ := Hst2.out.clk hv3 hv1 hv2 hl82
  have hL : joinL lc (List.replicate g 0 ++ [x]) = clockL rooms s ⟨g, 7, obj, at_⟩ := by
    show _ = tickL _ _
    unfold tickL
    rw [← Hx.out, Hlc.out]
    rw [show comesL rooms s ⟨g, 7, obj, at_⟩ = joinL (s.own g) (s.am obj) from (by unfold comesL; simp)]
    rfl
  rw [hL] at hclk3
  have hce := hst3.e0
  have hcw := hst3.isw.co g hg
  have hfw := hst3.isw.fz (1 + g)
  have Hst3 := Lib.hid hst3
  have Hclk3 := Lib.hid hclk3
  clear hst3 hclk3 hv1 hv2 hv3 hone hci2 hci Hst2 hL
  go_wp2_with fail
  refine wp_region_order 6 [] (.take 0 (.take 1 (.take 2 (.take 3 (.take 4 (.take 5 (.done))))))) (fun x => x.cell? ⟨w.heap.size, 0, none⟩ = some (.int .i64 g)) (by kernel_rfl) (by kernel_rfl) hce ?_
  refine wpFree_nil ?_
  repeat (refine wpHeld_take (v := ?_) (by rfl) (by rfl) (fun x hx => ?_) (by exact fun _ _ _ h => h) ?_; rotate_left; (have h1 := hx; (first | (go_simp; done) | (go_simp; with_reducible rfl))); simp only [Act.put, List.setIfInBounds_toArray, List.set_cons_zero, List.set_cons_succ])
  refine wpHeld_nil ?_
  dsimp only [List.drop]
  have hst4 := Hst3.out.put_own hg Hclk3.out
  have hk0 := hst4.e0
  have hk1 := hst4.e1
  have hk2 := hst4.e2
  have hclk4 : Clk (w2.setCell ⟨W, 1 + g, none⟩ (.slice va nl vc)) _ _ _ := Hclk3.out.kept (Chg.setCell (S := fun b => b = W) w2 _ rfl) (fun b e => by rw [e, Hst3.out.isw.rW]; simp)
  have Hst4 := Lib.hid hst4
  have Hclk4 := Lib.hid hclk4
  clear hst4 hclk4 hce
  have hst5 := (Hst4.out.drew).drew
  have hc10 := hst5.isw.c10
  have he2 := hst5.e2
  have ham := hst5.isw.am.1
  have Hst5 := Lib.hid hst5
  clear hst5
  go_wp2_with fail
  refine wp_region_order 7 [] (.take 0 (.take 1 (.take 2 (.take 3 (.take 4 (.take 5 (.take 6 (.done)))))))) (fun x => x.cell? ⟨W, 10, none⟩ = some (.map (some m.M2)) ∧ x.cell? ⟨w.heap.size, 2, none⟩ = some (.int .i64 obj)) (by kernel_rfl) (by kernel_rfl) ⟨hc10, he2⟩ ?_
  refine wpFree_nil ?_
  repeat (refine wpHeld_take (v := ?_) (by rfl) (by rfl) (fun x hx => ?_) (by exact fun _ _ _ h => h) ?_; rotate_left; (obtain ⟨h1, h2⟩ := hx; (first | (go_simp; done) | (go_simp; with_reducible rfl))); simp only [Act.put, List.setIfInBounds_toArray, List.set_cons_zero, List.set_cons_succ])
  refine wpHeld_nil ?_
  dsimp only [List.drop]
  go_wp2_with (at_mapUpdate; refine wpList_mapUpdate_raw _ rfl _ _ _ 74 rfl 3 23 und_int Tryd.underlying74 m.M2 N m.f2 rfl ham (by unfold maxLen; omega) obj _ rfl rfl hwf ?_; intro w5 hm5 hg5)
  have hf5 := Hst5.out.put_am Hclk4.out.drew.drew hm5 hg5
  have hclk5 := Hclk4.out.drew.drew.kept (Chg.grown (S := fun b => b = m.M2) hg5 (fun k hk => by cases hk; rfl)) (fun b e => by rw [e, Hst4.out.isw.r2]; simp)
  have Hf5 := Lib.hid hf5
  have Hclk5 := Lib.hid hclk5
  clear hf5 hclk5 hm5 hg5 ham hc10 he2
  go_wp2
  go_ret
  have e : stepL rooms s ⟨g, 7, obj, at_⟩ = { s.setOwn g (clockL rooms s ⟨g, 7, obj, at_⟩) with am := upd s.am obj (clockL rooms s ⟨g, 7, obj, at_⟩) } := by
    unfold stepL leavesL
    first | (simp; done) | (simp; rfl)
  exact (St.state Hf5.out e).done (by omega) Hclk5.out

set_option maxRecDepth 100000 in
set_option maxHeartbeats 1600000 in
theorem event_k4 {w : World} {W : Nat} {ρ : Nat → Role} {rooms : List Int} {s : WS} {N : Nat} {m : WM} (h : IsW w W ρ rooms s N m) (hN : N ≤ 9000) (g : Nat) (hg : g < 8) (obj at_ : Int) (hwf : (Lit.int .i64 obj).wf = true)
     (hbd : getL (comesL rooms s ⟨g, 4, obj, at_⟩) g ≤ 9000000) :
    Calls Tryd.prog 42 #[.pointer (some ⟨W, 0, none⟩), .agg #[.int .i64 g, .int .i64 4, .int .i64 obj, .int .i64 at_]] w (EvPost w W ρ rooms s N ⟨g, 4, obj, at_⟩) := by
  have HBD : Hid (getL (s.own g) g ≤ 9000000) := by have h := hbd; rw [show comesL rooms s ⟨g, 4, obj, at_⟩ = s.own g from (by unfold comesL; simp)] at h; exact h
  clear hbd
  obtain ⟨i0, hi, hz0, hz1, hz2⟩ := info_parts info_int
  have hco := h.co g hg
  have hlt := h.lt
  have Hst0 := Lib.hid (fun (n : Nat) => St.begin (ev := ⟨g, 4, obj, at_⟩) h 38 129 n #[.slice none 0 0, .slice none 0 0, .slice none 0 0])
  generalize hvo : m.vo g = v0 at hco
  have Hvo := Lib.hid hvo
  clear hvo
  have hg0 : (0 : Int) ≤ (g : Int) := by omega
  have hg8 : (g : Int) < 8 := by omega
  have hg9 : (g : Int) < (g : Int) + 1 := by omega
  go_enter Tryd.func42, Tryd.ntmps42
  go_wp2_with fail
  go_quiet (fail)
  have hc0 := (Hst0.out nq).isw.own g (by omega) (by omega)
  rw [Hvo.out] at hc0
  have hst0 := Hst0.out nq
  have hclk0 := hc0
  have hce0 := hst0.e0
  go_wp2_with (first | (at_make; refine wpList_make_full _ rfl _ _ 23 rfl 0 3 i0 (.int .i64 0) 1 Tryd.underlying23 hi hz0 hz1 .i64 .i64 _ _ (g + 1) rfl rfl ?d1 ?d2 ?d3 ?d4 (Nat.zero_le _) ?_))
  (try (case d1 => omega))
  (try (case d2 => omega))
  case d3 => first | omega | (rw [hz2]; omega)
  case d4 => unfold maxLen; omega
  intro w1 hown hgr
  obtain ⟨hst1, hmade⟩ := hst0.made hgr hown (by simp)
  have hclk1 := hclk0.kept (S := fun _ => False) (Chg.grown hgr (fun k hk => by cases hk)) (fun _ h => h.elim)
  have hce := hst1.e0
  have Hst1 := Lib.hid hst1
  have Hclk1 := Lib.hid hclk1
  clear hst1 hst0 hclk0 hclk1 hgr hown hi hce0
  generalize hB : w.heap.size + 1 + 1 = B at hmade ⊢
  have HB := Lib.hid hB
  clear hB
  obtain ⟨lc, hlc⟩ : ∃ lc, lc = s.own g := ⟨_, rfl⟩
  have hci := Hclk1.out.1
  have hl8 := Hclk1.out.2.1
  rw [← hlc] at hci hl8
  have hbd' : getL lc g ≤ 9000000 := by rw [hlc]; exact HBD.out
  have hbd0 := getL_nonneg lc g
  have Hlc := Lib.hid hlc
  clear hlc
  have hBg := hmade.cell g (by omega)
  have hBfg := hmade.fz g
  go_wp2_with fail
  refine wp_region_order 8 [] (.take 0 (.take 1 (.take 2 (.take 3 (.take 4 (.take 5 (.one 6 (.take 7 (.done))))))))) (fun x => x.cell? ⟨w.heap.size, 0, none⟩ = some (.int .i64 g)) (by kernel_rfl) (by kernel_rfl) hce ?_
  refine wpFree_nil ?_
  repeat (refine wpHeld_take (v := ?_) (by rfl) (by rfl) (fun x hx => ?_) (by exact fun _ _ _ h => h) ?_; rotate_left; (have h1 := hx; (first | (go_simp; done) | (go_simp; with_reducible rfl))); simp only [Act.put, List.setIfInBounds_toArray, List.set_cons_zero, List.set_cons_succ])
  refine wpHeld_do (by rfl) (by rfl) (fun K hK => ?_)
  go_simp
  refine (get_ints (l := lc) (w := w1.drew) hci _).mono ?_
  rintro e w' ⟨rfl, rfl⟩
  refine hK _ _ hce ?_
  clear hK K
  try simp only [Act.put, List.setIfInBounds_toArray, List.set_cons_zero, List.set_cons_succ]
  repeat (refine wpHeld_take (v := ?_) (by rfl) (by rfl) (fun x hx => ?_) (by exact fun _ _ _ h => h) ?_; rotate_left; (have h1 := hx; (first | (go_simp; done) | (go_simp; with_reducible rfl))); simp only [Act.put, List.setIfInBounds_toArray, List.set_cons_zero, List.set_cons_succ])
  refine wpHeld_nil ?_
  dsimp only [List.drop]
  go_wp2_with fail
  generalize hx : getL lc g + 1 = x
  have Hx := Lib.hid hx
  clear hx
  have hst2 := (Hst1.out.set_new (o := g) (v := .int .i64 x) hmade.ge hmade.ne hmade.role).drew
  have hone := hmade.one hg x
  have hci2 : Ints (w1.setCell ⟨B, g, none⟩ (.int .i64 x)) _ lc := hci.kept (Chg.setCell (S := fun b => b = B) w1 _ rfl) (fun b hb e => by have h1 := Hclk1.out.2.2 b hb; rw [e, hmade.role] at h1; cases h1)
  have Hst2 := Lib.hid hst2
  clear hst2 hBg hBfg hmade hce hbd0 hbd'
  refine (join_any _ _ lc (List.replicate g 0 ++ [x]) (w1.setCell ⟨B, g, none⟩ (.int .i64 x)).drew hci2 hone (by omega) (by simp; omega)).mono ?_
  rintro e w2 ⟨v, rfl, hv1, hv2, hv3⟩
  obtain ⟨va, nl, vc, rfl⟩ := hv1.shape'
  have hl82 : (joinL lc (List.replicate g 0 ++ [x])).length ≤ 8 := by have := joinL_length lc (List.replicate g 0 ++ [x]); simp at this; omega
  obtain ⟨hst3, hclk3, _⟩ := Hst2.out.clk hv3 hv1 hv2 hl82
  have hL : joinL lc (List.replicate g 0 ++ [x]) = clockL rooms s ⟨g, 4, obj, at_⟩ := by
    show _ = tickL _ _
    unfold tickL
    rw [← Hx.out, Hlc.out]
    rw [show comesL rooms s ⟨g, 4, obj, at_⟩ = s.own g from (by unfold comesL; simp)]
    rfl
  rw [hL] at hclk3
  have hce := hst3.e0
  have hcw := hst3.isw.co g hg
  have hfw := hst3.isw.fz (1 + g)
  have Hst3 := Lib.hid hst3
  have Hclk3 := Lib.hid hclk3
  clear hst3 hclk3 hv1 hv2 hv3 hone hci2 hci Hst2 hL
  go_wp2_with fail
  refine wp_region_order 6 [] (.take 0 (.take 1 (.take 2 (.take 3 (.take 4 (.take 5 (.done))))))) (fun x => x.cell? ⟨w.heap.size, 0, none⟩ = some (.int .i64 g)) (by kernel_rfl) (by kernel_rfl) hce ?_
  refine wpFree_nil ?_
  repeat (refine wpHeld_take (v := ?_) (by rfl) (by rfl) (fun x hx => ?_) (by exact fun _ _ _ h => h) ?_; rotate_left; (have h1 := hx; (first | (go_simp; done) | (go_simp; with_reducible rfl))); simp only [Act.put, List.setIfInBounds_toArray, List.set_cons_zero, List.set_cons_succ])
  refine wpHeld_nil ?_
  dsimp only [List.drop]
  have hst4 := Hst3.out.put_own hg Hclk3.out
  have hk0 := hst4.e0
  have hk1 := hst4.e1
  have hk2 := hst4.e2
  have hclk4 : Clk (w2.setCell ⟨W, 1 + g, none⟩ (.slice va nl vc)) _ _ _ := Hclk3.out.kept (Chg.setCell (S := fun b => b = W) w2 _ rfl) (fun b e => by rw [e, Hst3.out.isw.rW]; simp)
  have Hst4 := Lib.hid hst4
  have Hclk4 := Lib.hid hclk4
  clear hst4 hclk4 hce
  have hst5 := (Hst4.out.drew).drew
  have hc9 := hst5.isw.c9
  have he2 := hst5.e2
  have hmu := hst5.isw.mu
  have hat : Clk _ _ _ (s.mu obj) := hmu.at obj
  have hlk := hmu.1.lookup und_int Tryd.underlying74 (zero_ints _) hwf
  generalize hvm : (m.f1 obj).getD (.slice none 0 0) = vm at hat hlk
  have Hvm := Lib.hid hvm
  clear hvm
  have Hst5 := Lib.hid hst5
  have Hlk := Lib.hid hlk
  clear hst5 hlk
  go_wp2_with fail
  refine wp_region_order 15 [] (.take 0 (.take 1 (.take 2 (.take 3 (.take 4 (.take 5 (.take 6 (.take 7 (.take 8 (.take 9 (.take 10 (.take 11 (.take 12 (.take 13 (.one 14 (.done)))))))))))))))) (fun x => x.cell? ⟨W, 9, none⟩ = some (.map (some m.M1)) ∧ x.cell? ⟨w.heap.size, 2, none⟩ = some (.int .i64 obj) ∧ (Instr.lookup 74 (.map (some m.M1)) (.int .i64 obj) false).run Tryd.prog x = .ok vm x) (by kernel_rfl) (by kernel_rfl) ⟨hc9, he2, Hlk.out⟩ ?_
  refine wpFree_nil ?_
  repeat (refine wpHeld_take (v := ?_) (by rfl) (by rfl) (fun x hx => ?_) (by exact fun _ _ _ h => h) ?_; rotate_left; (obtain ⟨h1, h2, h3⟩ := hx; (first | (go_simp; done) | (go_simp; with_reducible rfl))); simp only [Act.put, List.setIfInBounds_toArray, List.set_cons_zero, List.set_cons_succ])
  refine wpHeld_do (by rfl) (by rfl) (fun K hK => ?_)
  go_simp
  refine (join_any vm (.slice va nl vc) (s.mu obj) (clockL rooms s ⟨g, 4, obj, at_⟩) _ hat.1 Hclk4.out.drew.drew.1 (by have := hat.2.1; omega) (by have := Hclk4.out.2.1; omega)).mono ?_
  rintro e w6 ⟨v, rfl, hv1, hv2, hv3⟩
  obtain ⟨va6, nl6, vc6, rfl⟩ := hv1.shape'
  have hl86 : (joinL (s.mu obj) (clockL rooms s ⟨g, 4, obj, at_⟩)).length ≤ 8 := by have h1 := joinL_length (s.mu obj) (clockL rooms s ⟨g, 4, obj, at_⟩); have h2 := Hclk4.out.2.1; have h3 := hat.2.1; omega
  obtain ⟨hst6, hclk6, hr6⟩ := Hst5.out.clk hv3 hv1 hv2 hl86
  have hclk46 := (Hclk4.out.drew.drew.role hr6).kept (S := fun _ => False) (Chg.of_new hv3) (fun _ h => h.elim)
  have hlk6 := hst6.isw.mu.1.lookup und_int Tryd.underlying74 (zero_ints _) hwf
  rw [Hvm.out] at hlk6
  refine hK _ _ ⟨hst6.isw.c9, hst6.e2, hlk6⟩ ?_
  clear hK K hlk6
  try simp only [Act.put, List.setIfInBounds_toArray, List.set_cons_zero, List.set_cons_succ]
  have hmu6 := hst6.isw.mu.1
  have Hst6 := Lib.hid hst6
  have Hclk6 := Lib.hid hclk6
  have Hclk46 := Lib.hid hclk46
  clear hst6 hclk6 hclk46 hat hmu hc9 he2 hv1 hv2 hv3
  refine wpHeld_nil ?_
  dsimp only [List.drop]
  go_wp2_with (at_mapUpdate; refine wpList_mapUpdate_raw _ rfl _ _ _ 74 rfl 3 23 und_int Tryd.underlying74 m.M1 N m.f1 rfl hmu6 (by unfold maxLen; omega) obj _ rfl rfl hwf ?_; intro w5 hm5 hg5)
  have hf5 := Hst6.out.put_mu Hclk6.out hm5 hg5
  have hclk5 := Hclk46.out.kept (Chg.grown (S := fun b => b = m.M1) hg5 (fun k hk => by cases hk; rfl)) (fun b e => by rw [e, Hst6.out.isw.r1]; simp)
  have Hf5 := Lib.hid hf5
  have Hclk5 := Lib.hid hclk5
  clear hf5 hclk5 hm5 hg5 hmu6
  go_wp2
  go_ret
  have e : stepL rooms s ⟨g, 4, obj, at_⟩ = { s.setOwn g (clockL rooms s ⟨g, 4, obj, at_⟩) with mu := upd s.mu obj (joinL (s.mu obj) (clockL rooms s ⟨g, 4, obj, at_⟩)) } := by
    unfold stepL leavesL
    first | (simp; done) | (simp; rfl)
  exact (St.state Hf5.out e).done (by omega) Hclk5.out

end Go.Proofs.YtkjbpkggcddnhaaDoor
