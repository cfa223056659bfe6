/- The walk of stockadelaw18.OrderReads. -/
import Derived.Test.YtkjbpkggcddnhaaDoorAlive
import Derived.Test.YtkjbpkggcddnhaaDoorWithin
namespace Go.Proofs.YtkjbpkggcddnhaaDoor
set_option linter.unusedVariables false
set_option linter.unusedSimpArgs false
open Go.RowKit Go.Maps

theorem info_event : (Tryd.prog.info? 38).map (fun i => (i.zero, i.size, i.bytes)) = some (some (.agg #[.int .i64 0, .int .i64 0, .int .i64 0, .int .i64 0]), 4, 32) := by kernel_rfl
/-- Two rows of events of the call's own, apart. -/
structure Rows2 (w0 : World) (v3 v4 : Value) (l3 l4 : List Ev) (wr : World) : Prop where
  below : Below w0.heap.size w0 wr
  o3 : wr.ownsRow 0 38 4 v3 l3.length (l3.flatMap evCells)
  o4 : wr.ownsRow 0 38 4 v4 l4.length (l4.flatMap evCells)
  b3 : ∀ b, v3.ownBlock = some b → w0.heap.size ≤ b
  b4 : ∀ b, v4.ownBlock = some b → w0.heap.size ≤ b
  ne : ∀ b, v3.ownBlock = some b → v4.ownBlock ≠ some b
section
variable {w0 wr wb : World} {v3 v4 v' : Value} {l3 l4 : List Ev}
theorem Rows2.new (h : Rows2 w0 v3 v4 l3 l4 wr) (hb : Below wr.heap.size wr wb) : Rows2 w0 v3 v4 l3 l4 wb :=
  ⟨h.below.trans (hb.mono h.below.size), ownsRow_chg h.o3 (Chg.of_new (S := fun _ => False) hb) (fun _ _ h => h), ownsRow_chg h.o4 (Chg.of_new (S := fun _ => False) hb) (fun _ _ h => h), h.b3, h.b4, h.ne⟩
theorem Rows2.push3 (h : Rows2 w0 v3 v4 l3 l4 wr) {e : Ev} (ho : wb.ownsRow 0 38 4 v' (l3.length + 1) (l3.flatMap evCells ++ evCells e)) (hg : wr.grownBy wb v3.ownBlock) (hl : Lies wr v3 v') : Rows2 w0 v' v4 (l3 ++ [e]) l4 wb := by
  have hs := h.below.size
  refine ⟨h.below.grown hg hs (fun k hk => h.b3 k hk), ?_, ownsRow_chg h.o4 (Chg.grown (S := fun b => v3.ownBlock = some b) hg (fun k hk => hk)) (fun b hb e => h.ne b e hb), fun b hb => ?_, h.b4, fun b hb e => ?_⟩
  · rw [List.length_append, List.flatMap_append]; simpa using ho
  · rcases hl with e | ⟨q, e, hq⟩
    · rw [e] at hb; exact h.b3 b hb
    · rw [e] at hb; cases hb; omega
  · rcases hl with e' | ⟨q, e', hq⟩
    · rw [e'] at hb; exact h.ne b hb e
    · rw [e'] at hb; cases hb; have := (h.o4.lt _ e).2; omega
theorem Rows2.push4 (h : Rows2 w0 v3 v4 l3 l4 wr) {e : Ev} (ho : wb.ownsRow 0 38 4 v' (l4.length + 1) (l4.flatMap evCells ++ evCells e)) (hg : wr.grownBy wb v4.ownBlock) (hl : Lies wr v4 v') : Rows2 w0 v3 v' l3 (l4 ++ [e]) wb := by
  have hs := h.below.size
  refine ⟨h.below.grown hg hs (fun k hk => h.b4 k hk), ownsRow_chg h.o3 (Chg.grown (S := fun b => v4.ownBlock = some b) hg (fun k hk => hk)) (fun b hb e => h.ne b hb e), ?_, h.b3, fun b hb => ?_, fun b hb e => ?_⟩
  · rw [List.length_append, List.flatMap_append]; simpa using ho
  · rcases hl with e | ⟨q, e, hq⟩
    · rw [e] at hb; exact h.b4 b hb
    · rw [e] at hb; cases hb; omega
  · rcases hl with e' | ⟨q, e', hq⟩
    · rw [e'] at e; exact h.ne b hb e
    · rw [e'] at e; cases e; have := (h.o3.lt _ hb).2; omega
end

theorem Rows2.setE {w0 wr : World} {v3 v4 : Value} {l3 l4 : List Ev} (h : Rows2 w0 v3 v4 l3 l4 wr) {E o : Nat} (u : Value) (hE : w0.heap.size ≤ E) (h3 : v3.ownBlock ≠ some E) (h4 : v4.ownBlock ≠ some E) : Rows2 w0 v3 v4 l3 l4 (wr.setCell ⟨E, o, none⟩ u) :=
  ⟨h.below.setCell hE _, ownsRow_chg h.o3 (Chg.setCell (S := fun b => b = E) wr u rfl) (fun b hb e => h3 (e ▸ hb)), ownsRow_chg h.o4 (Chg.setCell (S := fun b => b = E) wr u rfl) (fun b hb e => h4 (e ▸ hb)), h.b3, h.b4, h.ne⟩
theorem new_cells2 (w : World) (us us' : List Value) (T T' : Nat) : ∀ j y, us'[j]? = some y → ((w.alloc (.cells us.toArray T)).alloc (.cells us'.toArray T')).cell? ⟨w.heap.size + 1, j, none⟩ = some y := fun j y hj => by
  have h := new_cells (w.alloc (.cells us.toArray T)) us' T' j y hj
  rw [World.size_alloc] at h
  exact h
theorem one_cells4 (a b c d : Int) : ∀ u ∈ [Value.int .i64 a, .int .i64 b, .int .i64 c, .int .i64 d], u.oneCell' = true := by
  intro u hu
  simp at hu
  rcases hu with rfl | rfl | rfl | rfl <;> rfl
def noWrite (e : Ev) : Bool := !decide (e.kind = 2)
def ownPlace (e : Ev) : Ev := if isAcc e then { e with obj := e.g } else e
theorem ownPlace_form (e : Ev) (h : evForm e = true) : evForm (ownPlace e) = true := by
  unfold ownPlace
  split
  · rename_i ha
    obtain ⟨g, k, o, a⟩ := e
    obtain ⟨h1, h2, h3, h4, h5⟩ := evForm_true h
    unfold isAcc at ha
    simp only [Bool.or_eq_true, decide_eq_true_eq] at ha
    exact evForm_mk h1 h2 h3 h4 (fun _ => ⟨h1, h2⟩)
  · exact h
theorem filter_take_succ_ev {p : Ev → Bool} {S : List Ev} {j : Nat} (hj : j < S.length) : (S.take (j + 1)).filter p = (S.take j).filter p ++ if p (S.getD j default) then [S.getD j default] else [] := by
  rw [List.take_succ_eq_append_getElem hj, List.filter_append]
  have : S.getD j default = S[j] := by simp [hj]
  rw [this]
  by_cases h : p S[j] = true
  · simp [h]
  · simp [h]
theorem map_take_succ_ev {f : Ev → Ev} {S : List Ev} {j : Nat} (hj : j < S.length) : (S.take (j + 1)).map f = (S.take j).map f ++ [f (S.getD j default)] := by
  rw [List.take_succ_eq_append_getElem hj, List.map_append]
  simp [hj]

set_option maxRecDepth 100000 in
set_option maxHeartbeats 4000000 in
theorem orderReads_any {w : World} {vt : Value} {l : List Ev} {T : TypeId} {ev0 : Value} (hev : Evs w vt l) (hwf : ∀ e ∈ l, evWf e) (her : w.cell? ⟨0, 0, none⟩ = some (.iface T ev0)) :
    Calls Tryd.prog 4 #[vt] w fun e w' => e = .returned (.bool true) ∧ Below w.heap.size w w' := by
  obtain ⟨at', ct, rfl⟩ := hev.shape
  have Hev := Lib.hid hev
  have Her := Lib.hid her
  have Hwf := Lib.hid hwf
  clear hev her hwf
  go_enter Tryd.func4, Tryd.ntmps4
  go_wp2_with fail
  refine (alive_any Her.out).mono ?_
  rintro e w1 ⟨rfl, hb1⟩
  have Hb1 := Lib.hid hb1
  clear hb1
  by_cases hlen : 200 < l.length
  · have hlen' : (200 : Int) < (l.length : Int) := by omega
    go_wp2_with fail
    go_ret
    exact ⟨rfl, Hb1.out⟩
  have hlen' : (l.length : Int) ≤ 200 := by omega
  have hl200 : l.length ≤ 200 := by omega
  clear hlen
  go_wp2_with fail
  refine (form_any (Hev.out.new Hb1.out)).mono ?_
  rintro e w2 ⟨he, hb2⟩
  unfold formV at he
  have Hb2 := Lib.hid (Hb1.out.trans (hb2.mono Hb1.out.size))
  clear hb2
  cases hform : l.all evForm with
  | false =>
    rw [hform] at he
    subst he
    clear hform
    go_wp2_with fail
    go_ret
    exact ⟨rfl, Hb2.out⟩
  | true =>
    rw [hform] at he
    subst he
    have Hform := Lib.hid hform
    clear hform
    obtain ⟨ie, hie, z0, z1, z2⟩ := info_parts info_event
    go_wp2_with fail
    have hst : Rows2 w2 (.slice (some ⟨w2.heap.size, 0, none⟩) 0 0) (.slice (some ⟨w2.heap.size + 1, 0, none⟩) 0 0) [] [] ((w2.alloc (.cells #[] 38)).alloc (.cells #[] 38)) := by
      refine ⟨((Below.refl _ w2).alloc (Nat.le_refl _) _).alloc (by simp) _, ?_, ?_, ?_, ?_, ?_⟩
      · exact ownsRow_chg (World.ownsRow_made w2 #[] 0 (Nat.zero_le _) (Nat.zero_le _) rfl) (Chg.alloc (fun _ => False) _ _) (fun _ _ h => h)
      · have h : ((w2.alloc (.cells #[] 38)).alloc (.cells #[] 38)).ownsRow 0 38 4 (.slice (some ⟨(w2.alloc (.cells #[] 38)).heap.size, 0, none⟩) 0 0) 0 [] := World.ownsRow_made _ #[] 0 (Nat.zero_le _) (Nat.zero_le _) rfl
        rw [World.size_alloc] at h
        exact h
      · intro b hb; simp [Value.ownBlock] at hb; omega
      · intro b hb; simp [Value.ownBlock] at hb; omega
      · intro b hb e; simp [Value.ownBlock] at hb e; omega
    have Hst := Lib.hid hst
    clear hst
    go_wp2
    generalize hwA : (w2.alloc (.cells #[] 38)).alloc (.cells #[] 38) = wA at Hst ⊢
    clear hwA
    go_loopg [3, 4, 6, 25] (l.length) (fun gk s3 s4 s6 i wr => ∃ k : Nat, k ≤ l.length ∧ gk = l.length - k ∧ i = .int .i64 k ∧ Rows2 w2 s3 s4 ((l.take k).filter noWrite) ((l.take k).map ownPlace) wr)
    case atStart => exact ⟨0, Nat.zero_le _, rfl, rfl, Hst.out⟩
    case round =>
      obtain ⟨k, hk, rfl, rfl, hrow⟩ := hrel
      obtain ⟨wo, rfl⟩ : ∃ x, x = wr := ⟨_, rfl⟩
      by_cases hlt : k < l.length
      · obtain ⟨be, oe, ce, he, hbe, c0, c1, c2, c3⟩ := Hev.out.at hlt
        cases he
        have hb := Hb2.out.trans (hrow.below.mono Hb2.out.size)
        rw [← hb.cell (World.block_lt_of_cell? w _ c0)] at c0
        rw [← hb.cell (World.block_lt_of_cell? w _ c1)] at c1
        rw [← hb.cell (World.block_lt_of_cell? w _ c2)] at c2
        rw [← hb.cell (World.block_lt_of_cell? w _ c3)] at c3
        have hklt : (k : Int) < (l.length : Int) := by omega
        have hf1 := filter_take_succ_ev (p := noWrite) hlt
        have hf2 := map_take_succ_ev (f := ownPlace) hlt
        have hl1 : ((l.take k).filter noWrite).length ≤ 100000 := by
          have h1 := List.length_filter_le noWrite (l.take k)
          have h2 : (l.take k).length ≤ l.length := by rw [List.length_take]; omega
          omega
        have hl2 : ((l.take k).map ownPlace).length ≤ 100000 := by rw [List.length_map, List.length_take]; omega
        generalize l.getD k default = ev at c0 c1 c2 c3 hf1 hf2
        obtain ⟨g, kd, ob, ea⟩ := ev
        simp only at c0 c1 c2 c3
        generalize (l.take k).filter noWrite = l3 at hrow hf1 hl1
        generalize (l.take k).map ownPlace = l4 at hrow hf2 hl2
        obtain ⟨a3, k3, rfl⟩ := owns_shape_k hrow.o3
        obtain ⟨a4, k4, rfl⟩ := owns_shape_k hrow.o4
        have Hrow := Lib.hid hrow
        have Hf1 := Lib.hid hf1
        have Hf2 := Lib.hid hf2
        clear hrow hf1 hf2 hb
        by_cases h2 : kd = 2
        · obtain rfl : kd = 2 := h2
          have hr := Hrow.out.new (((Below.refl _ wo).alloc (Nat.le_refl _) (.cells #[.int .i64 g, .int .i64 2, .int .i64 g, .int .i64 ea] 38)).alloc (by simp) (.cells #[.int .i64 g, .int .i64 2, .int .i64 g, .int .i64 ea] 38))
          have hown := hr.o4
          have Hr := Lib.hid hr
          have Hcells := Lib.hid (new_cells2 wo [.int .i64 g, .int .i64 2, .int .i64 g, .int .i64 ea] [.int .i64 g, .int .i64 2, .int .i64 g, .int .i64 ea] 38 38)
          have Hone := Lib.hid (one_cells4 g 2 g ea)
          clear hr
          go_wp2_with (at_builtin; refine wpList_append_k rfl (.tmp 47) (.tmp 49) 22 (by rfl) 38 ie _ 4 32 Tryd.underlying22 hie z0 z1 z2 rfl (by decide) _ _ _ (by rfl) hown (wo.heap.size + 1) 1 [.int .i64 g, .int .i64 2, .int .i64 g, .int .i64 ea] (by rfl) rfl Hcells.out Hone.out hl2 (by omega) ?_)
          rintro v4' w4 hown4 hg4 hl4 q4 cp4 rfl
          have hr4 := Hr.out.push4 (e := ⟨g, 2, g, ea⟩) hown4 hg4 hl4
          have Hr4 := Lib.hid hr4
          clear hr4 hown4 hg4 hl4 hown
          go_wp2_with fail
          go_roundg (l.length - (k + 1))
          case measure => omega
          case rel => exact ⟨k + 1, by omega, rfl, by go_num, by rw [Hf1.out, Hf2.out]; simpa [noWrite, ownPlace, isAcc] using Hr4.out⟩
        · have h2' : (kd == 2) = false := beq_false_of_ne h2
          have h2'' : (kd != 2) = true := by simp [h2]
          have hr := Hrow.out.new (((Below.refl _ wo).alloc (Nat.le_refl _) (.cells #[.int .i64 g, .int .i64 kd, .int .i64 ob, .int .i64 ea] 38)).alloc (by simp) (.cells #[.int .i64 g, .int .i64 kd, .int .i64 ob, .int .i64 ea] 38))
          have hown := hr.o3
          have hb4lt := (hr.o4.lt · ·)
          have hev0 : EvAt ((wo.alloc (.cells #[.int .i64 g, .int .i64 kd, .int .i64 ob, .int .i64 ea] 38)).alloc (.cells #[.int .i64 g, .int .i64 kd, .int .i64 ob, .int .i64 ea] 38)) wo.heap.size ⟨g, kd, ob, ea⟩ := (EvAt.made wo ⟨g, kd, ob, ea⟩ 38).alloc _
          have hfz0 : ∀ o, ((wo.alloc (.cells #[.int .i64 g, .int .i64 kd, .int .i64 ob, .int .i64 ea] 38)).alloc (.cells #[.int .i64 g, .int .i64 kd, .int .i64 ob, .int .i64 ea] 38)).frozen? ⟨wo.heap.size, o, none⟩ = false := fun o => by
            have h1 := Below.heap_alloc (wo.alloc (.cells #[.int .i64 g, .int .i64 kd, .int .i64 ob, .int .i64 ea] 38)) (.cells #[.int .i64 g, .int .i64 kd, .int .i64 ob, .int .i64 ea] 38) wo.heap.size (by simp)
            rw [heap_alloc_new wo (.cells #[.int .i64 g, .int .i64 kd, .int .i64 ob, .int .i64 ea] 38)] at h1
            unfold World.frozen?
            rw [h1]
            simp
          have hsz0 : ((wo.alloc (.cells #[.int .i64 g, .int .i64 kd, .int .i64 ob, .int .i64 ea] 38)).alloc (.cells #[.int .i64 g, .int .i64 kd, .int .i64 ob, .int .i64 ea] 38)).heap.size = wo.heap.size + 1 + 1 := by simp
          have h3lt : ∀ b, (Value.slice a3 l3.length k3).ownBlock = some b → b < wo.heap.size := fun b hb => (Hrow.out.o3.lt b hb).2
          have h4lt : ∀ b, (Value.slice a4 l4.length k4).ownBlock = some b → b < wo.heap.size := fun b hb => (Hrow.out.o4.lt b hb).2
          have hbel := Hrow.out.below.size
          have Hr := Lib.hid hr
          have Hev0 := Lib.hid hev0
          have Hfz0 := Lib.hid hfz0
          have Hsz0 := Lib.hid hsz0
          have H3lt := Lib.hid h3lt
          have H4lt := Lib.hid h4lt
          have Hcells := Lib.hid (new_cells2 wo [.int .i64 g, .int .i64 kd, .int .i64 ob, .int .i64 ea] [.int .i64 g, .int .i64 kd, .int .i64 ob, .int .i64 ea] 38 38)
          have Hone := Lib.hid (one_cells4 g kd ob ea)
          clear hr hev0 hfz0 hsz0 h3lt h4lt hb4lt
          go_wp2_with (at_builtin; refine wpList_append_k rfl (.tmp 32) (.tmp 34) 22 (by rfl) 38 ie _ 4 32 Tryd.underlying22 hie z0 z1 z2 rfl (by decide) _ _ _ (by rfl) hown (wo.heap.size + 1) 1 [.int .i64 g, .int .i64 kd, .int .i64 ob, .int .i64 ea] (by rfl) rfl Hcells.out Hone.out hl1 (by omega) ?_)
          rintro v3' w4 hown4 hg4 hl4 q4 cp4 rfl
          have hr4 := Hr.out.push3 (e := ⟨g, kd, ob, ea⟩) hown4 hg4 hl4
          have hch : Chg (fun b => (Value.slice a3 l3.length k3).ownBlock = some b) _ w4 := Chg.grown hg4 (fun q hq => hq)
          have hne : ¬ (Value.slice a3 l3.length k3).ownBlock = some wo.heap.size := fun e => by have := H3lt.out _ e; omega
          have hev4 := Hev0.out.kept hch hne
          have hfz4 : w4.frozen? ⟨wo.heap.size, 2, none⟩ = false := by
            rw [hch.frozen (a := ⟨wo.heap.size, 2, none⟩) (by rw [Hsz0.out]; show wo.heap.size < _; omega) hne]
            exact Hfz0.out 2
          have hsz4 := hch.size
          rw [Hsz0.out] at hsz4
          have hE3 : (Value.slice (some ⟨q4, 0, none⟩) (l3.length + 1) cp4).ownBlock ≠ some wo.heap.size := fun e => by
            rcases hl4 with e' | ⟨q, e', hq⟩
            · rw [e'] at e; exact hne e
            · rw [e'] at e; cases e; rw [Hsz0.out] at hq; omega
          have hE4 : (Value.slice a4 l4.length k4).ownBlock ≠ some wo.heap.size := fun e => by have := H4lt.out _ e; omega
          have e0 := hev4.c0
          have e1 := hev4.c1
          have e2 := hev4.c2
          have e3 := hev4.c3
          simp only at e0 e1 e2 e3
          have Hr4 := Lib.hid hr4
          have HE3 := Lib.hid hE3
          have HE4 := Lib.hid hE4
          have hElt : wo.heap.size < w4.heap.size := by omega
          clear hr4 hch hne hev4 hE3 hE4 hown hown4 hg4 hl4
          by_cases h1 : kd = 1
          · obtain rfl : kd = 1 := h1
            have hrs := Hr4.out.setE (E := wo.heap.size) (o := 2) (.int .i64 g) hbel HE3.out HE4.out
            have hrn := hrs.new ((Below.refl _ _).alloc (Nat.le_refl _) (.cells #[.int .i64 g, .int .i64 1, .int .i64 g, .int .i64 ea] 38))
            have hown := hrn.o4
            have hcl := new_cells (w4.setCell ⟨wo.heap.size, 2, none⟩ (.int .i64 g)) [.int .i64 g, .int .i64 1, .int .i64 g, .int .i64 ea] 38
            rw [show (w4.setCell ⟨wo.heap.size, 2, none⟩ (.int .i64 g)).heap.size = w4.heap.size by simp [World.setCell]] at hcl
            have Hrn := Lib.hid hrn
            have Hcl := Lib.hid hcl
            have Hone2 := Lib.hid (one_cells4 g 1 g ea)
            clear hrs hrn hcl
            go_wp2_with (at_builtin; refine wpList_append_k rfl (.tmp 47) (.tmp 49) 22 (by rfl) 38 ie _ 4 32 Tryd.underlying22 hie z0 z1 z2 rfl (by decide) _ _ _ (by rfl) hown w4.heap.size 1 [.int .i64 g, .int .i64 1, .int .i64 g, .int .i64 ea] (by rfl) rfl Hcl.out Hone2.out hl2 (by omega) ?_)
            rintro v4' w5 hown5 hg5 hl5 q5 cp5 rfl
            have hr5 := Hrn.out.push4 (e := ⟨g, 1, g, ea⟩) hown5 hg5 hl5
            have Hr5 := Lib.hid hr5
            clear hr5 hown5 hg5 hl5 hown
            go_wp2_with fail
            go_roundg (l.length - (k + 1))
            case measure => omega
            case rel => exact ⟨k + 1, by omega, rfl, by go_num, by rw [Hf1.out, Hf2.out]; simpa [noWrite, ownPlace, isAcc] using Hr5.out⟩
          · have h1' : (kd == 1) = false := beq_false_of_ne h1
            have hrn := Hr4.out.new ((Below.refl _ _).alloc (Nat.le_refl _) (.cells #[.int .i64 g, .int .i64 kd, .int .i64 ob, .int .i64 ea] 38))
            have hown := hrn.o4
            have hcl := new_cells w4 [.int .i64 g, .int .i64 kd, .int .i64 ob, .int .i64 ea] 38
            have Hrn := Lib.hid hrn
            have Hcl := Lib.hid hcl
            clear hrn hcl
            go_wp2_with (at_builtin; refine wpList_append_k rfl (.tmp 47) (.tmp 49) 22 (by rfl) 38 ie _ 4 32 Tryd.underlying22 hie z0 z1 z2 rfl (by decide) _ _ _ (by rfl) hown w4.heap.size 1 [.int .i64 g, .int .i64 kd, .int .i64 ob, .int .i64 ea] (by rfl) rfl Hcl.out Hone.out hl2 (by omega) ?_)
            rintro v4' w5 hown5 hg5 hl5 q5 cp5 rfl
            have hr5 := Hrn.out.push4 (e := ⟨g, kd, ob, ea⟩) hown5 hg5 hl5
            have Hr5 := Lib.hid hr5
            clear hr5 hown5 hg5 hl5 hown
            have hnw : noWrite ⟨g, kd, ob, ea⟩ = true := by simp [noWrite, h2]
            have hop : ownPlace ⟨g, kd, ob, ea⟩ = ⟨g, kd, ob, ea⟩ := by simp [ownPlace, isAcc, h1, h2]
            have Hnw := Lib.hid hnw
            have Hop := Lib.hid hop
            clear hnw hop
            go_wp2_with fail
            go_roundg (l.length - (k + 1))
            case measure => omega
            case rel => exact ⟨k + 1, by omega, rfl, by go_num, by rw [Hf1.out, Hf2.out, Hnw.out, Hop.out]; exact Hr5.out⟩
      · obtain rfl : k = l.length := by omega
        rw [List.take_length] at hrow
        have hsh3 := owns_shape_k hrow.o3
        have hsh4 := owns_shape_k hrow.o4
        rw [List.length_map] at hsh4
        have hl3 : (l.filter noWrite).length ≤ 200 := Nat.le_trans (List.length_filter_le _ _) hl200
        have hl4 : (l.map ownPlace).length ≤ 200 := by rw [List.length_map]; exact hl200
        have ht3 : Trace (l.filter noWrite) [] := ⟨by omega, fun e he => (Hwf.out e (List.mem_filter.1 he).1).2.2.1, fun r hr => by cases hr⟩
        have ht4 : Trace (l.map ownPlace) [] := ⟨by omega, fun e he => by
          obtain ⟨e0, h0, rfl⟩ := List.mem_map.1 he
          have := Hwf.out e0 h0
          unfold ownPlace
          split
          · exact this.1
          · exact this.2.2.1, fun r hr => by cases hr⟩
        have hf3 : (l.filter noWrite).all evForm = true := by
          rw [List.all_eq_true]
          exact fun e he => List.all_eq_true.1 Hform.out e (List.mem_filter.1 he).1
        have hf4 : (l.map ownPlace).all evForm = true := by
          rw [List.all_eq_true]
          intro e he
          obtain ⟨e0, h0, rfl⟩ := List.mem_map.1 he
          exact ownPlace_form e0 (List.all_eq_true.1 Hform.out e0 h0)
        have hz3 : racesL [] (l.filter noWrite) = [] := no_races_reads fun e he => by
          have := (List.mem_filter.1 he).2
          simpa [noWrite] using this
        have hz4 : racesL [] (l.map ownPlace) = [] := no_races_own fun e he ha => by
          obtain ⟨e0, h0, rfl⟩ := List.mem_map.1 he
          unfold ownPlace at ha ⊢
          split
          · rfl
          · rename_i hn
            rw [if_neg hn] at ha
            exact absurd ha hn
        have hev3 : Evs wo _ (l.filter noWrite) := SlAt.of_owns hrow.o3 (by omega)
        have hev4 : Evs wo _ (l.map ownPlace) := SlAt.of_owns hrow.o4 (by omega)
        have hbo := Hb2.out.trans (hrow.below.mono Hb2.out.size)
        have hero : wo.cell? ⟨0, 0, none⟩ = some (.iface T ev0) := (hbo.cell (World.block_lt_of_cell? w _ Her.out)).trans Her.out
        have Hc3 := Lib.hid (races_any ht3 hev3 (Ints.nil wo) hero)
        have Hc4 := Lib.hid (fun w' (hb : Below wo.heap.size wo w') => races_any ht4 (hev4.new hb) (Ints.nil w') ((hb.cell (World.block_lt_of_cell? wo _ hero)).trans hero))
        obtain ⟨a3, c3, rfl⟩ := hsh3
        obtain ⟨a4, c4, rfl⟩ := hsh4
        have Hf3 := Lib.hid hf3
        have Hf4 := Lib.hid hf4
        have Hz3 := Lib.hid hz3
        have Hz4 := Lib.hid hz4
        have Hbo := Lib.hid hbo
        clear ht3 ht4 hf3 hf4 hz3 hz4 hev3 hev4 hero hrow hbo hl3 hl4
        go_wp2_with fail
        refine Hc3.out.mono ?_
        rintro e w5 ⟨hb5, hres⟩
        rcases hres with ⟨hf, _⟩ | ⟨_, va, rfl, hva⟩
        · rw [Hf3.out] at hf; cases hf
        rw [Hz3.out] at hva
        obtain ⟨aa, ca, rfl⟩ := hva.shape
        have Hb5 := Lib.hid hb5
        clear hva hb5
        go_wp2_with fail
        refine (Hc4.out _ Hb5.out).mono ?_
        rintro e w6 ⟨hb6, hres⟩
        rcases hres with ⟨hf, _⟩ | ⟨_, vb, rfl, hvb⟩
        · rw [Hf4.out] at hf; cases hf
        rw [Hz4.out] at hvb
        obtain ⟨ab, cb, rfl⟩ := hvb.shape
        have Hb6 := Lib.hid (Hb5.out.trans (hb6.mono Hb5.out.size))
        clear hvb hb6
        simp only [List.length_nil]
        go_wp2_with fail
        go_ret
        exact ⟨rfl, Hbo.out.trans (Hb6.out.mono Hbo.out.size)⟩
end Go.Proofs.YtkjbpkggcddnhaaDoor
