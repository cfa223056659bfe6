/- The walk of stockadelaw18.OrderTells. -/
import Derived.Test.YtkjbpkggcddnhaaDoorBefore
import Derived.Test.YtkjbpkggcddnhaaDoorClockR
import Derived.Test.YtkjbpkggcddnhaaDoorNum
import Derived.Test.YtkjbpkggcddnhaaDoorChains
import Derived.Test.YtkjbpkggcddnhaaDoorEq
namespace Go.Proofs.YtkjbpkggcddnhaaDoor
set_option linter.unusedVariables false
set_option linter.unusedSimpArgs false
open Go.RowKit

theorem num_range {W : World} {A : Nat → Addr} (h : ErrsAt W A) : Calls Tryd.prog 19 #[errV (A 0)] W fun e w' => e = .returned (.int .i64 1) ∧ Below W.heap.size W w' := num_any h (j := 0) (by decide)
theorem before_hb {rooms : List Int} {l : List Ev} (hl : l.all evForm = true) {a b : Nat} (ha : a < l.length) (hb : b < l.length) : beforeL rooms l a b = hbL rooms l a b := by
  unfold beforeL
  rw [Int.toNat_natCast, Int.toNat_natCast]
  by_cases h : a < b
  · rw [ahead_hb (form_nonneg hl) h hb, decide_eq_true (by omega)]; rfl
  · rw [decide_eq_false (by omega), Bool.false_and]
    cases hh : hbL rooms l a b with
    | false => rfl
    | true => have := hbD_lt b hh; omega
theorem form_range {l : List Ev} (hl : l.all evForm = true) : ∀ e ∈ l, 0 ≤ e.g ∧ e.g < 8 := fun e he => by
  obtain ⟨h1, h2, _⟩ := evForm_true (List.all_eq_true.1 hl e he)
  exact ⟨h1, h2⟩

theorem ClksAt.get {w : World} {v : Value} {L : List (List Int)} (h : ClksAt w v L) {j : Nat} (hj : j < L.length) : ∃ b off cap x, v = .slice (some ⟨b, off, none⟩) L.length cap ∧ w.cell? ⟨b, off + j, none⟩ = some x ∧ Ints w x (L.getD j []) := by
  obtain ⟨vs, h1, h2⟩ := h
  rcases h1.2.2 with ⟨rfl, e⟩ | ⟨b, off, cap, rfl, _, _, hc⟩
  · omega
  · refine ⟨b, off, cap, vs.getD j undef, rfl, ?_, h2 j hj⟩
    rw [hc j (by omega), List.getD_eq_getElem?_getD]
    have hl : j < vs.length := by rw [h1.1]; omega
    rw [List.getElem?_eq_getElem hl]; rfl
theorem MatAt.get {w : World} {O n k : Nat} {M : Nat → Nat → Bool} (h : MatAt w (.slice (some ⟨O, 0, none⟩) n k) n M) {i j : Nat} (hi : i < n) (hj : j < n) : ∃ R, w.cell? ⟨O, i, none⟩ = some (.slice (some ⟨R, 0, none⟩) n n) ∧ w.cell? ⟨R, j, none⟩ = some (.bool (M i j)) := by
  obtain ⟨O', R, he, _, _, h3, h4⟩ := h
  cases he
  exact ⟨R i, h3 i hi, h4 i j hi hj⟩

set_option maxRecDepth 100000 in
set_option maxHeartbeats 16000000 in
theorem tells_any {w : World} {vt vr : Value} {l : List Ev} {rooms : List Int} {A : Nat → Addr} (a b : Int) (hev : Evs w vt l) (hr : Ints w vr rooms) (hwf : ∀ e ∈ l, evWf e) (hrm : ∀ r ∈ rooms, (Lit.int .i64 r).wf = true) (hE : ErrsAt w A) :
    Calls Tryd.prog 6 #[.agg #[vt, vr, .int .i64 a, .int .i64 b]] w fun e w' => e = .returned (.bool true) ∧ Below w.heap.size w w' := by
  obtain ⟨at', ct, rfl⟩ := hev.shape
  obtain ⟨ar, cr, rfl⟩ := hr.shape
  have Hev := Lib.hid hev
  have Hr := Lib.hid hr
  have HE := Lib.hid hE
  have Hwf := Lib.hid hwf
  have Hrm := Lib.hid hrm
  have hrl := hr.len
  have hel := hev.2.1
  clear hev hwf hr hrm hE
  go_enter Tryd.func6, Tryd.ntmps6
  go_wp2_with fail
  have hc := new_cells w [.slice at' l.length ct, .slice ar rooms.length cr, .int .i64 a, .int .i64 b] 40
  have d0 := hc 0 _ rfl
  have d1 := hc 1 _ rfl
  have d2 := hc 2 _ rfl
  have d3 := hc 3 _ rfl
  clear hc
  go_quiet (fail)
  go_wp2_with fail
  have hb0 : Below w.heap.size w ((w.alloc (.cells #[.slice at' l.length ct, .slice ar rooms.length cr, .int .i64 a, .int .i64 b] 40)).drewN nq) := below_drewN ((Below.refl _ w).alloc (Nat.le_refl _) _) nq
  refine (alive_any ((HE.out.new hb0).sent 0 (by decide)).cell).mono ?_
  rintro e w1 ⟨rfl, hb1⟩
  have Hb1 := Lib.hid (hb0.trans (hb1.mono hb0.size))
  clear hb0 hb1 d0 d1 d2 d3
  by_cases h2 : 60 < l.length
  · have h2' : (60 : Int) < (l.length : Int) := by omega
    go_wp2_with fail
    go_ret
    exact ⟨rfl, Hb1.out⟩
  have h2' : (l.length : Int) ≤ 60 := by omega
  by_cases h3 : 100 < rooms.length
  · have h3' : (100 : Int) < (rooms.length : Int) := by omega
    go_wp2_with fail
    go_ret
    exact ⟨rfl, Hb1.out⟩
  have h3' : (rooms.length : Int) ≤ 100 := by omega
  have ht : Trace l rooms := ⟨by omega, fun e he => (Hwf.out e he).2.2.1, fun r hr => le_of_wf (Hrm.out r hr)⟩
  have Ht := Lib.hid ht
  clear ht
  go_wp2_with fail
  refine (clocks_any Ht.out (Hev.out.new Hb1.out) (Hr.out.new Hb1.out) ((HE.out.new Hb1.out).sent 0 (by decide)).cell).mono ?_
  rintro e w2 ⟨hb2, hres⟩
  have Hb2 := Lib.hid (Hb1.out.trans (hb2.mono Hb1.out.size))
  clear hb2
  rcases hres with ⟨hf, rfl⟩ | ⟨hf, va, rfl, hva⟩
  · have Hf := Lib.hid hf
    have hV : beforeV rooms l a b (errV (A 0)) = .tuple #[.bool false, errV (A 0)] := by unfold beforeV inside; rw [hf]; simp
    have hK : checkV l (errV (A 0)) = errV (A 0) := by unfold checkV; rw [hf]; simp
    have hFm : formV l = .bool false := by unfold formV; rw [hf]
    have hbf := before_any Ht.out (Hev.out.new Hb2.out) (Hr.out.new Hb2.out) ((HE.out.new Hb2.out).sent 0 (by decide)).cell a b
    rw [show (Value.iface 213 (.pointer (some (A 0)))) = errV (A 0) from rfl, hV] at hbf
    have Hbf := Lib.hid hbf
    clear hf hV hbf
    go_wp2_with fail
    refine Hbf.out.mono ?_
    rintro e w3 ⟨rfl, hb3⟩
    have Hb3 := Lib.hid (Hb2.out.trans (hb3.mono Hb2.out.size))
    clear hb3
    have hck := check_any (Hev.out.new Hb3.out) (errV (A 0)) ((HE.out.new Hb3.out).sent 0 (by decide)).cell
    rw [hK] at hck
    have Hck := Lib.hid hck
    clear hck hK
    unfold errV
    go_wp2_with fail
    refine Hck.out.mono ?_
    rintro e w4 ⟨rfl, hb4⟩
    have Hb4 := Lib.hid (Hb3.out.trans (hb4.mono Hb3.out.size))
    clear hb4
    have hf5 := form_any (Hev.out.new Hb4.out)
    rw [hFm] at hf5
    have Hf5 := Lib.hid hf5
    clear hf5 hFm
    unfold errV
    go_wp2_with fail
    refine Hf5.out.mono ?_
    rintro e w5 ⟨rfl, hb5⟩
    have Hb5 := Lib.hid (Hb4.out.trans (hb5.mono Hb4.out.size))
    clear hb5
    go_wp2_with fail
    have hn6 := num_range (HE.out.new Hb5.out)
    unfold errV at hn6
    refine hn6.mono ?_
    rintro e w6 ⟨rfl, hb6⟩
    have Hb6 := Lib.hid (Hb5.out.trans (hb6.mono Hb5.out.size))
    clear hb6 hn6
    go_wp2_with fail
    have hn7 := num_range (HE.out.new Hb6.out)
    unfold errV at hn7
    refine hn7.mono ?_
    rintro e w7 ⟨rfl, hb7⟩
    have Hb7 := Lib.hid (Hb6.out.trans (hb7.mono Hb6.out.size))
    clear hb7 hn7
    go_wp2_with fail
    have hn8 := num_range (HE.out.new Hb7.out)
    unfold errV at hn8
    refine hn8.mono ?_
    rintro e w8 ⟨rfl, hb8⟩
    have Hb8 := Lib.hid (Hb7.out.trans (hb8.mono Hb7.out.size))
    clear hb8 hn8
    go_wp2_with fail
    go_ret
    exact ⟨rfl, Hb8.out⟩
  · have Hva := Lib.hid hva
    have hvlen : ∃ av cv, va = .slice av l.length cv := by
      have := hva.shape
      rw [clocksL_length] at this
      exact this
    obtain ⟨av, cv, rfl⟩ := hvlen
    clear hva
    have hK : checkV l (errV (A 0)) = .nilIface := by unfold checkV; rw [hf]; simp
    have hFm : formV l = .bool true := by unfold formV; rw [hf]
    have Hf := Lib.hid hf
    clear hf
    have hbf := before_any Ht.out (Hev.out.new Hb2.out) (Hr.out.new Hb2.out) ((HE.out.new Hb2.out).sent 0 (by decide)).cell a b
    rw [show (Value.iface 213 (.pointer (some (A 0)))) = errV (A 0) from rfl] at hbf
    obtain ⟨vb, ve, hV, hVr⟩ : ∃ vb ve, beforeV rooms l a b (errV (A 0)) = .tuple #[.bool vb, ve] ∧ ((inside l a b = true ∧ vb = beforeL rooms l a b ∧ ve = .nilIface) ∨ (inside l a b = false ∧ vb = false ∧ ve = errV (A 0))) := by
      unfold beforeV
      cases hi : inside l a b with
      | true => exact ⟨_, _, rfl, .inl ⟨rfl, rfl, rfl⟩⟩
      | false => exact ⟨_, _, rfl, .inr ⟨rfl, rfl, rfl⟩⟩
    rw [hV] at hbf
    have HV := Lib.hid hVr
    have Hbf := Lib.hid hbf
    clear hV hVr hbf
    go_wp2_with fail
    refine Hbf.out.mono ?_
    rintro e w3 ⟨rfl, hb3⟩
    have Hb3 := Lib.hid (Hb2.out.trans (hb3.mono Hb2.out.size))
    replace Hva := Lib.hid (Hva.out.new hb3)
    clear hb3
    have hck := check_any (Hev.out.new Hb3.out) (errV (A 0)) ((HE.out.new Hb3.out).sent 0 (by decide)).cell
    rw [hK] at hck
    have Hck := Lib.hid hck
    clear hck hK
    go_wp2_with fail
    refine Hck.out.mono ?_
    rintro e w4 ⟨rfl, hb4⟩
    have Hb4 := Lib.hid (Hb3.out.trans (hb4.mono Hb3.out.size))
    replace Hva := Lib.hid (Hva.out.new hb4)
    clear hb4
    have hf5 := form_any (Hev.out.new Hb4.out)
    rw [hFm] at hf5
    have Hf5 := Lib.hid hf5
    clear hf5 hFm
    go_wp2_with fail
    refine Hf5.out.mono ?_
    rintro e w5 ⟨rfl, hb5⟩
    have Hb5 := Lib.hid (Hb4.out.trans (hb5.mono Hb4.out.size))
    replace Hva := Lib.hid (Hva.out.new hb5)
    clear hb5
    go_wp2_with fail
    refine (refBefore_any Ht.out (Hev.out.new Hb5.out) (Hr.out.new Hb5.out)).mono ?_
    rintro e w6 ⟨rfl, R, hm6⟩
    have Hb6 := Lib.hid (Hb5.out.trans (hm6.below.mono Hb5.out.size))
    have Hm := Lib.hid hm6.at
    replace Hva := Lib.hid (Hva.out.new (hm6.below))
    clear hm6
    go_wp2_with fail
    go_loopg [13, 91] (l.length) (fun gk s13 i wr => ∃ k : Nat, k ≤ l.length ∧ gk = l.length - k ∧ i = .int .i64 k ∧ Below w6.heap.size w6 wr)
    case atStart => exact ⟨0, Nat.zero_le _, rfl, rfl, Below.refl _ _⟩
    case round =>
      obtain ⟨k, hk, rfl, rfl, hbw⟩ := hrel
      have Hb7 := Lib.hid (Hb6.out.trans (hbw.mono Hb6.out.size))
      have Hbw := Lib.hid hbw
      clear hbw
      by_cases hlt : k < l.length
      · have hkI : (k : Int) < (l.length : Int) := by omega
        obtain ⟨bv, ov, cv', vk, he, x0, hix⟩ := (Hva.out.new Hbw.out).get (j := k) (by rw [clocksL_length]; exact hlt)
        rw [clocksL_length] at he
        cases he
        rw [clock_list (form_range Hf.out) hlt] at hix
        have Hix := Lib.hid hix
        clear hix
        go_wp2_with fail
        refine wp_region_order 8 [] (.take 0 (.take 1 (.take 2 (.take 3 (.take 4 (.take 5 (.take 6 (.one 7 (.done))))))))) (fun x => x.cell? ⟨bv, ov + k, none⟩ = some vk) (by kernel_rfl) (by kernel_rfl) x0 ?_
        refine wpFree_nil ?_
        repeat (first | (refine wpHeld_take (v := ?_) (by rfl) (by rfl) (fun x hx => ?_) (by exact fun _ _ _ h => h) ?_; rotate_left; ((first | (go_simp; done) | (go_simp; with_reducible rfl))); simp only [Act.put, List.setIfInBounds_toArray, List.set_cons_zero, List.set_cons_succ]))
        refine wpHeld_do (by rfl) (by rfl) (fun K hK => ?_)
        go_simp
        refine (refClock_any (w := wr.drew) (rooms := rooms) ((Hev.out.new Hb7.out).new (Below.refl _ _).drew) ((Hm.out.new Hbw.out).new (Below.refl _ _).drew) Hf.out (by omega) hlt).mono ?_
        rintro e w8 ⟨vq, rfl, hi8, hb8⟩
        have hb8' : Below wr.heap.size wr w8 := (Below.refl _ wr).drew.trans hb8
        refine hK _ _ ((hb8'.cell (World.block_lt_of_cell? wr _ x0)).trans x0) ?_
        clear hK K
        try simp only [Act.put, List.setIfInBounds_toArray, List.set_cons_zero, List.set_cons_succ]
        refine wpHeld_nil ?_
        dsimp only [List.drop]
        have Hsame := Lib.hid (sameInts_any (Hix.out.new hb8') hi8)
        have Hb8 := Lib.hid (Hbw.out.trans (hb8'.mono Hbw.out.size))
        clear hi8 hb8 hb8'
        rw [decide_eq_true rfl] at Hsame
        go_wp2_with fail
        refine Hsame.out.mono ?_
        rintro e w9 ⟨rfl, hb9⟩
        have Hb9 := Lib.hid (Hb8.out.trans (hb9.mono Hb8.out.size))
        clear hb9
        go_wp2_with fail
        go_roundg (l.length - (k + 1))
        case measure => omega
        case rel => exact ⟨k + 1, by omega, rfl, by go_num, Hb9.out⟩
      · obtain rfl : k = l.length := by omega
        by_cases ha0 : a < 0
        · have hin : inside l a b = false := by unfold inside; rw [Hf.out]; simp; omega
          have hcases := HV.out
          rw [hin] at hcases
          obtain ⟨_, rfl, rfl⟩ := hcases.resolve_left (by simp)
          clear hcases hin
          clear HV Hbf
          go_wp2_with fail
          refine (num_range (HE.out.new Hb7.out)).mono ?_
          rintro e w8 ⟨rfl, hb8⟩
          have Hb8 := Lib.hid (Hb7.out.trans (hb8.mono Hb7.out.size))
          clear hb8
          go_wp2_with fail
          go_ret
          exact ⟨rfl, Hb8.out⟩
        by_cases hb0 : b < 0
        · have hin : inside l a b = false := by unfold inside; rw [Hf.out]; simp; omega
          have hcases := HV.out
          rw [hin] at hcases
          obtain ⟨_, rfl, rfl⟩ := hcases.resolve_left (by simp)
          clear hcases hin
          clear HV Hbf
          go_wp2_with fail
          refine (num_range (HE.out.new Hb7.out)).mono ?_
          rintro e w8 ⟨rfl, hb8⟩
          have Hb8 := Lib.hid (Hb7.out.trans (hb8.mono Hb7.out.size))
          clear hb8
          go_wp2_with fail
          go_ret
          exact ⟨rfl, Hb8.out⟩
        by_cases ha1 : (l.length : Int) ≤ a
        · have hin : inside l a b = false := by unfold inside; rw [Hf.out]; simp; omega
          have hcases := HV.out
          rw [hin] at hcases
          obtain ⟨_, rfl, rfl⟩ := hcases.resolve_left (by simp)
          clear hcases hin
          clear HV Hbf
          go_wp2_with fail
          refine (num_range (HE.out.new Hb7.out)).mono ?_
          rintro e w8 ⟨rfl, hb8⟩
          have Hb8 := Lib.hid (Hb7.out.trans (hb8.mono Hb7.out.size))
          clear hb8
          go_wp2_with fail
          go_ret
          exact ⟨rfl, Hb8.out⟩
        by_cases hb1 : (l.length : Int) ≤ b
        · have hin : inside l a b = false := by unfold inside; rw [Hf.out]; simp; omega
          have hcases := HV.out
          rw [hin] at hcases
          obtain ⟨_, rfl, rfl⟩ := hcases.resolve_left (by simp)
          clear hcases hin
          clear HV Hbf
          go_wp2_with fail
          refine (num_range (HE.out.new Hb7.out)).mono ?_
          rintro e w8 ⟨rfl, hb8⟩
          have Hb8 := Lib.hid (Hb7.out.trans (hb8.mono Hb7.out.size))
          clear hb8
          go_wp2_with fail
          go_ret
          exact ⟨rfl, Hb8.out⟩
        obtain ⟨i, rfl⟩ := Int.eq_ofNat_of_zero_le (a := a) (by omega)
        obtain ⟨j, rfl⟩ := Int.eq_ofNat_of_zero_le (a := b) (by omega)
        have hil : i < l.length := by omega
        have hjl : j < l.length := by omega
        have hin : inside l i j = true := by unfold inside; rw [Hf.out]; simp; omega
        have hcases := HV.out
        rw [hin] at hcases
        obtain ⟨_, rfl, rfl⟩ := hcases.resolve_right (by simp)
        clear HV Hbf hcases
        rw [before_hb Hf.out hil hjl]
        obtain ⟨R1, y0, y1⟩ := (Hm.out.new Hbw.out).get hjl hil
        go_wp2_with fail
        go_ret
        exact ⟨rfl, Hb7.out⟩
end Go.Proofs.YtkjbpkggcddnhaaDoor
