/- The walk of stockadelaw18.OrderCuts. -/
import Derived.Test.YtkjbpkggcddnhaaDoorWithin
import Derived.Test.YtkjbpkggcddnhaaDoorAlive
import Derived.Test.YtkjbpkggcddnhaaDoorChains
namespace Go.Proofs.YtkjbpkggcddnhaaDoor
set_option linter.unusedVariables false
set_option linter.unusedSimpArgs false
open Go.RowKit Go.Maps

theorem withinR_of {a b : List RaceR} (h : ∀ r ∈ a, r ∈ b) : withinR a b = true := by
  unfold withinR hasR
  rw [List.all_eq_true]
  intro r hr
  rw [List.any_eq_true]
  exact ⟨r, h r hr, by simp⟩
/-- A trace cut short, in memory. -/
theorem Evs.cut {w : World} {v : Value} {l : List Ev} (h : Evs w v l) {c : Nat} (hc : c ≤ l.length) : ∃ a k, v = .slice a l.length k ∧ l.length ≤ k ∧ Evs w (.slice a c k) (l.take c) := by
  have hll : (l.take c).length = c := by rw [List.length_take]; omega
  rcases h.cases with ⟨rfl, rfl⟩ | ⟨b, off, cap, rfl, hlt, hcap, hm, _⟩
  · obtain rfl : c = 0 := by simpa using hc
    exact ⟨none, 0, rfl, Nat.le_refl _, by simpa using Evs.nil w⟩
  · refine ⟨_, cap, rfl, hcap, ?_⟩
    have h2 := SlAt.take (k := 4) h hc
    unfold Evs
    rw [hll]
    have e : (l.take c).flatMap evCells = (l.flatMap evCells).take (c * 4) := by
      refine List.ext_getElem? fun i => ?_
      by_cases hi : i < c * 4
      · obtain ⟨q, r, hr, rfl⟩ : ∃ q r, r < 4 ∧ i = q * 4 + r := ⟨i / 4, i % 4, Nat.mod_lt _ (by omega), by omega⟩
        rw [List.getElem?_take, if_pos hi, flat4_get _ q (by omega) r hr, flat4_get _ q (by omega) r hr, getD_take l default (by omega)]
      · have hfl : ∀ l : List Ev, (l.flatMap evCells).length = l.length * 4 := fun l => by
          induction l with
          | nil => rfl
          | cons e t ih => rw [List.flatMap_cons, List.length_append, ih, evCells_length, List.length_cons]; omega
        rw [List.getElem?_eq_none (by rw [hfl, hll]; omega), List.getElem?_eq_none (by rw [List.length_take, hfl]; omega)]
    rw [e]
    exact h2
theorem Trace.cut {l : List Ev} {rooms : List Int} (h : Trace l rooms) (c : Nat) : Trace (l.take c) rooms :=
  ⟨by have := h.len; rw [List.length_take]; omega, fun e he => h.obj e (List.mem_of_mem_take he), h.rooms⟩

set_option maxRecDepth 100000 in
set_option maxHeartbeats 8000000 in
theorem cuts_any {w : World} {vt vr : Value} {l : List Ev} {rooms : List Int} {T : TypeId} {ev0 : Value} (x : Int) (hev : Evs w vt l) (hr : Ints w vr rooms) (hwf : ∀ e ∈ l, evWf e) (hrm : ∀ r ∈ rooms, (Lit.int .i64 r).wf = true) (her : w.cell? ⟨0, 0, none⟩ = some (.iface T ev0)) :
    Calls Tryd.prog 3 #[vt, vr, .int .i64 x] w fun e w' => e = .returned (.bool true) ∧ Below w.heap.size w w' := by
  obtain ⟨at', ct, rfl⟩ := hev.shape
  obtain ⟨ar, cr, rfl⟩ := hr.shape
  have Hev := Lib.hid hev
  have Hr := Lib.hid hr
  have Her := Lib.hid her
  have Hwf := Lib.hid hwf
  have Hrm := Lib.hid hrm
  have hrl := hr.len
  have hel := hev.2.1
  clear hev her hwf hr hrm
  go_enter Tryd.func3, Tryd.ntmps3
  go_wp2_with fail
  refine (alive_any Her.out).mono ?_
  rintro e w1 ⟨rfl, hb1⟩
  have Hb1 := Lib.hid hb1
  clear hb1
  by_cases h2 : 100 < l.length
  · have h2' : (100 : Int) < (l.length : Int) := by omega
    go_wp2_with fail
    go_ret
    exact ⟨rfl, Hb1.out⟩
  have h2' : (l.length : Int) ≤ 100 := by omega
  by_cases h3 : 100 < rooms.length
  · have h3' : (100 : Int) < (rooms.length : Int) := by omega
    go_wp2_with fail
    go_ret
    exact ⟨rfl, Hb1.out⟩
  have h3' : (rooms.length : Int) ≤ 100 := by omega
  have ht : Trace l rooms := ⟨by omega, fun e he => (Hwf.out e he).2.2.1, fun r hr => le_of_wf (Hrm.out r hr)⟩
  have hc := umod_lt (x := x) (n := l.length + 1) (by omega)
  have Ht := Lib.hid ht
  clear ht
  go_wp2_with fail
  have hcast : ((l.length : Int) + 1) = ((l.length + 1 : Nat) : Int) := rfl
  rw [hcast, umod_eq x (by omega) (by omega)]
  clear hcast
  generalize umod x (l.length + 1) = c at hc ⊢
  have hcl : c ≤ l.length := by omega
  obtain ⟨a0, k0, ha0, hck, hevc⟩ := Hev.out.cut hcl
  cases ha0
  have Hevc := Lib.hid hevc
  have hck1 := clocks_any Ht.out (Hev.out.new Hb1.out) (Hr.out.new Hb1.out) ((Hb1.out.cell (World.block_lt_of_cell? w _ Her.out)).trans Her.out)
  refine hck1.mono ?_
  clear hck1 hevc
  rintro e w2 ⟨hb2, hres⟩
  have Hb2 := Lib.hid (Hb1.out.trans (hb2.mono Hb1.out.size))
  clear hb2
  rcases hres with ⟨hf, rfl⟩ | ⟨hf, va, rfl, hva⟩
  · have Hf := Lib.hid hf
    clear hf
    go_wp2_with fail
    refine (form_any (Hev.out.new Hb2.out)).mono ?_
    rintro e w3 ⟨he, hb3⟩
    unfold formV at he
    rw [Hf.out] at he
    subst he
    go_wp2_with fail
    go_ret
    exact ⟨rfl, Hb2.out.trans (hb3.mono Hb2.out.size)⟩
  have Hf := Lib.hid hf
  clear hf
  obtain ⟨aa, ka, rfl⟩ := hva.shape
  have Hva := Lib.hid hva
  clear hva
  have hcI : (c : Int) ≤ (ct : Int) := by omega
  have hcI2 : (c : Int) ≤ (l.length : Int) := by omega
  go_wp2_with fail
  have htc := Ht.out.cut c
  have hfc : (l.take c).all evForm = true := by
    rw [List.all_eq_true]
    exact fun e he => List.all_eq_true.1 Hf.out e (List.mem_of_mem_take he)
  have hck2 := clocks_any htc (Hevc.out.new Hb2.out) (Hr.out.new Hb2.out) ((Hb2.out.cell (World.block_lt_of_cell? w _ Her.out)).trans Her.out)
  refine hck2.mono ?_
  clear hck2
  rintro e w3 ⟨hb3, hres⟩
  rcases hres with ⟨hf, _⟩ | ⟨_, vb, rfl, hvb⟩
  · rw [hfc] at hf; cases hf
  have Htc := Lib.hid htc
  have Hfc := Lib.hid hfc
  clear htc hfc
  have hlb : (clocksL rooms (l.take c)).length = c := by rw [clocksL_length, List.length_take]; omega
  have hla : (clocksL rooms l).length = l.length := clocksL_length rooms l
  obtain ⟨ab, kb, hab⟩ := hvb.shape
  rw [hlb] at hab
  subst hab
  rw [clocksL_take] at hvb
  have Hlb := Lib.hid (show ((clocksL rooms l).take c).length = c by rw [← clocksL_take]; exact hlb)
  generalize clocksL rooms l = L at Hva hvb hla Hlb ⊢
  have Hvb := Lib.hid hvb
  have Hb23 := Lib.hid hb3
  have Hb3 := Lib.hid (Hb2.out.trans (hb3.mono Hb2.out.size))
  clear hvb hb3 hlb
  have hLc : (c : Int) ≤ (L.length : Int) := by omega
  go_wp2
  go_loopg [11, 12, 64] (c) (fun gk s11 s12 i wr => ∃ k : Nat, k ≤ c ∧ gk = c - k ∧ i = .int .i64 k ∧ Below w3.heap.size w3 wr)
  case atStart => exact ⟨0, Nat.zero_le _, rfl, rfl, Below.refl _ _⟩
  case round =>
    obtain ⟨k, hk, rfl, rfl, hbw⟩ := hrel
    obtain ⟨wo, rfl⟩ : ∃ x, x = wr := ⟨_, rfl⟩
    by_cases hlt : k < c
    · have hvb := Hvb.out.new hbw
      have hva := Hva.out.new (Hb23.out.trans (hbw.mono Hb23.out.size))
      obtain ⟨ba, oa, ca, vi, _, hea, hba, x0, _, hi0, _⟩ := hva.at (i := k) (j := k) (by omega) (by omega)
      obtain ⟨bb, ob, cb, vj, _, heb, hbb, y0, _, hj0, _⟩ := hvb.at (i := k) (j := k) (by rw [Hlb.out]; exact hlt) (by rw [Hlb.out]; exact hlt)
      rw [Hlb.out] at heb
      cases hea
      cases heb
      rw [getD_take L [] hlt] at hj0
      generalize L.getD k [] = X at hi0 hj0
      have hXl := hi0.len
      obtain ⟨ai, kai, rfl⟩ := hi0.shape
      obtain ⟨aj, kaj, rfl⟩ := hj0.shape
      have Hi0 := Lib.hid hi0
      have Hj0 := Lib.hid hj0
      have Hbw := Lib.hid hbw
      have hkI : (k : Int) < (c : Int) := by omega
      have hkI2 : (k : Int) < (l.length : Int) := by omega
      clear hi0 hj0 hva hvb hbw
      go_wp2_with fail
      refine wp_region_order 10 [] (.take 0 (.take 1 (.take 2 (.take 3 (.take 4 (.take 5 (.take 6 (.take 7 (.take 8 (.take 9 (.done))))))))))) (fun x => x.cell? ⟨ba, oa + k, none⟩ = some (.slice ai X.length kai) ∧ x.cell? ⟨bb, ob + k, none⟩ = some (.slice aj X.length kaj)) (by kernel_rfl) (by kernel_rfl) ⟨x0, y0⟩ ?_
      refine wpFree_nil ?_
      repeat (refine wpHeld_take (v := ?_) (by rfl) (by rfl) (fun x hx => ?_) (by exact fun _ _ _ h => h) ?_; rotate_left; (obtain ⟨h1, h2⟩ := hx; (first | (go_simp; done) | (go_simp; with_reducible rfl))); simp only [Act.put, List.setIfInBounds_toArray, List.set_cons_zero, List.set_cons_succ])
      refine wpHeld_nil ?_
      dsimp only [List.drop]
      have hbq : Below wo.heap.size wo wo.drew := (Below.refl _ _).drew
      have x0' : (wo.drew).cell? ⟨ba, oa + k, none⟩ = some (.slice ai X.length kai) := x0
      have y0' : (wo.drew).cell? ⟨bb, ob + k, none⟩ = some (.slice aj X.length kaj) := y0
      have Hi1 := Lib.hid (Hi0.out.new hbq)
      have Hj1 := Lib.hid (Hj0.out.new hbq)
      have Hbq := Lib.hid (Hbw.out.trans (hbq.mono Hbw.out.size))
      clear x0 y0 hbq
      generalize wo.drew = wq at x0' y0' Hi1 Hj1 Hbq ⊢
      go_wp2
      go_loopg [12, 83] (X.length) (fun gk s12 i wi => ∃ m : Nat, m ≤ X.length ∧ gk = X.length - m ∧ i = .int .i64 m ∧ Below wq.heap.size wq wi)
      case atStart => exact ⟨0, Nat.zero_le _, rfl, rfl, Below.refl _ _⟩
      case round =>
        obtain ⟨m, hm, rfl, rfl, hbi⟩ := hrel
        by_cases hml : m < X.length
        · rw [← hbi.cell (World.block_lt_of_cell? wq _ x0')] at x0'
          rw [← hbi.cell (World.block_lt_of_cell? wq _ y0')] at y0'
          rcases (Hi1.out.new hbi).cases with ⟨_, h0⟩ | ⟨bi, oi, ci, hei, _, _, _, hci⟩
          · rw [h0] at hml; simp at hml
          rcases (Hj1.out.new hbi).cases with ⟨_, h0⟩ | ⟨bj, oj, cj, hej, _, _, _, hcj⟩
          · rw [h0] at hml; simp at hml
          cases hei
          cases hej
          have p0 := hci m hml
          have p1 := hcj m hml
          have hmI : (m : Int) < (X.length : Int) := by omega
          have Hbi := Lib.hid hbi
          clear hci hcj hbi
          go_wp2_with fail
          refine wp_region_order 14 [] (.take 0 (.take 1 (.take 2 (.take 3 (.take 4 (.take 5 (.take 6 (.take 7 (.take 8 (.take 9 (.take 10 (.take 11 (.take 12 (.take 13 (.done))))))))))))))) (fun x => x.cell? ⟨ba, oa + k, none⟩ = some (.slice (some ⟨bi, oi, none⟩) X.length kai) ∧ x.cell? ⟨bb, ob + k, none⟩ = some (.slice (some ⟨bj, oj, none⟩) X.length kaj) ∧ x.cell? ⟨bi, oi + m, none⟩ = some (.int .i64 (X.getD m 0)) ∧ x.cell? ⟨bj, oj + m, none⟩ = some (.int .i64 (X.getD m 0))) (by kernel_rfl) (by kernel_rfl) ⟨x0', y0', p0, p1⟩ ?_
          refine wpFree_nil ?_
          repeat (refine wpHeld_take (v := ?_) (by rfl) (by rfl) (fun x hx => ?_) (by exact fun _ _ _ h => h) ?_; rotate_left; (obtain ⟨h1, h2, h3, h4⟩ := hx; (first | (go_simp; done) | (go_simp; with_reducible rfl))); simp only [Act.put, List.setIfInBounds_toArray, List.set_cons_zero, List.set_cons_succ])
          refine wpHeld_nil ?_
          dsimp only [List.drop]
          go_wp2
          go_roundg (X.length - (m + 1))
          case measure => omega
          case rel => exact ⟨m + 1, by omega, rfl, by go_num, Hbi.out.drew⟩
        · obtain rfl : m = X.length := by omega
          have Hbi := Lib.hid (Hbq.out.trans (hbi.mono Hbq.out.size))
          clear hbi
          go_wp2
          go_roundg (c - (k + 1))
          case measure => omega
          case rel => exact ⟨k + 1, by omega, rfl, by go_num, Hbi.out⟩
    · obtain rfl : k = c := by omega
      have hb4 := Hb3.out.trans (hbw.mono Hb3.out.size)
      have Hb4 := Lib.hid hb4
      clear hbw hb4
      go_wp2_with fail
      refine (races_any Ht.out (Hev.out.new Hb4.out) (Hr.out.new Hb4.out) ((Hb4.out.cell (World.block_lt_of_cell? w _ Her.out)).trans Her.out)).mono ?_
      rintro e w5 ⟨hb5, hres⟩
      rcases hres with ⟨hf, _⟩ | ⟨_, vp, rfl, hvp⟩
      · rw [Hf.out] at hf; cases hf
      obtain ⟨ap, kp, rfl⟩ := hvp.shape
      have Hvp := Lib.hid hvp
      have Hb5 := Lib.hid (Hb4.out.trans (hb5.mono Hb4.out.size))
      clear hvp hb5
      go_wp2_with fail
      refine (races_any Htc.out (Hevc.out.new Hb5.out) (Hr.out.new Hb5.out) ((Hb5.out.cell (World.block_lt_of_cell? w _ Her.out)).trans Her.out)).mono ?_
      rintro e w6 ⟨hb6, hres⟩
      rcases hres with ⟨hf, _⟩ | ⟨_, vq, rfl, hvq⟩
      · rw [Hfc.out] at hf; cases hf
      obtain ⟨aq, kq, rfl⟩ := hvq.shape
      have Hvq := Lib.hid hvq
      have Hvp6 := Lib.hid (Hvp.out.new hb6)
      have Hb6 := Lib.hid (Hb5.out.trans (hb6.mono Hb5.out.size))
      clear hvq hb6
      go_wp2_with fail
      refine (within_any Hvq.out Hvp6.out).mono ?_
      rintro e w7 ⟨he, hb7⟩
      rw [withinR_of (races_cut rooms l hcl)] at he
      subst he
      go_wp2_with fail
      go_ret
      exact ⟨rfl, Hb6.out.trans (hb7.mono Hb6.out.size)⟩
end Go.Proofs.YtkjbpkggcddnhaaDoor
