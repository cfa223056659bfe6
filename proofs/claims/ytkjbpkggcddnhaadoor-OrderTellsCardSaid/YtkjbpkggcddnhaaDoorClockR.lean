/- The walk of the reference's Clock. -/
import Derived.Test.YtkjbpkggcddnhaaDoorMat
import Derived.Test.YtkjbpkggcddnhaaDoorRefPure
import Derived.Test.YtkjbpkggcddnhaaDoorAhead
import Derived.Deep.LoopGhost
namespace Go.Proofs.YtkjbpkggcddnhaaDoor
set_option linter.unusedVariables false
set_option linter.unusedSimpArgs false
open Go.RowKit

theorem trimL_at {f : Nat → Int} {m n : Nat} (hm : m ≤ n) (h0 : ∀ g, m ≤ g → g < n → f g = 0) (h1 : m = 0 ∨ f (m - 1) ≠ 0) : trimL ((List.range n).map f) = (List.range m).map f := by
  have e : (List.range n).map f = (List.range m).map f ++ List.replicate (n - m) 0 := by
    refine List.ext_getElem? fun i => ?_
    by_cases hi : i < m
    · rw [List.getElem?_append_left (by simpa using hi)]
      simp [hi, Nat.lt_of_lt_of_le hi hm]
    · rw [List.getElem?_append_right (by simp; omega)]
      by_cases hi2 : i < n
      · simp only [List.getElem?_map, List.getElem?_range hi2, Option.map_some, List.length_map, List.length_range]
        rw [List.getElem?_replicate, if_pos (by omega), h0 i (by omega) hi2]
      · rw [List.getElem?_eq_none (by simp; omega), List.getElem?_eq_none (by simp; omega)]
  rw [e, trimL_zeros]
  rcases m with _ | m
  · rfl
  · rw [List.range_succ, List.map_append, List.map_cons, List.map_nil, trimL_snoc, if_neg (show ¬ f m = 0 from h1.resolve_left (Nat.succ_ne_zero m))]

/-- What Clock hands back. -/
def ClockPost (w : World) (c : List Int) (e : Ending) (w' : World) : Prop := ∃ v, e = .returned v ∧ Ints w' v c ∧ Below w.heap.size w w'

set_option maxRecDepth 100000 in
set_option maxHeartbeats 8000000 in
theorem refClock_any {w : World} {vt vm : Value} {l : List Ev} {rooms : List Int} (hev : Evs w vt l) (hm : MatAt w vm l.length (fun j k => hbL rooms l k j)) (hform : l.all evForm = true) (hlen : l.length ≤ 3000) {j : Nat} (hj : j < l.length) :
    Calls Tryd.prog 22 #[vt, vm, .int .i64 j] w (ClockPost w (ckList rooms l j)) := by
  obtain ⟨O, R, rfl, hO, hRl, hrow, hcell⟩ := hm
  obtain ⟨at', ct, rfl⟩ := hev.shape
  have Hev := Lib.hid hev
  have Hform := Lib.hid hform
  have x0 := hrow j hj
  have Hcell := Lib.hid (fun k hk => hcell j k hj hk)
  have hjI : (j : Int) < (l.length : Int) := by omega
  obtain ⟨i0, hi0, z00, z01, z02⟩ := info_parts info_int
  clear hev hform hrow hcell hRl
  go_enter Tryd.func22, Tryd.ntmps22
  go_wp2_with (at_make; refine wpList_make_full _ rfl _ _ 23 rfl 0 3 i0 (.int .i64 0) 1 Tryd.underlying23 hi0 z00 z01 .i64 .i64 _ _ 8 rfl rfl rfl rfl (by rw [z02]; omega) (by unfold maxLen; omega) (Nat.zero_le _) ?_)
  intro w1 hown hgr
  have hr := made_row hown
  have hb1 : Below w.heap.size w w1 := (Below.refl _ w).grown hgr (Nat.le_refl _) (fun k hk => by cases hk)
  have hst : ∀ g : Nat, g < 8 → w1.cell? ⟨w.heap.size, g, none⟩ = some (.int .i64 (cq (upB rooms l j g) 0)) := fun g hg => hr.2.1 g hg
  have Hst := Lib.hid hst
  have Hfz := Lib.hid hr.2.2
  have Hb1 := Lib.hid hb1
  have hB1 := hr.1
  clear hst hr hb1 hown hgr
  go_wp2
  go_loopg [8] (j + 1) (fun gk s8 wr => ∃ i : Nat, i ≤ j + 1 ∧ gk = j + 1 - i ∧ s8 = .int .i64 i ∧ (∀ g : Nat, g < 8 → wr.cell? ⟨w.heap.size, g, none⟩ = some (.int .i64 (cq (upB rooms l j g) i))) ∧ (∀ o, wr.frozen? ⟨w.heap.size, o, none⟩ = false) ∧ w.heap.size < wr.heap.size ∧ Below w.heap.size w wr)
  case atStart => exact ⟨0, Nat.zero_le _, rfl, rfl, Hst.out, Hfz.out, hB1, Hb1.out⟩
  case round =>
    obtain ⟨i, hi, rfl, rfl, hc, hf, hlt, hb⟩ := hrel
    have hy0 := (hb.cell (World.block_lt_of_cell? w _ x0)).trans x0
    by_cases hij : i ≤ j
    · have hijI : (i : Int) ≤ (j : Int) := by omega
      have hil : i < l.length := by omega
      have hiI : (i : Int) < (l.length : Int) := by omega
      have hx := (hb.cell (World.block_lt_of_cell? w _ (Hcell.out i hil))).trans (Hcell.out i hil)
      obtain ⟨be, oe, ce, he, _, c0, _, _, _⟩ := (Hev.out.new hb).at hil
      cases he
      have hfe := all_getD Hform.out hil
      have hsucc := fun g : Nat => cq_succ (upB rooms l j g) i
      have hup : ∀ h : Int, upB rooms l j h i = ((decide (i = j) || hbL rooms l i j) && decide ((l.getD i default).g = h)) := fun h => rfl
      generalize l.getD i default = ev at c0 hfe hup
      obtain ⟨eg, ek, eo, ea⟩ := ev
      obtain ⟨hg1, hg2, _⟩ := evForm_true hfe
      simp only at c0 hup
      obtain ⟨gi, rfl⟩ := Int.eq_ofNat_of_zero_le hg1
      have hgi8 : gi < 8 := by omega
      have hgiI : (gi : Int) < 8 := by omega
      have Hup := Lib.hid hup
      have Hsucc := Lib.hid hsucc
      have Hc := Lib.hid hc
      have Hf := Lib.hid hf
      have Hb := Lib.hid hb
      have hyes : (decide (i = j) || hbL rooms l i j) = true → ∀ (wq : World), (∀ g : Nat, g < 8 → wq.cell? ⟨w.heap.size, g, none⟩ = some (.int .i64 (cq (upB rooms l j g) i))) → ∀ g : Nat, g < 8 → (wq.setCell ⟨w.heap.size, gi, none⟩ (.int .i64 ((cq (upB rooms l j gi) i : Nat) + 1))).cell? ⟨w.heap.size, g, none⟩ = some (.int .i64 (cq (upB rooms l j g) (i + 1))) := fun hy wq hq g hg => by
        rw [Hsucc.out g, Hup.out, hy, Bool.true_and]
        by_cases e : g = gi
        · subst e
          rw [World.cell?_setCell_same _ _ _ (hq g hg)]
          simp
        · rw [World.cell?_setCell_other wq ⟨w.heap.size, gi, none⟩ ⟨w.heap.size, g, none⟩ _ (fun e' => e (congrArg Addr.off e').symm), hq g hg, decide_eq_false (fun e' => e (by omega))]
          simp
      have hno : (decide (i = j) || hbL rooms l i j) = false → ∀ g : Nat, cq (upB rooms l j g) (i + 1) = cq (upB rooms l j g) i := fun hn g => by
        rw [Hsucc.out g, Hup.out, hn]; simp
      have Hyes := Lib.hid hyes
      have Hno := Lib.hid hno
      have v0 := hc gi hgi8
      have vf := hf gi
      have hcnt := cq_le (upB rooms l j gi) i
      clear hup hsucc hc hf hb hg1 hg2 hyes hno hfe
      generalize hq : cq (upB rooms l j gi) i = q at v0 Hyes hcnt
      clear hq
      have hrel : ∀ wq, (∀ g : Nat, g < 8 → wq.cell? ⟨w.heap.size, g, none⟩ = some (.int .i64 (cq (upB rooms l j g) (i + 1)))) → wq.heap.size = wr.heap.size → (∀ o, wq.frozen? ⟨w.heap.size, o, none⟩ = false) → Below w.heap.size w wq →
          (∀ g : Nat, g < 8 → wq.cell? ⟨w.heap.size, g, none⟩ = some (.int .i64 (cq (upB rooms l j g) (i + 1)))) ∧ (∀ o, wq.frozen? ⟨w.heap.size, o, none⟩ = false) ∧ w.heap.size < wq.heap.size ∧ Below w.heap.size w wq := fun wq h1 h2 h3 h4 => ⟨h1, h3, by omega, h4⟩
      have Hrel := Lib.hid hrel
      clear hrel
      have hset : ∀ u, (wr.setCell ⟨w.heap.size, gi, none⟩ u).heap.size = wr.heap.size ∧ (∀ o, (wr.setCell ⟨w.heap.size, gi, none⟩ u).frozen? ⟨w.heap.size, o, none⟩ = false) ∧ Below w.heap.size w (wr.setCell ⟨w.heap.size, gi, none⟩ u) := fun u =>
        ⟨by simp [World.setCell], fun o => by rw [World.frozen?_setCell]; exact Hf.out o, Hb.out.setCell (Nat.le_refl _) _⟩
      have Hset := Lib.hid hset
      clear hset
      by_cases e : i = j
      · have hdt : (decide (i = j) || hbL rooms l i j) = true := by rw [decide_eq_true e]; rfl
        have Hdt := Lib.hid hdt
        have E := Lib.hid e
        clear hdt
        obtain rfl : i = j := e
        go_wp2_with fail
        go_roundg (i + 1 - (i + 1))
        case measure => omega
        case rel =>
          obtain ⟨s1, s2, s3⟩ := Hset.out (.int .i64 ((q : Int) + 1))
          exact ⟨i + 1, by omega, rfl, by go_num, Hrel.out _ (Hyes.out Hdt.out wr Hc.out) s1 s2 s3⟩
      · have eI : ((i : Int) == (j : Int)) = false := beq_false_of_ne (by omega)
        cases hbx : hbL rooms l i j with
        | true =>
          have hdt : (decide (i = j) || hbL rooms l i j) = true := by rw [hbx]; simp
          have Hdt := Lib.hid hdt
          rw [hbx] at hx
          clear hdt hbx e
          go_wp2_with fail
          go_roundg (j + 1 - (i + 1))
          case measure => omega
          case rel =>
            obtain ⟨s1, s2, s3⟩ := Hset.out (.int .i64 ((q : Int) + 1))
            exact ⟨i + 1, by omega, rfl, by go_num, Hrel.out _ (Hyes.out Hdt.out wr Hc.out) s1 s2 s3⟩
        | false =>
          have hdt : (decide (i = j) || hbL rooms l i j) = false := by rw [hbx, decide_eq_false e]; rfl
          have Hdt := Lib.hid hdt
          rw [hbx] at hx
          clear hdt hbx e
          go_wp2_with fail
          go_roundg (j + 1 - (i + 1))
          case measure => omega
          case rel => exact ⟨i + 1, by omega, rfl, by go_num, Hrel.out wr (fun g hg => by rw [Hno.out Hdt.out g]; exact Hc.out g hg) rfl Hf.out Hb.out⟩
    · obtain rfl : i = j + 1 := by omega
      have hij' : ¬ ((j + 1 : Nat) : Int) ≤ (j : Int) := by omega
      have hck : ∀ g : Nat, g < 8 → wr.cell? ⟨w.heap.size, g, none⟩ = some (.int .i64 (ckL rooms l j g)) := hc
      have Hck := Lib.hid hck
      have Hb := Lib.hid hb
      clear hc hf hck hb hij hy0
      go_wp2
      go_loopg [9] (8) (fun gk s9 wq => ∃ m : Nat, m ≤ 8 ∧ gk = m ∧ s9 = .int .i64 m ∧ (∀ g : Nat, m ≤ g → g < 8 → ckL rooms l j g = 0) ∧ wq = wr)
      case atStart => exact ⟨8, Nat.le_refl _, rfl, rfl, fun g h1 h2 => by omega, rfl⟩
      case round =>
        obtain ⟨m, hm, hgk, rfl, hz, rfl⟩ := hrel
        have hgk' := hgk.symm
        subst hgk'
        have Hz := Lib.hid hz
        clear hgk hz
        have hend : (m = 0 ∨ (ckL rooms l j ((m - 1 : Nat) : Int) : Int) ≠ 0) → ckList rooms l j = (List.range m).map fun (h : Nat) => (ckL rooms l j h : Int) := fun h =>
          trimL_at (f := fun (h : Nat) => (ckL rooms l j h : Int)) hm (fun g h1 h2 => by have := Hz.out g h1 h2; omega) h
        have hpost : (m = 0 ∨ (ckL rooms l j ((m - 1 : Nat) : Int) : Int) ≠ 0) → Ints wr (.slice (some ⟨w.heap.size, 0, none⟩) m 8) (ckList rooms l j) := fun h => by
          have hl : ((List.range m).map fun (h : Nat) => (ckL rooms l j h : Int)).length = m := by simp
          have := Ints.mk (w := wr) (b := w.heap.size) (off := 0) (cap := 8) (l := (List.range m).map fun (h : Nat) => (ckL rooms l j h : Int)) hlt (by omega) (by omega) (fun g hg => by
            rw [hl] at hg
            rw [Nat.zero_add, Hck.out g (by omega)]
            simp [hg])
          rw [hl] at this
          rw [hend h]
          exact this
        have Hpost := Lib.hid hpost
        clear hend hpost
        have hm8 : (m : Int) ≤ 8 := by omega
        cases m with
        | zero =>
          go_wp2
          go_ret
          exact ⟨_, rfl, Hpost.out (by simp), Hb.out⟩
        | succ p =>
          have c0 := Hck.out p (by omega)
          have hp1 : (((p + 1 : Nat) : Int) - 1) = (p : Int) := by omega
          have hp0 : (0 : Int) < ((p + 1 : Nat) : Int) := by omega
          have hp8 : (p : Int) < 8 := by omega
          by_cases hz0 : ckL rooms l j p = 0
          · rw [hz0] at c0
            have Hz0 := Lib.hid hz0
            clear hz0
            go_wp2
            go_roundg p
            case measure => omega
            case rel => exact ⟨p, by omega, rfl, congrArg (Value.int .i64) (by omega), fun g h1 h2 => (by by_cases e : g = p; (rw [e]; exact Hz0.out); exact Hz.out g (by omega) h2), rfl⟩
          · have Hz0 := Lib.hid hz0
            have hz1 : ((ckL rooms l j p : Int) == 0) = false := beq_false_of_ne (by omega)
            clear hz0
            go_wp2
            go_ret
            exact ⟨_, rfl, Hpost.out (.inr (by have := Hz0.out; simp only [Nat.add_sub_cancel]; omega)), Hb.out⟩
end Go.Proofs.YtkjbpkggcddnhaaDoor
