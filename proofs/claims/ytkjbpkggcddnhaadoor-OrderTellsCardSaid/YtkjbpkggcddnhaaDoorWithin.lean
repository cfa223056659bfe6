/- The walk of stockadelaw18.within. -/
import Derived.Test.YtkjbpkggcddnhaaDoorRaces
namespace Go.Proofs.YtkjbpkggcddnhaaDoor
set_option linter.unusedVariables false
set_option linter.unusedSimpArgs false
open Go.RowKit Go.Maps
theorem race_eq (x y : RaceR) (w : World) : (binOp .eql 72 (raceV x) (raceV y)).run Tryd.prog w = .ok (.bool (decide (x = y))) w := by
  obtain ⟨a1, a2, a3, a4, a5⟩ := x
  obtain ⟨b1, b2, b3, b4, b5⟩ := y
  have h : decide ((⟨a1, a2, a3, a4, a5⟩ : RaceR) = ⟨b1, b2, b3, b4, b5⟩) = (decide (a1 = b1) && decide (a2 = b2) && decide (a3 = b3) && decide (a4 = b4) && decide (a5 = b5)) := by
    simp [Bool.and_assoc]
  rw [h]
  simp only [raceV]
  go_simp
  by_cases h1 : a1 = b1 <;> by_cases h2 : a2 = b2 <;> by_cases h3 : a3 = b3 <;> by_cases h4 : a4 = b4 <;> by_cases h5 : a5 = b5 <;> simp [h1, h2, h3, h4, h5]

theorem RacesAt.new {w w' : World} {v : Value} {l : List RaceR} (h : RacesAt w v l) (hb : Below w.heap.size w w') : RacesAt w' v l := SlAt.new h hb
theorem flatR_get : ∀ (l : List RaceR) (i : Nat), i < l.length → ∀ j, j < 5 → (l.flatMap raceCells)[i * 5 + j]? = (raceCells (l.getD i default))[j]?
  | [], i, h, j, hj => by simp at h
  | e :: t, 0, h, j, hj => by
    rw [List.flatMap_cons, Nat.zero_mul, Nat.zero_add, List.getElem?_append_left (show j < (raceCells e).length from hj)]; rfl
  | e :: t, i + 1, h, j, hj => by
    rw [List.flatMap_cons, List.getElem?_append_right (show (raceCells e).length ≤ _ by show 5 ≤ _; omega), show (raceCells e).length = 5 from rfl, show (i + 1) * 5 + j - 5 = i * 5 + j by omega, flatR_get t i (by simp at h; omega) j hj]
    simp
theorem RacesAt.at {w : World} {v : Value} {l : List RaceR} (h : RacesAt w v l) {i : Nat} (hi : i < l.length) : ∃ b off cap, v = .slice (some ⟨b, off, none⟩) l.length cap ∧ b < w.heap.size ∧
      w.cell? ⟨b, off + i * 5, none⟩ = some (.int .i64 (l.getD i default).place) ∧ w.cell? ⟨b, off + i * 5 + 1, none⟩ = some (.int .i64 (l.getD i default).first) ∧
      w.cell? ⟨b, off + i * 5 + 2, none⟩ = some (.int .i64 (l.getD i default).second) ∧ w.cell? ⟨b, off + i * 5 + 3, none⟩ = some (.bool (l.getD i default).fw) ∧ w.cell? ⟨b, off + i * 5 + 4, none⟩ = some (.bool (l.getD i default).sw) := by
  obtain ⟨_, hm, h⟩ := h
  rcases h with ⟨_, h1⟩ | ⟨b, off, cap, rfl, hlt, hcap, hc⟩
  · omega
  · have h1 := fun j hj => (hc (i * 5 + j) (by omega)).trans (flatR_get l i hi j hj)
    refine ⟨b, off, cap, rfl, hlt, h1 0 (by omega), ?_, ?_, ?_, ?_⟩
    · rw [Nat.add_assoc]; exact h1 1 (by omega)
    · rw [Nat.add_assoc]; exact h1 2 (by omega)
    · rw [Nat.add_assoc]; exact h1 3 (by omega)
    · rw [Nat.add_assoc]; exact h1 4 (by omega)
theorem RacesAt.shape {w : World} {v : Value} {l : List RaceR} (h : RacesAt w v l) : ∃ a c, v = .slice a l.length c := by
  obtain ⟨_, hm, h⟩ := h
  rcases h with ⟨rfl, h1⟩ | ⟨b, off, cap, rfl, _⟩
  · rw [h1]; exact ⟨_, _, rfl⟩
  · exact ⟨_, _, rfl⟩
theorem RacesAt.len {w : World} {v : Value} {l : List RaceR} (h : RacesAt w v l) : l.length ≤ 9223372036854775807 := h.2.1
/-- The cells of block B read as race r. -/
structure RaceAt (w : World) (B : Nat) (r : RaceR) : Prop where
  c0 : w.cell? ⟨B, 0, none⟩ = some (.int .i64 r.place)
  c1 : w.cell? ⟨B, 1, none⟩ = some (.int .i64 r.first)
  c2 : w.cell? ⟨B, 2, none⟩ = some (.int .i64 r.second)
  c3 : w.cell? ⟨B, 3, none⟩ = some (.bool r.fw)
  c4 : w.cell? ⟨B, 4, none⟩ = some (.bool r.sw)
theorem RaceAt.lt {w : World} {B : Nat} {r : RaceR} (h : RaceAt w B r) : B < w.heap.size := World.block_lt_of_cell? w _ h.c0
theorem RaceAt.new {w w' : World} {B : Nat} {r : RaceR} (h : RaceAt w B r) (hb : Below w.heap.size w w') : RaceAt w' B r :=
  ⟨(hb.cell (p := ⟨B, 0, none⟩) h.lt).trans h.c0, (hb.cell (p := ⟨B, 1, none⟩) h.lt).trans h.c1, (hb.cell (p := ⟨B, 2, none⟩) h.lt).trans h.c2, (hb.cell (p := ⟨B, 3, none⟩) h.lt).trans h.c3, (hb.cell (p := ⟨B, 4, none⟩) h.lt).trans h.c4⟩
theorem RaceAt.made (w : World) (r : RaceR) (T : Nat) : RaceAt (w.alloc (.cells #[.int .i64 r.place, .int .i64 r.first, .int .i64 r.second, .bool r.fw, .bool r.sw] T)) w.heap.size r := by
  have h := heap_alloc_new w (.cells #[.int .i64 r.place, .int .i64 r.first, .int .i64 r.second, .bool r.fw, .bool r.sw] T)
  refine ⟨?_, ?_, ?_, ?_, ?_⟩
  all_goals (unfold World.cell?; rw [h]; rfl)

def hasR (l : List RaceR) (x : RaceR) : Bool := l.any fun y => decide (x = y)
def withinR (a b : List RaceR) : Bool := a.all (hasR b)
theorem hasR_take_succ {l : List RaceR} {x : RaceR} {j : Nat} (h : j < l.length) : hasR (l.take (j + 1)) x = (hasR (l.take j) x || decide (x = l.getD j default)) := by
  unfold hasR
  rw [List.take_succ_eq_append_getElem h, List.any_append]
  simp [h]
theorem withinR_take_succ {a b : List RaceR} {j : Nat} (h : j < a.length) : withinR (a.take (j + 1)) b = (withinR (a.take j) b && hasR b (a.getD j default)) := by
  unfold withinR
  rw [List.take_succ_eq_append_getElem h, List.all_append]
  simp [h]
theorem withinR_out {a b : List RaceR} {j : Nat} (h : j < a.length) (hn : hasR b (a.getD j default) = false) : withinR a b = false := by
  cases hq : withinR a b with
  | false => rfl
  | true =>
    unfold withinR at hq
    rw [List.all_eq_true] at hq
    have := hq _ (getD_mem (d := default) h)
    rw [hn] at this; cases this

set_option maxRecDepth 100000 in
set_option maxHeartbeats 4000000 in
theorem within_any {w : World} {va vb : Value} {a b : List RaceR} (ha : RacesAt w va a) (hb : RacesAt w vb b) :
    Calls Tryd.prog 16 #[va, vb] w fun e w' => e = .returned (.bool (withinR a b)) ∧ Below w.heap.size w w' := by
  obtain ⟨aa, ca, rfl⟩ := ha.shape
  obtain ⟨ab, cb, rfl⟩ := hb.shape
  have hal := ha.len
  have hbl := hb.len
  have Ha := Lib.hid ha
  have Hb := Lib.hid hb
  clear ha hb
  go_enter Tryd.func16, Tryd.ntmps16
  go_wp2
  go_loopg [6, 7, 9, 12, 16, 17, 18] (a.length) (fun gk s6 s7 s9 i s16 s17 s18 wr => ∃ k : Nat, k ≤ a.length ∧ gk = a.length - k ∧ i = .int .i64 k ∧ withinR (a.take k) b = true ∧ Below w.heap.size w wr)
  case atStart => exact ⟨0, Nat.zero_le _, rfl, rfl, by simp [withinR], Below.refl _ _⟩
  case round =>
    obtain ⟨k, hk, rfl, rfl, hw, hbw⟩ := hrel
    obtain ⟨wo, rfl⟩ : ∃ x, x = wr := ⟨_, rfl⟩
    by_cases hlt : k < a.length
    · obtain ⟨ba, oa, ca', he, hba, x0, x1, x2, x3, x4⟩ := Ha.out.at hlt
      cases he
      rw [← hbw.cell (World.block_lt_of_cell? w _ x0)] at x0
      rw [← hbw.cell (World.block_lt_of_cell? w _ x1)] at x1
      rw [← hbw.cell (World.block_lt_of_cell? w _ x2)] at x2
      rw [← hbw.cell (World.block_lt_of_cell? w _ x3)] at x3
      rw [← hbw.cell (World.block_lt_of_cell? w _ x4)] at x4
      have hklt : (k : Int) < (a.length : Int) := by omega
      have hws := withinR_take_succ (b := b) hlt
      have hwo := withinR_out (b := b) hlt
      rw [hw, Bool.true_and] at hws
      generalize a.getD k default = r at x0 x1 x2 x3 x4 hws hwo
      have hrat := RaceAt.made wo r 72
      obtain ⟨r1, r2, r3, r4, r5⟩ := r
      simp only at x0 x1 x2 x3 x4
      have Hrat := Lib.hid hrat
      have Hws := Lib.hid hws
      have Hwo := Lib.hid hwo
      have Hbw := Lib.hid hbw
      clear hws hwo hw hrat hbw
      go_wp2
      have hb0 : Below wo.heap.size wo (wo.alloc (.cells #[.int .i64 r1, .int .i64 r2, .int .i64 r3, .bool r4, .bool r5] 72)) := (Below.refl _ _).alloc (Nat.le_refl _) _
      have Hb0 := Lib.hid hb0
      clear hb0
      go_loopg [7, 9, 18] (b.length) (fun gk s7 s9 i wi => ∃ j : Nat, j ≤ b.length ∧ gk = b.length - j ∧ i = .int .i64 j ∧ s7 = .bool (hasR (b.take j) ⟨r1, r2, r3, r4, r5⟩) ∧ RaceAt wi wo.heap.size ⟨r1, r2, r3, r4, r5⟩ ∧ Below wo.heap.size wo wi)
      case atStart => exact ⟨0, Nat.zero_le _, rfl, rfl, rfl, Hrat.out, Hb0.out⟩
      case round =>
        obtain ⟨j, hj, rfl, rfl, rfl, hra, hbi⟩ := hrel
        by_cases hjl : j < b.length
        · obtain ⟨bb, ob, cb', he, hbb, z0, z1, z2, z3, z4⟩ := Hb.out.at hjl
          cases he
          have hbi2 := Hbw.out.trans (hbi.mono Hbw.out.size)
          rw [← hbi2.cell (World.block_lt_of_cell? w _ z0)] at z0
          rw [← hbi2.cell (World.block_lt_of_cell? w _ z1)] at z1
          rw [← hbi2.cell (World.block_lt_of_cell? w _ z2)] at z2
          rw [← hbi2.cell (World.block_lt_of_cell? w _ z3)] at z3
          rw [← hbi2.cell (World.block_lt_of_cell? w _ z4)] at z4
          have hjlt : (j : Int) < (b.length : Int) := by omega
          have hhs := hasR_take_succ (x := ⟨r1, r2, r3, r4, r5⟩) hjl
          generalize b.getD j default = q at z0 z1 z2 z3 z4 hhs
          obtain ⟨q1, q2, q3, q4, q5⟩ := q
          simp only at z0 z1 z2 z3 z4
          have hlt2 := hra.lt
          obtain ⟨y0, y1, y2, y3, y4⟩ := id hra
          simp only at y0 y1 y2 y3 y4
          have Hra := Lib.hid hra
          have Hbi := Lib.hid hbi
          have Hhs := Lib.hid hhs
          clear hra hbi hbi2 hhs
          have hEq : ∀ x : World, (binOp .eql 72 (.agg #[.int .i64 r1, .int .i64 r2, .int .i64 r3, .bool r4, .bool r5]) (.agg #[.int .i64 q1, .int .i64 q2, .int .i64 q3, .bool q4, .bool q5])).run Tryd.prog x = .ok (.bool (decide ((⟨r1, r2, r3, r4, r5⟩ : RaceR) = ⟨q1, q2, q3, q4, q5⟩))) x := fun x => race_eq ⟨r1, r2, r3, r4, r5⟩ ⟨q1, q2, q3, q4, q5⟩ x
          generalize hdq : decide ((⟨r1, r2, r3, r4, r5⟩ : RaceR) = ⟨q1, q2, q3, q4, q5⟩) = dq at hEq Hhs
          clear hdq
          generalize hasR (b.take j) ⟨r1, r2, r3, r4, r5⟩ = h7 at Hhs ⊢
          cases h7
          all_goals
            go_wp2
            go_roundg (b.length - (j + 1))
            case measure => omega
            case rel => exact ⟨j + 1, by omega, rfl, by go_num, congrArg Value.bool (by rw [Hhs.out]; simp), Hra.out.new ((Below.refl _ _).alloc (Nat.le_refl _) _), Hbi.out.alloc Hbi.out.size _⟩
        · obtain rfl : j = b.length := by omega
          rw [List.take_length] at *
          cases hq : hasR b ⟨r1, r2, r3, r4, r5⟩ with
          | true =>
            have Hq := Lib.hid hq
            have Hbi := Lib.hid (Hbw.out.trans (hbi.mono Hbw.out.size))
            clear hq hbi hra
            go_wp2
            go_roundg (a.length - (k + 1))
            case measure => omega
            case rel => exact ⟨k + 1, by omega, rfl, by go_num, by rw [Hws.out, Hq.out], Hbi.out⟩
          | false =>
            have Hq := Lib.hid hq
            have Hbi := Lib.hid (Hbw.out.trans (hbi.mono Hbw.out.size))
            clear hq hbi hra
            go_wp2
            go_ret
            exact ⟨ret_v (congrArg Value.bool (Hwo.out Hq.out).symm), Hbi.out⟩
    · obtain rfl : k = a.length := by omega
      rw [List.take_length] at hw
      have Hw := Lib.hid hw
      clear hw
      go_wp2
      go_ret
      exact ⟨ret_v (congrArg Value.bool Hw.out.symm), hbw⟩
end Go.Proofs.YtkjbpkggcddnhaaDoor
