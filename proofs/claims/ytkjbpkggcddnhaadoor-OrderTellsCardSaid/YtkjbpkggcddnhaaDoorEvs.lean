/- Traces in memory; order.Check and the reference's Form. -/
import Derived.Test.YtkjbpkggcddnhaaDoorOrdSpec
import Derived.Deep.QuietTactic
import Derived.BigQuiet
namespace Go.Proofs.YtkjbpkggcddnhaaDoor
set_option linter.unusedVariables false
set_option linter.unusedSimpArgs false
open Go.RowKit

/-- An event's numbers are numbers of the machine. -/
def evWf (e : Ev) : Prop := (Lit.int .i64 e.g).wf = true ∧ (Lit.int .i64 e.kind).wf = true ∧ (Lit.int .i64 e.obj).wf = true ∧ (Lit.int .i64 e.at_).wf = true
def evCells (e : Ev) : List Value := [.int .i64 e.g, .int .i64 e.kind, .int .i64 e.obj, .int .i64 e.at_]
theorem evCells_length (e : Ev) : (evCells e).length = 4 := rfl
/-- v reads as the trace l. -/
def Evs (w : World) (v : Value) (l : List Ev) : Prop := SlAt w v 4 l.length (l.flatMap evCells)
theorem flat4_get : ∀ (l : List Ev) (i : Nat), i < l.length → ∀ j, j < 4 → (l.flatMap evCells)[i * 4 + j]? = (evCells (l.getD i default))[j]?
  | [], i, h, j, hj => by simp at h
  | e :: t, 0, h, j, hj => by
    rw [List.flatMap_cons, Nat.zero_mul, Nat.zero_add, List.getElem?_append_left (by rw [evCells_length]; exact hj)]; rfl
  | e :: t, i + 1, h, j, hj => by
    rw [List.flatMap_cons, List.getElem?_append_right (by rw [evCells_length]; omega), evCells_length, show (i + 1) * 4 + j - 4 = i * 4 + j by omega, flat4_get t i (by simp at h; omega) j hj]
    simp
theorem Evs.nil (w : World) : Evs w (.slice none 0 0) [] := SlAt.nil w 4
theorem Evs.new {w w' : World} {v : Value} {l : List Ev} (h : Evs w v l) (hb : Below w.heap.size w w') : Evs w' v l := SlAt.new h hb
theorem Evs.kept {S : Nat → Prop} {w w' : World} {v : Value} {l : List Ev} (h : Evs w v l) (hc : Chg S w w') (hs : ∀ b, v.ownBlock = some b → ¬ S b) : Evs w' v l := SlAt.kept h hc hs
theorem Evs.cases {w : World} {v : Value} {l : List Ev} (h : Evs w v l) : (v = .slice none 0 0 ∧ l = []) ∨
    ∃ b off cap, v = .slice (some ⟨b, off, none⟩) l.length cap ∧ b < w.heap.size ∧ l.length ≤ cap ∧ l.length ≤ 9223372036854775807 ∧ ∀ i, i < l.length →
      w.cell? ⟨b, off + i * 4, none⟩ = some (.int .i64 (l.getD i default).g) ∧ w.cell? ⟨b, off + i * 4 + 1, none⟩ = some (.int .i64 (l.getD i default).kind) ∧
      w.cell? ⟨b, off + i * 4 + 2, none⟩ = some (.int .i64 (l.getD i default).obj) ∧ w.cell? ⟨b, off + i * 4 + 3, none⟩ = some (.int .i64 (l.getD i default).at_) := by
  obtain ⟨_, hm, h⟩ := h
  rcases h with ⟨h0, h1⟩ | ⟨b, off, cap, rfl, hlt, hcap, hc⟩
  · exact .inl ⟨h0, List.eq_nil_of_length_eq_zero h1⟩
  · refine .inr ⟨b, off, cap, rfl, hlt, hcap, hm, fun i hi => ?_⟩
    have h1 := fun j hj => (hc (i * 4 + j) (by omega)).trans (flat4_get l i hi j hj)
    refine ⟨h1 0 (by omega), ?_, ?_, ?_⟩
    · rw [Nat.add_assoc]; exact h1 1 (by omega)
    · rw [Nat.add_assoc]; exact h1 2 (by omega)
    · rw [Nat.add_assoc]; exact h1 3 (by omega)
theorem Evs.shape {w : World} {v : Value} {l : List Ev} (h : Evs w v l) : ∃ a c, v = .slice a l.length c := by
  rcases h.cases with ⟨rfl, rfl⟩ | ⟨b, off, cap, rfl, _⟩
  · exact ⟨_, _, rfl⟩
  · exact ⟨_, _, rfl⟩

theorem all_getD {p : Ev → Bool} {l : List Ev} (h : l.all p = true) {k : Nat} (hk : k < l.length) : p (l.getD k default) = true := by
  rw [List.getD_eq_getElem?_getD, List.getElem?_eq_getElem hk]
  exact List.all_eq_true.1 h _ (List.getElem_mem hk)
theorem all_take_succ {p : Ev → Bool} {l : List Ev} {k : Nat} (hk : k < l.length) (h : (l.take k).all p = true) (h1 : p (l.getD k default) = true) : (l.take (k + 1)).all p = true := by
  rw [List.take_add_one, List.all_append, h, List.getElem?_eq_getElem hk]
  rw [List.getD_eq_getElem?_getD, List.getElem?_eq_getElem hk] at h1
  simpa using h1
theorem not_all_at {p : Ev → Bool} {l : List Ev} {k : Nat} (hk : k < l.length) (h1 : p (l.getD k default) = false) : l.all p = false := by
  cases h : l.all p with
  | false => rfl
  | true => rw [all_getD h hk] at h1; cases h1

/-- Check's answer. -/
def checkV (l : List Ev) (er : Value) : Value := if l.all evForm then .nilIface else er
/-- Form's answer. -/
def formV (l : List Ev) : Value := .bool (l.all evForm)
theorem ret_v {a b : Value} (h : a = b) : Ending.returned a = .returned b := by rw [h]
theorem evForm_true {g k o a : Int} (h : evForm ⟨g, k, o, a⟩ = true) : 0 ≤ g ∧ g < 8 ∧ 1 ≤ k ∧ k ≤ 12 ∧ (k = 10 → 0 ≤ o ∧ o < 8) := by
  simp only [evForm, Bool.and_eq_true, decide_eq_true_eq, Bool.or_eq_true, Bool.not_eq_true', decide_eq_false_iff_not] at h
  exact ⟨h.1.1.1.1, h.1.1.1.2, h.1.1.2, h.1.2, fun e => by rcases h.2 with h | h; exact absurd e h; exact h⟩
theorem evForm_mk {g k o a : Int} (h0 : 0 ≤ g) (h1 : g < 8) (h2 : 1 ≤ k) (h3 : k ≤ 12) (h4 : k = 10 → 0 ≤ o ∧ o < 8) : evForm ⟨g, k, o, a⟩ = true := by
  simp only [evForm, Bool.and_eq_true, decide_eq_true_eq, Bool.or_eq_true, Bool.not_eq_true', decide_eq_false_iff_not]
  exact ⟨⟨⟨⟨h0, h1⟩, h2⟩, h3⟩, by by_cases e : k = 10; exact .inr (h4 e); exact .inl e⟩

set_option maxRecDepth 100000 in
set_option maxHeartbeats 4000000 in
theorem check_some (b off cap : Nat) (l : List Ev) (w : World) (er : Value) (her : w.cell? ⟨0, 0, none⟩ = some er) (hl : l.length ≤ 9223372036854775807)
   (hc : ∀ i, i < l.length → w.cell? ⟨b, off + i * 4, none⟩ = some (.int .i64 (l.getD i default).g) ∧ w.cell? ⟨b, off + i * 4 + 1, none⟩ = some (.int .i64 (l.getD i default).kind) ∧
      w.cell? ⟨b, off + i * 4 + 2, none⟩ = some (.int .i64 (l.getD i default).obj) ∧ w.cell? ⟨b, off + i * 4 + 3, none⟩ = some (.int .i64 (l.getD i default).at_)) :
    Calls Tryd.prog 18 #[.slice (some ⟨b, off, none⟩) l.length cap] w fun e w' => e = .returned (checkV l er) ∧ Below w.heap.size w w' := by
  have Hc := Lib.hid hc
  clear hc
  go_enter Tryd.func18, Tryd.ntmps18
  go_wp2
  go_loopw [2, 4, 7] (fun r v i wr => ∃ k : Nat, k ≤ l.length ∧ i = .int .i64 k ∧ (l.take k).all evForm = true ∧ Below w.heap.size w wr) (fun _ _ i _ => l.length - (intOf i).toNat)
  case atStart => exact ⟨0, Nat.zero_le _, rfl, rfl, Below.refl _ _⟩
  case round =>
    obtain ⟨k, hk, rfl, hall, hb⟩ := hrel
    have Hall := Lib.hid hall
    clear hall
    by_cases hlt : k < l.length
    · obtain ⟨c0, c1, c2, c3⟩ := Hc.out k hlt
      rw [← hb.cell (World.block_lt_of_cell? w _ c0)] at c0
      rw [← hb.cell (World.block_lt_of_cell? w _ c1)] at c1
      rw [← hb.cell (World.block_lt_of_cell? w _ c2)] at c2
      rw [← hb.cell (World.block_lt_of_cell? w _ c3)] at c3
      have c9 := her
      rw [← hb.cell (World.block_lt_of_cell? w _ her)] at c9
      have hlt0 : 0 < wr.heap.size := World.block_lt_of_cell? wr _ c9
      generalize hev : l.getD k default = ev at c0 c1 c2 c3
      have Hev := Lib.hid hev
      clear hev
      obtain ⟨g, kd, ob, at'⟩ := ev
      simp only at c0 c1 c2 c3
      by_cases hf : evForm ⟨g, kd, ob, at'⟩ = true
      · obtain ⟨f0, f1, f2, f3, f4⟩ := evForm_true hf
        have Hf := Lib.hid hf
        have Hf4 := Lib.hid f4
        clear hf f4
        by_cases hk10 : kd = 10
        · obtain ⟨f5, f6⟩ := Hf4.out hk10
          obtain rfl : kd = 10 := hk10
          go_wp2_with fail
          go_roundw
          case rel => exact ⟨k + 1, by omega, by go_num, all_take_succ hlt Hall.out (by rw [Hev.out]; exact Hf.out), hb.alloc hb.size _⟩
          case measure => simp [intOf]; omega
        · have hk10' : (kd == 10) = false := beq_false_of_ne hk10
          go_wp2_with fail
          go_roundw
          case rel => exact ⟨k + 1, by omega, by go_num, all_take_succ hlt Hall.out (by rw [Hev.out]; exact Hf.out), hb.alloc hb.size _⟩
          case measure => simp [intOf]; omega
      · have hff : l.all evForm = false := not_all_at hlt (by rw [Hev.out]; simpa using hf)
        have Hff := Lib.hid hff
        have Hf := Lib.hid hf
        clear hff hf
        have hend : ∀ w', Below w.heap.size w w' → Ending.returned er = .returned (checkV l er) ∧ Below w.heap.size w w' := fun w' h => ⟨ret_v (by simp [checkV, formV, Hff.out]), h⟩
        have Hend := Lib.hid hend
        clear hend
        by_cases f0 : g < 0
        · go_wp2_with fail
          go_ret
          exact Hend.out _ (hb.alloc hb.size _)
        by_cases f1 : 8 ≤ g
        · go_wp2_with fail
          go_ret
          exact Hend.out _ (hb.alloc hb.size _)
        by_cases f2 : kd < 1
        · go_wp2_with fail
          go_ret
          exact Hend.out _ (hb.alloc hb.size _)
        by_cases f3 : 12 < kd
        · go_wp2_with fail
          go_ret
          exact Hend.out _ (hb.alloc hb.size _)
        by_cases f4 : kd = 10
        · obtain rfl : kd = 10 := f4
          by_cases f5 : ob < 0
          · go_wp2_with fail
            go_ret
            exact Hend.out _ (hb.alloc hb.size _)
          by_cases f6 : 8 ≤ ob
          · go_wp2_with fail
            go_ret
            exact Hend.out _ (hb.alloc hb.size _)
          exact absurd (evForm_mk (by omega) (by omega) (by omega) (by omega) (fun _ => by omega)) Hf.out
        exact absurd (evForm_mk (by omega) (by omega) (by omega) (by omega) (fun e => absurd e f4)) Hf.out
    · have hkn : k = l.length := by omega
      obtain rfl : k = l.length := hkn
      have hall : l.all evForm = true := by have := Hall.out; rwa [List.take_length] at this
      have Hall2 := Lib.hid hall
      clear hall
      go_wp2
      go_ret
      exact ⟨ret_v (by simp [checkV, formV, Hall2.out]), hb⟩
set_option maxHeartbeats 400000 in
theorem check_any {w : World} {v : Value} {l : List Ev} (h : Evs w v l) (er : Value) (her : w.cell? ⟨0, 0, none⟩ = some er) :
    Calls Tryd.prog 18 #[v] w fun e w' => e = .returned (checkV l er) ∧ Below w.heap.size w w' := by
  rcases h.cases with ⟨rfl, rfl⟩ | ⟨b, off, cap, rfl, hlt, hcap, hm, hc⟩
  · go_enter Tryd.func18, Tryd.ntmps18
    go_wp2
    go_loopw [2, 4, 7] (fun r v i wr => i = .int .i64 0 ∧ wr = w) (fun _ _ i _ => 0)
    case atStart => exact ⟨rfl, rfl⟩
    case round =>
      obtain ⟨rfl, rfl⟩ := hrel
      go_wp2
      go_ret
      exact ⟨ret_v rfl, Below.refl _ _⟩
  · exact check_some b off cap l w er her hm hc
set_option maxRecDepth 100000 in
set_option maxHeartbeats 4000000 in
theorem form_some (b off cap : Nat) (l : List Ev) (w : World)  (hl : l.length ≤ 9223372036854775807)
   (hc : ∀ i, i < l.length → w.cell? ⟨b, off + i * 4, none⟩ = some (.int .i64 (l.getD i default).g) ∧ w.cell? ⟨b, off + i * 4 + 1, none⟩ = some (.int .i64 (l.getD i default).kind) ∧
      w.cell? ⟨b, off + i * 4 + 2, none⟩ = some (.int .i64 (l.getD i default).obj) ∧ w.cell? ⟨b, off + i * 4 + 3, none⟩ = some (.int .i64 (l.getD i default).at_)) :
    Calls Tryd.prog 14 #[.slice (some ⟨b, off, none⟩) l.length cap] w fun e w' => e = .returned (formV l) ∧ Below w.heap.size w w' := by
  have Hc := Lib.hid hc
  clear hc
  go_enter Tryd.func14, Tryd.ntmps14
  go_wp2
  go_loopw [2, 4, 7] (fun r v i wr => ∃ k : Nat, k ≤ l.length ∧ i = .int .i64 k ∧ (l.take k).all evForm = true ∧ Below w.heap.size w wr) (fun _ _ i _ => l.length - (intOf i).toNat)
  case atStart => exact ⟨0, Nat.zero_le _, rfl, rfl, Below.refl _ _⟩
  case round =>
    obtain ⟨k, hk, rfl, hall, hb⟩ := hrel
    have Hall := Lib.hid hall
    clear hall
    by_cases hlt : k < l.length
    · obtain ⟨c0, c1, c2, c3⟩ := Hc.out k hlt
      rw [← hb.cell (World.block_lt_of_cell? w _ c0)] at c0
      rw [← hb.cell (World.block_lt_of_cell? w _ c1)] at c1
      rw [← hb.cell (World.block_lt_of_cell? w _ c2)] at c2
      rw [← hb.cell (World.block_lt_of_cell? w _ c3)] at c3
      generalize hev : l.getD k default = ev at c0 c1 c2 c3
      have Hev := Lib.hid hev
      clear hev
      obtain ⟨g, kd, ob, at'⟩ := ev
      simp only at c0 c1 c2 c3
      by_cases hf : evForm ⟨g, kd, ob, at'⟩ = true
      · obtain ⟨f0, f1, f2, f3, f4⟩ := evForm_true hf
        have Hf := Lib.hid hf
        have Hf4 := Lib.hid f4
        clear hf f4
        by_cases hk10 : kd = 10
        · obtain ⟨f5, f6⟩ := Hf4.out hk10
          obtain rfl : kd = 10 := hk10
          go_wp2_with fail
          go_roundw
          case rel => exact ⟨k + 1, by omega, by go_num, all_take_succ hlt Hall.out (by rw [Hev.out]; exact Hf.out), hb.alloc hb.size _⟩
          case measure => simp [intOf]; omega
        · have hk10' : (kd == 10) = false := beq_false_of_ne hk10
          go_wp2_with fail
          go_roundw
          case rel => exact ⟨k + 1, by omega, by go_num, all_take_succ hlt Hall.out (by rw [Hev.out]; exact Hf.out), hb.alloc hb.size _⟩
          case measure => simp [intOf]; omega
      · have hff : l.all evForm = false := not_all_at hlt (by rw [Hev.out]; simpa using hf)
        have Hff := Lib.hid hff
        have Hf := Lib.hid hf
        clear hff hf
        have hend : ∀ w', Below w.heap.size w w' → Ending.returned (.bool false) = .returned (formV l) ∧ Below w.heap.size w w' := fun w' h => ⟨ret_v (by simp [checkV, formV, Hff.out]), h⟩
        have Hend := Lib.hid hend
        clear hend
        by_cases f0 : g < 0
        · go_wp2_with fail
          go_ret
          exact Hend.out _ (hb.alloc hb.size _)
        by_cases f1 : 8 ≤ g
        · go_wp2_with fail
          go_ret
          exact Hend.out _ (hb.alloc hb.size _)
        by_cases f2 : kd < 1
        · go_wp2_with fail
          go_ret
          exact Hend.out _ (hb.alloc hb.size _)
        by_cases f3 : 12 < kd
        · go_wp2_with fail
          go_ret
          exact Hend.out _ (hb.alloc hb.size _)
        by_cases f4 : kd = 10
        · obtain rfl : kd = 10 := f4
          by_cases f5 : ob < 0
          · go_wp2_with fail
            go_ret
            exact Hend.out _ (hb.alloc hb.size _)
          by_cases f6 : 8 ≤ ob
          · go_wp2_with fail
            go_ret
            exact Hend.out _ (hb.alloc hb.size _)
          exact absurd (evForm_mk (by omega) (by omega) (by omega) (by omega) (fun _ => by omega)) Hf.out
        exact absurd (evForm_mk (by omega) (by omega) (by omega) (by omega) (fun e => absurd e f4)) Hf.out
    · have hkn : k = l.length := by omega
      obtain rfl : k = l.length := hkn
      have hall : l.all evForm = true := by have := Hall.out; rwa [List.take_length] at this
      have Hall2 := Lib.hid hall
      clear hall
      go_wp2
      go_ret
      exact ⟨ret_v (by simp [checkV, formV, Hall2.out]), hb⟩
set_option maxHeartbeats 400000 in
theorem form_any {w : World} {v : Value} {l : List Ev} (h : Evs w v l)  :
    Calls Tryd.prog 14 #[v] w fun e w' => e = .returned (formV l) ∧ Below w.heap.size w w' := by
  rcases h.cases with ⟨rfl, rfl⟩ | ⟨b, off, cap, rfl, hlt, hcap, hm, hc⟩
  · go_enter Tryd.func14, Tryd.ntmps14
    go_wp2
    go_loopw [2, 4, 7] (fun r v i wr => i = .int .i64 0 ∧ wr = w) (fun _ _ i _ => 0)
    case atStart => exact ⟨rfl, rfl⟩
    case round =>
      obtain ⟨rfl, rfl⟩ := hrel
      go_wp2
      go_ret
      exact ⟨ret_v rfl, Below.refl _ _⟩
  · exact form_some b off cap l w hm hc
end Go.Proofs.YtkjbpkggcddnhaaDoor
