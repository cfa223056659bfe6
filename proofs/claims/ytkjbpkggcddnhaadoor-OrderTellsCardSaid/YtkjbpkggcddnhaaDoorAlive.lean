/- The walk of the chapter's examples (stockadelaw18.alive). -/
import Derived.Test.YtkjbpkggcddnhaaDoorRaces
namespace Go.Proofs.YtkjbpkggcddnhaaDoor
set_option linter.unusedVariables false
set_option linter.unusedSimpArgs false
open Go.RowKit Go.Maps

/-- A trace that was just laid. -/
theorem evs_made (w : World) (l : List Ev) (T : Nat) (hl : l.length ≤ 9223372036854775807) : Evs (w.alloc (.cells (l.flatMap evCells).toArray T)) (.slice (some ⟨w.heap.size, 0, none⟩) l.length l.length) l := by
  have hfl : (l.flatMap evCells).length = l.length * 4 := by
    induction l with
    | nil => rfl
    | cons e t ih => rw [List.flatMap_cons, List.length_append, ih (by simp at hl; omega), evCells_length, List.length_cons]; omega
  refine ⟨hfl, hl, .inr ⟨w.heap.size, 0, l.length, rfl, by simp, Nat.le_refl _, fun j hj => ?_⟩⟩
  have hj' : j < (l.flatMap evCells).length := by omega
  rw [List.getElem?_eq_getElem hj', Nat.zero_add]
  exact new_cells w _ T j _ (List.getElem?_eq_getElem hj')

def aliveL1 : List Ev := [⟨0, 2, 0, 0⟩, ⟨0, 10, 1, 0⟩, ⟨1, 1, 0, 0⟩]
def aliveL2 : List Ev := [⟨0, 10, 1, 0⟩, ⟨0, 2, 0, 4⟩, ⟨1, 1, 0, 9⟩]
theorem alive_races1 : racesL [] aliveL1 = [] := by
  have h : (racesSt aliveL1 (clocksL [] aliveL1) aliveL1.length).places = [] := by decide
  unfold racesL racesOf
  rw [h]
  simp
theorem alive_races2 : racesL [] aliveL2 = [⟨0, 4, 9, true, false⟩] := by
  have h : (racesSt aliveL2 (clocksL [] aliveL2) aliveL2.length).places = [0] := by decide
  have h2 : (racesSt aliveL2 (clocksL [] aliveL2) aliveL2.length).found 0 = some ⟨0, 4, 9, true, false⟩ := by decide
  unfold racesL racesOf
  rw [h]
  simp [h2]
theorem alive_trace1 : Trace aliveL1 [] := ⟨by decide, by decide, fun r h => by cases h⟩
theorem alive_trace2 : Trace aliveL2 [] := ⟨by decide, by decide, fun r h => by cases h⟩

set_option maxRecDepth 100000 in
set_option maxHeartbeats 4000000 in
theorem alive_any {w : World} {T : TypeId} {ev0 : Value} (her : w.cell? ⟨0, 0, none⟩ = some (.iface T ev0)) :
    Calls Tryd.prog 12 #[] w fun e w' => e = .returned (.bool true) ∧ Below w.heap.size w w' := by
  have Her := Lib.hid her
  clear her
  go_enter Tryd.func12, Tryd.ntmps12
  go_wp2_with fail
  have h1 : Evs (w.alloc (.cells #[.int .i64 0, .int .i64 2, .int .i64 0, .int .i64 0, .int .i64 0, .int .i64 10, .int .i64 1, .int .i64 0, .int .i64 1, .int .i64 1, .int .i64 0, .int .i64 0] 38)) (.slice (some ⟨w.heap.size, 0, none⟩) 3 3) aliveL1 := evs_made w aliveL1 38 (by decide)
  have hb1 : Below w.heap.size w (w.alloc (.cells #[.int .i64 0, .int .i64 2, .int .i64 0, .int .i64 0, .int .i64 0, .int .i64 10, .int .i64 1, .int .i64 0, .int .i64 1, .int .i64 1, .int .i64 0, .int .i64 0] 38)) := (Below.refl _ w).alloc (Nat.le_refl _) _
  refine (races_any alive_trace1 h1 (Ints.nil _) ((hb1.cell (World.block_lt_of_cell? w _ Her.out)).trans Her.out)).mono ?_
  rintro e w1 ⟨hb2, hres⟩
  have hb3 : Below w.heap.size w w1 := hb1.trans (hb2.mono hb1.size)
  rcases hres with ⟨hf, _⟩ | ⟨_, va, rfl, hva⟩
  · exact absurd hf (by decide)
  rw [alive_races1] at hva
  obtain ⟨aa, ca, rfl⟩ : ∃ a c, va = .slice a 0 c := by
    rcases hva.2.2 with ⟨rfl, _⟩ | ⟨b, off, cap, rfl, _⟩
    · exact ⟨_, _, rfl⟩
    · exact ⟨_, _, rfl⟩
  have Hb3 := Lib.hid hb3
  clear h1 hb1 hb2 hb3 hva
  go_wp2_with fail
  have h1 : Evs (w1.alloc (.cells #[.int .i64 0, .int .i64 10, .int .i64 1, .int .i64 0, .int .i64 0, .int .i64 2, .int .i64 0, .int .i64 4, .int .i64 1, .int .i64 1, .int .i64 0, .int .i64 9] 38)) (.slice (some ⟨w1.heap.size, 0, none⟩) 3 3) aliveL2 := evs_made w1 aliveL2 38 (by decide)
  have hb1 : Below w1.heap.size w1 (w1.alloc (.cells #[.int .i64 0, .int .i64 10, .int .i64 1, .int .i64 0, .int .i64 0, .int .i64 2, .int .i64 0, .int .i64 4, .int .i64 1, .int .i64 1, .int .i64 0, .int .i64 9] 38)) := (Below.refl _ w1).alloc (Nat.le_refl _) _
  have hb1' := Hb3.out.trans (hb1.mono Hb3.out.size)
  refine (races_any alive_trace2 h1 (Ints.nil _) ((hb1'.cell (World.block_lt_of_cell? w _ Her.out)).trans Her.out)).mono ?_
  rintro e w2 ⟨hb2, hres⟩
  have hb4 : Below w.heap.size w w2 := hb1'.trans (hb2.mono hb1'.size)
  rcases hres with ⟨hf, _⟩ | ⟨_, vb, rfl, hvb⟩
  · exact absurd hf (by decide)
  rw [alive_races2] at hvb
  have Hb4 := Lib.hid hb4
  clear h1 hb1 hb1' hb2 hb4
  rcases hvb.2.2 with ⟨_, h0⟩ | ⟨b, off, cap, rfl, _, _, hc⟩
  · simp at h0
  have c0 := hc 0 (by decide)
  have c1 := hc 1 (by decide)
  have c2 := hc 2 (by decide)
  have c3 := hc 3 (by decide)
  have c4 := hc 4 (by decide)
  simp [raceCells] at c0 c1 c2 c3 c4
  clear hc hvb
  go_wp2_with fail
  go_ret
  exact ⟨rfl, Hb4.out⟩
end Go.Proofs.YtkjbpkggcddnhaaDoor
