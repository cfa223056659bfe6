/- Plain laws of the races: a trace cut short; no writes; places of one's own. No program, no memory. -/
import Derived.Test.YtkjbpkggcddnhaaDoorRaceSpec
namespace Go.Proofs.YtkjbpkggcddnhaaDoor
set_option linter.unusedVariables false
set_option linter.unusedSimpArgs false
open Go.RowKit

/-- What is seen is seen before k, at its own event and place. -/
def SeenOk (l : List Ev) (k : Nat) (s : RS) : Prop := ∀ p, ∀ a ∈ s.seen p, a.at_ < k ∧ a.ev = l.getD a.at_ default ∧ a.ev.obj = p ∧ isAcc a.ev = true
theorem seenOk_state (l : List Ev) (L : List (List Int)) : ∀ k, SeenOk l k (racesSt l L k)
  | 0 => fun p a ha => by simp [racesSt, RS.init] at ha
  | k + 1 => by
    have ih := seenOk_state l L k
    rw [racesSt_succ]
    intro p a ha
    unfold stepRace at ha
    split at ha
    · rename_i hacc
      have ha : a ∈ upd (racesSt l L k).seen (l.getD k default).obj _ p := ha
      by_cases hp : p = (l.getD k default).obj
      · rw [hp, upd_same] at ha
        rcases List.mem_append.1 ha with ha | ha
        · obtain ⟨h1, h2, h3, h4⟩ := ih _ a ha
          exact ⟨by omega, h2, by rw [hp]; exact h3, h4⟩
        · obtain rfl : a = ⟨l.getD k default, k⟩ := by simpa using ha
          exact ⟨Nat.lt_succ_self k, rfl, hp.symm, hacc⟩
      · rw [upd_other _ _ hp] at ha
        obtain ⟨h1, h2, h3, h4⟩ := ih _ a ha
        exact ⟨by omega, h2, h3, h4⟩
    · obtain ⟨h1, h2, h3, h4⟩ := ih _ a ha
      exact ⟨by omega, h2, h3, h4⟩

/-! ### a trace cut short -/
theorem getD_take {α : Type} (l : List α) (d : α) {i k : Nat} (h : i < k) : (l.take k).getD i d = l.getD i d := by
  rw [List.getD_eq_getElem?_getD, List.getD_eq_getElem?_getD, List.getElem?_take, if_pos h]
theorem stepRace_take (l : List Ev) (L : List (List Int)) {s : RS} {i k : Nat} (hi : i < k) (hs : SeenOk l i s) : stepRace (l.take k) (L.take k) s i = stepRace l L s i := by
  have h1 : (l.take k).getD i default = l.getD i default := getD_take l default hi
  have h2 : racers (l.take k) (L.take k) s i = racers l L s i := by
    unfold racers
    rw [h1]
    refine List.filter_congr fun a ha => ?_
    obtain ⟨ha1, _⟩ := hs _ a ha
    unfold clash aheadL
    simp only
    rw [getD_take l default (show a.at_ < k by omega), getD_take L [] (show a.at_ < k by omega), getD_take L [] hi]
  unfold stepRace
  rw [h2, h1]
theorem racesSt_take (l : List Ev) (L : List (List Int)) {c : Nat} : ∀ k, k ≤ c → racesSt (l.take c) (L.take c) k = racesSt l L k
  | 0, _ => rfl
  | k + 1, hk => by
    rw [racesSt_succ, racesSt_succ, racesSt_take l L k (by omega), stepRace_take l L (by omega) (seenOk_state l L k)]
theorem found_step (l : List Ev) (L : List (List Int)) (s : RS) (i : Nat) (p : Int) {r : RaceR} (h : s.found p = some r) : (stepRace l L s i).found p = some r := by
  unfold stepRace
  split
  · dsimp only
    split
    · exact h
    · rename_i hc
      by_cases hp : p = (l.getD i default).obj
      · rw [← hp, h] at hc
        simp at hc
      · rw [upd_other _ _ hp]; exact h
  · exact h
theorem found_mono (l : List Ev) (L : List (List Int)) {k : Nat} {p : Int} {r : RaceR} (h : (racesSt l L k).found p = some r) : ∀ m, k ≤ m → (racesSt l L m).found p = some r
  | 0, hm => by obtain rfl : k = 0 := by omega
                exact h
  | m + 1, hm => by
    by_cases e : k = m + 1
    · rw [← e]; exact h
    · rw [racesSt_succ]
      exact found_step l L _ m p (found_mono l L h m (by omega))
theorem mem_racesOf {s : RS} (hs : s.Ok) (r : RaceR) : r ∈ racesOf s ↔ ∃ p, s.found p = some r := by
  unfold racesOf
  rw [List.mem_map]
  constructor
  · rintro ⟨p, hp, rfl⟩
    rw [List.mem_mergeSort, hs.2 p] at hp
    obtain ⟨r, hr⟩ := Option.isSome_iff_exists.1 hp
    exact ⟨p, by rw [hr]; rfl⟩
  · rintro ⟨p, hp⟩
    refine ⟨p, ?_, by rw [hp]; rfl⟩
    rw [List.mem_mergeSort, hs.2 p, hp]; rfl
/-- The races of a trace cut short are races of the whole. -/
theorem races_cut (rooms : List Int) (l : List Ev) {c : Nat} (hc : c ≤ l.length) : ∀ r ∈ racesL rooms (l.take c), r ∈ racesL rooms l := by
  intro r hr
  unfold racesL at hr ⊢
  rw [mem_racesOf (ok_state _ _ _)] at hr ⊢
  obtain ⟨p, hp⟩ := hr
  have hl : (l.take c).length = c := by rw [List.length_take]; omega
  rw [hl, clocksL_take, racesSt_take l _ c (Nat.le_refl c)] at hp
  exact ⟨p, found_mono l _ hp _ hc⟩

/-! ### no race -/
theorem no_races {rooms : List Int} {l : List Ev} (h : ∀ i, i < l.length → isAcc (l.getD i default) = true → racers l (clocksL rooms l) (racesSt l (clocksL rooms l) i) i = []) : racesL rooms l = [] := by
  have hf : ∀ k, k ≤ l.length → (racesSt l (clocksL rooms l) k).places = [] := by
    intro k
    induction k with
    | zero => intro _; rfl
    | succ k ih =>
      intro hk
      rw [racesSt_succ]
      unfold stepRace
      split
      · rename_i hacc
        rw [h k (by omega) hacc]
        simpa using ih (by omega)
      · exact ih (by omega)
  unfold racesL racesOf
  rw [hf _ (Nat.le_refl _)]
  simp
/-- A trace without writes has none. -/
theorem no_races_reads {rooms : List Int} {l : List Ev} (h : ∀ e ∈ l, e.kind ≠ 2) : racesL rooms l = [] := by
  refine no_races fun i hi _ => ?_
  unfold racers
  rw [List.filter_eq_nil_iff]
  intro a ha
  obtain ⟨h1, h2, _⟩ := seenOk_state l (clocksL rooms l) i _ a ha
  have hb := h _ (getD_mem (d := default) hi)
  have haw := h _ (getD_mem (d := default) (show a.at_ < l.length by omega))
  rw [← h2] at haw
  unfold clash Acc.w
  simp [haw]
  intro _ hb2
  exact absurd hb2 (by simpa using hb)
/-- Nor has one in which each goroutine has places of its own. -/
theorem no_races_own {rooms : List Int} {l : List Ev} (h : ∀ e ∈ l, isAcc e = true → e.obj = e.g) : racesL rooms l = [] := by
  refine no_races fun i hi hacc => ?_
  unfold racers
  rw [List.filter_eq_nil_iff]
  intro a ha
  obtain ⟨h1, h2, h3, h4⟩ := seenOk_state l (clocksL rooms l) i _ a ha
  have hb := h _ (getD_mem (d := default) hi) hacc
  have haw := h _ (getD_mem (d := default) (show a.at_ < l.length by omega))
  rw [← h2] at haw
  have := haw h4
  have he : a.ev.g = (l.getD i default).g := by rw [← this, h3, hb]
  unfold clash
  rw [he]
  simp
end Go.Proofs.YtkjbpkggcddnhaaDoor
