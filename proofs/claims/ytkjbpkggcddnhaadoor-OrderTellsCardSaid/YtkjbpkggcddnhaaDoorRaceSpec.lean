/- What order.Races computes, on lists: no program, no memory. -/
import Derived.Test.YtkjbpkggcddnhaaDoorOrdPure
namespace Go.Proofs.YtkjbpkggcddnhaaDoor
set_option linter.unusedVariables false
set_option linter.unusedSimpArgs false
open Go.RowKit

/-- An access of a place. -/
structure Acc where
  ev : Ev
  at_ : Nat
deriving Inhabited, DecidableEq
def Acc.w (a : Acc) : Bool := decide (a.ev.kind = 2)
structure RaceR where
  place : Int
  first : Int
  second : Int
  fw : Bool
  sw : Bool
deriving Inhabited, DecidableEq

/-- Is an event, or does it happen before, a later one? -/
def aheadL (l : List Ev) (L : List (List Int)) (a b : Nat) : Bool := decide (getL (L.getD a []) (l.getD a default).g ≤ getL (L.getD b []) (l.getD a default).g)
/-- Does an earlier access race with b? -/
def clash (l : List Ev) (L : List (List Int)) (b a : Acc) : Bool := decide (a.ev.g ≠ b.ev.g) && (a.w || b.w) && !aheadL l L a.at_ b.at_
def better (best a : Acc) : Bool := a.w && (!best.w || decide (best.at_ < a.at_)) || !a.w && !best.w && decide (a.ev.g ≤ best.ev.g)
def pick (best a : Acc) : Acc := if better best a then a else best
def chosenL : List Acc → Acc
  | [] => default
  | a :: t => t.foldl pick a
def mkRace (a b : Acc) : RaceR := ⟨b.ev.obj, a.ev.at_, b.ev.at_, a.w, b.w⟩
structure RS where
  seen : Int → List Acc
  found : Int → Option RaceR
  places : List Int
def RS.init : RS := ⟨fun _ => [], fun _ => none, []⟩
def isAcc (e : Ev) : Bool := decide (e.kind = 1) || decide (e.kind = 2)
def racers (l : List Ev) (L : List (List Int)) (s : RS) (i : Nat) : List Acc := (s.seen (l.getD i default).obj).filter (clash l L ⟨l.getD i default, i⟩)
def stepRace (l : List Ev) (L : List (List Int)) (s : RS) (i : Nat) : RS :=
  if isAcc (l.getD i default) then
    { seen := upd s.seen (l.getD i default).obj (s.seen (l.getD i default).obj ++ [⟨l.getD i default, i⟩])
      found := if (racers l L s i).isEmpty || (s.found (l.getD i default).obj).isSome then s.found else upd s.found (l.getD i default).obj (some (mkRace (chosenL (racers l L s i)) ⟨l.getD i default, i⟩))
      places := if (racers l L s i).isEmpty || (s.found (l.getD i default).obj).isSome then s.places else s.places ++ [(l.getD i default).obj] }
  else s
def racesSt (l : List Ev) (L : List (List Int)) (k : Nat) : RS := (List.range k).foldl (stepRace l L) RS.init
theorem racesSt_succ (l : List Ev) (L : List (List Int)) (k : Nat) : racesSt l L (k + 1) = stepRace l L (racesSt l L k) k := by
  unfold racesSt; rw [List.range_succ, List.foldl_append]; rfl
def leInt : Int → Int → Bool := fun x y => decide (x ≤ y)
def racesOf (s : RS) : List RaceR := (s.places.mergeSort leInt).map fun p => (s.found p).getD default
def racesL (rooms : List Int) (l : List Ev) : List RaceR := racesOf (racesSt l (clocksL rooms l) l.length)

/-- The places are those where a race is found, each once. -/
def RS.Ok (s : RS) : Prop := s.places.Nodup ∧ ∀ p, p ∈ s.places ↔ (s.found p).isSome = true
theorem ok_init : RS.init.Ok := ⟨List.nodup_nil, fun p => by simp [RS.init]⟩
theorem ok_step {l : List Ev} {L : List (List Int)} {s : RS} (h : s.Ok) (i : Nat) : (stepRace l L s i).Ok := by
  unfold stepRace
  split
  · by_cases hc : ((racers l L s i).isEmpty || (s.found (l.getD i default).obj).isSome) = true
    · simp only [hc, if_true]
      exact h
    · have hnf : (s.found (l.getD i default).obj).isSome = false := by
        cases hq : (s.found (l.getD i default).obj).isSome
        · rfl
        · rw [hq] at hc; simp at hc
      have hni : (l.getD i default).obj ∉ s.places := fun hm => by rw [(h.2 _).1 hm] at hnf; cases hnf
      refine ⟨?_, fun p => ?_⟩
      · show List.Nodup (if _ then _ else _)
        rw [if_neg hc]
        refine List.nodup_append.2 ⟨h.1, by simp, fun a ha b hb => ?_⟩
        simp at hb
        subst hb
        exact fun e => hni (e ▸ ha)
      · show p ∈ (if _ then _ else _) ↔ Option.isSome ((if _ then _ else _ : Int → Option RaceR) p) = true
        rw [if_neg hc, if_neg hc, List.mem_append, List.mem_singleton]
        by_cases hp : p = (l.getD i default).obj
        · rw [hp, upd_same]
          simp
        · rw [upd_other _ _ hp, h.2 p]
          simp only [hp, or_false]
  · exact h
theorem ok_state (l : List Ev) (L : List (List Int)) : ∀ k, (racesSt l L k).Ok
  | 0 => ok_init
  | k + 1 => by rw [racesSt_succ]; exact ok_step (ok_state l L k) k
theorem seen_length (l : List Ev) (L : List (List Int)) : ∀ k p, ((racesSt l L k).seen p).length ≤ k
  | 0, p => by simp [racesSt, RS.init]
  | k + 1, p => by
    have ih := seen_length l L k
    rw [racesSt_succ]
    unfold stepRace
    split
    · show (upd (racesSt l L k).seen (l.getD k default).obj _ p).length ≤ _
      by_cases hp : p = (l.getD k default).obj
      · subst hp
        rw [upd_same]
        have := ih (l.getD k default).obj
        rw [List.length_append]
        simp only [List.length_cons, List.length_nil]
        omega
      · rw [upd_other _ _ hp]
        have := ih p
        omega
    · have := ih p; omega
theorem places_length (l : List Ev) (L : List (List Int)) : ∀ k, (racesSt l L k).places.length ≤ k
  | 0 => by simp [racesSt, RS.init]
  | k + 1 => by
    have ih := places_length l L k
    rw [racesSt_succ]
    unfold stepRace
    split
    · dsimp only
      split
      · omega
      · simp; omega
    · omega
end Go.Proofs.YtkjbpkggcddnhaaDoor
