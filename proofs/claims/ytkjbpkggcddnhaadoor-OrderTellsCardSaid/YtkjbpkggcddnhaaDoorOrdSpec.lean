/- What package order computes, on lists of numbers: no program, no memory. -/
import Derived.Test.YtkjbpkggcddnhaaDoorMaps
import Derived.Test.YtkjbpkggcddnhaaDoorJoin
namespace Go.Proofs.YtkjbpkggcddnhaaDoor
set_option linter.unusedVariables false
set_option linter.unusedSimpArgs false
open Go.RowKit

structure Ev where
  g : Int
  kind : Int
  obj : Int
  at_ : Int
deriving Inhabited, DecidableEq

def evForm (e : Ev) : Bool := decide (0 ≤ e.g) && decide (e.g < 8) && decide (1 ≤ e.kind) && decide (e.kind ≤ 12) && (!decide (e.kind = 10) || (decide (0 ≤ e.obj) && decide (e.obj < 8)))

structure Pipe where
  sent : List (List Int)
  got : List (List Int)
  frm : List Int
deriving Inhabited

/-- What each goroutine, mutex, atomic, channel has seen. -/
structure WS where
  own : Int → List Int
  mu : Int → List Int
  am : Int → List Int
  pp : Int → Pipe

def WS.init : WS := ⟨fun _ => [], fun _ => [], fun _ => [], fun _ => ⟨[], [], []⟩⟩

def roomL (rooms : List Int) (c : Int) : Int := if 0 ≤ c ∧ c < rooms.length then max (rooms.getD c.toNat 0) 0 else 0
theorem roomL_nonneg (rooms : List Int) (c : Int) : 0 ≤ roomL rooms c := by unfold roomL; split <;> omega

/-- The clock that an event comes to, before its own count. -/
def comesL (rooms : List Int) (s : WS) (e : Ev) : List Int :=
  if e.kind = 3 then joinL (s.own e.g) (s.mu e.obj)
  else if e.kind = 7 ∨ e.kind = 8 ∨ e.kind = 9 then joinL (s.own e.g) (s.am e.obj)
  else if e.kind = 5 then
    (if 0 < roomL rooms e.obj ∧ roomL rooms e.obj ≤ (s.pp e.obj).sent.length ∧ ((s.pp e.obj).sent.length : Int) - roomL rooms e.obj < (s.pp e.obj).got.length then
      joinL (s.own e.g) ((s.pp e.obj).got.getD (((s.pp e.obj).sent.length : Int) - roomL rooms e.obj).toNat []) else s.own e.g)
  else if e.kind = 6 then
    (if (s.pp e.obj).got.length < (s.pp e.obj).sent.length then joinL (s.own e.g) ((s.pp e.obj).sent.getD (s.pp e.obj).got.length []) else s.own e.g)
  else s.own e.g

def tickL (c : List Int) (g : Int) : List Int := joinL c (List.replicate g.toNat 0 ++ [getL c g + 1])

/-- An event's clock. -/
def clockL (rooms : List Int) (s : WS) (e : Ev) : List Int := tickL (comesL rooms s e) e.g

def WS.setOwn (s : WS) (g : Int) (c : List Int) : WS := { s with own := upd s.own g c }

/-- What is seen behind an event whose clock is c. -/
def leavesL (rooms : List Int) (s : WS) (e : Ev) (c : List Int) : WS :=
  if e.kind = 4 then { s with mu := upd s.mu e.obj (joinL (s.mu e.obj) c) }
  else if e.kind = 7 ∨ e.kind = 8 ∨ e.kind = 9 then { s with am := upd s.am e.obj c }
  else if e.kind = 10 then s.setOwn e.obj (joinL (s.own e.obj) c)
  else if e.kind = 5 then { s with pp := upd s.pp e.obj ⟨(s.pp e.obj).sent ++ [c], (s.pp e.obj).got, (s.pp e.obj).frm ++ [e.g]⟩ }
  else if e.kind = 6 then
    let s1 : WS := { s with pp := upd s.pp e.obj ⟨(s.pp e.obj).sent, (s.pp e.obj).got ++ [c], (s.pp e.obj).frm⟩ }
    if roomL rooms e.obj = 0 ∧ (s.pp e.obj).got.length < (s.pp e.obj).frm.length then
      s1.setOwn ((s.pp e.obj).frm.getD (s.pp e.obj).got.length 0) (joinL (s.own ((s.pp e.obj).frm.getD (s.pp e.obj).got.length 0)) c) else s1
  else s

def stepL (rooms : List Int) (s : WS) (e : Ev) : WS := leavesL rooms (s.setOwn e.g (clockL rooms s e)) e (clockL rooms s e)

/-- The clocks of a trace from a state on. -/
def clocksFrom (rooms : List Int) (s : WS) : List Ev → List (List Int)
  | [] => []
  | e :: t => clockL rooms s e :: clocksFrom rooms (stepL rooms s e) t
def clocksL (rooms : List Int) (t : List Ev) : List (List Int) := clocksFrom rooms WS.init t
def stateL (rooms : List Int) (s : WS) (t : List Ev) : WS := t.foldl (stepL rooms) s

theorem trimL_length (l : List Int) : (trimL l).length ≤ l.length := by
  unfold trimL
  have := (List.dropWhile_sublist (· == (0 : Int)) (l := l.reverse)).length_le
  simpa using this
theorem joinL_length (a b : List Int) : (joinL a b).length ≤ max a.length b.length := by
  unfold joinL
  have := trimL_length (maxL a b (max a.length b.length))
  simpa using this
end Go.Proofs.YtkjbpkggcddnhaaDoor
