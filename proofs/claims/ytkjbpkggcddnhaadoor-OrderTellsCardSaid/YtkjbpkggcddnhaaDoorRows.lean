/-
  NARROWER THAN 'FOR EVERY INPUT', by the rows' own cells (each row's printed sentence says how): OrderCuts: laid · OrderReads: laid · OrderChains: laid · OrderTells: laid · OrderRaces: laid · DetectAgain: laid · DetectTakes: laid · DetectNeeds: laid · DetectMore: laid.
  DERIVED. THE GIVEN ROWS OF THIS SEAT. 9 by the template 'for every input the law returns true; each argument reads behind the call as it read before'; 0 by the template 'total and deterministic' (their statements: YtkjbpkggcddnhaaDoorTotals.lean).
  GIVEN WITH THE SEED: the statements are not yours to turn. If you find one false, say at which input.
  Laid BY PROGRAM, IN A SANDBOX (cutbox-rows.mjs): the forced cells as the released guide's own fill.sh prints them over the translation d21aa1848b2ff997… (all of the seat's roots in one cut). By AI agents, Wed Nov 11 2026. No macro, syntax, notation, axiom, sorry.
-/
import Derived.Test.YtkjbpkggcddnhaaDoorChecked
import GoSem.Claim
import GoSem.ClaimJoined
import GoSem.ClaimMapViews
import Derived.JoinedTies
import Derived.KernelRfl
namespace Go.Proofs.YtkjbpkggcddnhaaDoor
/- THE CELL 'sum', in the pinned program and in every row, IS THE sha256 OF THE DUMP (.gsa) THAT YtkjbpkggcddnhaaDoorProg.lean LOADS. Nothing in Lean hashes anything: it is a label: what it is worth is what the hold of that sum in a sandbox is worth. -/
noncomputable def Tryd.pinned : Pinned := { name := "ytkjbpkggcddnhaadoor", sum := "d21aa1848b2ff9976706485b9a3ab12adb97c9fb94a2ccbb064ff6fffe03557f", checked := Tryd.checked }
namespace Rows
def none {H : Type} : Left H := { results := [], args := [] }

/- WHAT THE LISTED PACKAGE-LEVEL VARIABLES READ AS WHEN THE CALL BEGINS. Each datum BY PROGRAM (the guide's laid-datum.mjs) off the statement by which the dump's own 'gosem.cut.vars' lays the variable. In a bare row this is a premise. The card (YtkjbpkggcddnhaaDoorCards.lean) ties it to the program's text. -/
def laid_stockade_api_ErrRange {H : Type} : DataW H := .iface "*errors.errorString" (.ptr (.agg [.lit (.string [115, 116, 111, 99, 107, 97, 100, 101, 58, 32, 114, 97, 110, 103, 101])]))
def laid_stockade_api_ErrText {H : Type} : DataW H := .iface "*errors.errorString" (.ptr (.agg [.lit (.string [115, 116, 111, 99, 107, 97, 100, 101, 58, 32, 116, 101, 120, 116])]))
def laid_stockade_api_ErrDepth {H : Type} : DataW H := .iface "*errors.errorString" (.ptr (.agg [.lit (.string [115, 116, 111, 99, 107, 97, 100, 101, 58, 32, 100, 101, 112, 116, 104])]))
def laid_stockade_api_ErrName {H : Type} : DataW H := .iface "*errors.errorString" (.ptr (.agg [.lit (.string [115, 116, 111, 99, 107, 97, 100, 101, 58, 32, 110, 97, 109, 101])]))
def laid_stockade_api_ErrType {H : Type} : DataW H := .iface "*errors.errorString" (.ptr (.agg [.lit (.string [115, 116, 111, 99, 107, 97, 100, 101, 58, 32, 116, 121, 112, 101])]))
def laid_stockade_api_ErrLarge {H : Type} : DataW H := .iface "*errors.errorString" (.ptr (.agg [.lit (.string [115, 116, 111, 99, 107, 97, 100, 101, 58, 32, 108, 97, 114, 103, 101])]))
def laid_stockade_api_ErrFull {H : Type} : DataW H := .iface "*errors.errorString" (.ptr (.agg [.lit (.string [115, 116, 111, 99, 107, 97, 100, 101, 58, 32, 102, 117, 108, 108])]))
def laid_stockade_api_ErrNone {H : Type} : DataW H := .iface "*errors.errorString" (.ptr (.agg [.lit (.string [115, 116, 111, 99, 107, 97, 100, 101, 58, 32, 110, 111, 110, 101])]))
def laid_stockade_api_ErrCode {H : Type} : DataW H := .iface "*errors.errorString" (.ptr (.agg [.lit (.string [115, 116, 111, 99, 107, 97, 100, 101, 58, 32, 99, 111, 100, 101])]))
def laid_stockade_api_ErrState {H : Type} : DataW H := .iface "*errors.errorString" (.ptr (.agg [.lit (.string [115, 116, 111, 99, 107, 97, 100, 101, 58, 32, 115, 116, 97, 116, 101])]))
def laid_stockade_api_ErrFrame {H : Type} : DataW H := .iface "*errors.errorString" (.ptr (.agg [.lit (.string [115, 116, 111, 99, 107, 97, 100, 101, 58, 32, 102, 114, 97, 109, 101])]))
def laid_stockade_api_ErrMac {H : Type} : DataW H := .iface "*errors.errorString" (.ptr (.agg [.lit (.string [115, 116, 111, 99, 107, 97, 100, 101, 58, 32, 109, 97, 99])]))
def laid_stockade_api_ErrReplay {H : Type} : DataW H := .iface "*errors.errorString" (.ptr (.agg [.lit (.string [115, 116, 111, 99, 107, 97, 100, 101, 58, 32, 114, 101, 112, 108, 97, 121])]))
def laid_stockade_api_ErrArena {H : Type} : DataW H := .iface "*errors.errorString" (.ptr (.agg [.lit (.string [115, 116, 111, 99, 107, 97, 100, 101, 58, 32, 97, 114, 101, 110, 97])]))
def laid_stockade_api_ErrClock {H : Type} : DataW H := .iface "*errors.errorString" (.ptr (.agg [.lit (.string [115, 116, 111, 99, 107, 97, 100, 101, 58, 32, 99, 108, 111, 99, 107])]))
def laid_stockade_api_ErrQuota {H : Type} : DataW H := .iface "*errors.errorString" (.ptr (.agg [.lit (.string [115, 116, 111, 99, 107, 97, 100, 101, 58, 32, 113, 117, 111, 116, 97])]))
def laid_stockade_api_ErrTenant {H : Type} : DataW H := .iface "*errors.errorString" (.ptr (.agg [.lit (.string [115, 116, 111, 99, 107, 97, 100, 101, 58, 32, 116, 101, 110, 97, 110, 116])]))

/-- 'stockadelaw18.OrderCuts': WHATEVER THE INPUT: true; the input reads as it did. -/
def orderCutsSpec : ChangeSpec := { name := "orderCuts", fn := fun _ => fun
  | [d1, d2, d3] => { results := [.lit (.bool true)], args := [d1, d2, d3] }
  | _ => none }
def orderCutsRow : OpenClaim := { program := "ytkjbpkggcddnhaadoor", sum := "d21aa1848b2ff9976706485b9a3ab12adb97c9fb94a2ccbb064ff6fffe03557f", func := "stockade/stockadelaw18.OrderCuts", spec := "orderCuts", unfollowed := true, recurses := true, named := ["stockade/api.ErrRange"], plainKeys := false, apart := false, laid := [("stockade/api.ErrRange", laid_stockade_api_ErrRange)] }
def OrderCutsSaid : Prop := orderCutsRow.holds Tryd.pinned (OpenSpec.ofChange orderCutsSpec)

/-- ITS FALSE NEIGHBOUR: 'it returns false'. Refute it at one input. -/
def orderCutsWrong : ChangeSpec := { name := "orderCuts", fn := fun _ => fun
  | [d1, d2, d3] => { results := [.lit (.bool false)], args := [d1, d2, d3] }
  | _ => none }
def OrderCutsWrongFalsely : Prop := orderCutsRow.holds Tryd.pinned (OpenSpec.ofChange orderCutsWrong)

/-- 'stockadelaw18.OrderReads': WHATEVER THE INPUT: true; the input reads as it did. -/
def orderReadsSpec : ChangeSpec := { name := "orderReads", fn := fun _ => fun
  | [d] => { results := [.lit (.bool true)], args := [d] }
  | _ => none }
def orderReadsRow : OpenClaim := { program := "ytkjbpkggcddnhaadoor", sum := "d21aa1848b2ff9976706485b9a3ab12adb97c9fb94a2ccbb064ff6fffe03557f", func := "stockade/stockadelaw18.OrderReads", spec := "orderReads", unfollowed := true, recurses := true, named := ["stockade/api.ErrRange"], plainKeys := false, apart := false, laid := [("stockade/api.ErrRange", laid_stockade_api_ErrRange)] }
def OrderReadsSaid : Prop := orderReadsRow.holds Tryd.pinned (OpenSpec.ofChange orderReadsSpec)

/-- ITS FALSE NEIGHBOUR: 'it returns false'. Refute it at one input. -/
def orderReadsWrong : ChangeSpec := { name := "orderReads", fn := fun _ => fun
  | [d] => { results := [.lit (.bool false)], args := [d] }
  | _ => none }
def OrderReadsWrongFalsely : Prop := orderReadsRow.holds Tryd.pinned (OpenSpec.ofChange orderReadsWrong)

/-- 'stockadelaw18.OrderChains': WHATEVER THE INPUT: true; the input reads as it did. -/
def orderChainsSpec : ChangeSpec := { name := "orderChains", fn := fun _ => fun
  | [d1, d2] => { results := [.lit (.bool true)], args := [d1, d2] }
  | _ => none }
def orderChainsRow : OpenClaim := { program := "ytkjbpkggcddnhaadoor", sum := "d21aa1848b2ff9976706485b9a3ab12adb97c9fb94a2ccbb064ff6fffe03557f", func := "stockade/stockadelaw18.OrderChains", spec := "orderChains", unfollowed := true, recurses := true, named := ["stockade/api.ErrRange"], plainKeys := false, apart := false, laid := [("stockade/api.ErrRange", laid_stockade_api_ErrRange)] }
def OrderChainsSaid : Prop := orderChainsRow.holds Tryd.pinned (OpenSpec.ofChange orderChainsSpec)

/-- ITS FALSE NEIGHBOUR: 'it returns false'. Refute it at one input. -/
def orderChainsWrong : ChangeSpec := { name := "orderChains", fn := fun _ => fun
  | [d1, d2] => { results := [.lit (.bool false)], args := [d1, d2] }
  | _ => none }
def OrderChainsWrongFalsely : Prop := orderChainsRow.holds Tryd.pinned (OpenSpec.ofChange orderChainsWrong)

/-- 'stockadelaw18.OrderTells': WHATEVER THE INPUT: true; the input reads as it did. -/
def orderTellsSpec : ChangeSpec := { name := "orderTells", fn := fun _ => fun
  | [d] => { results := [.lit (.bool true)], args := [d] }
  | _ => none }
def orderTellsRow : OpenClaim := { program := "ytkjbpkggcddnhaadoor", sum := "d21aa1848b2ff9976706485b9a3ab12adb97c9fb94a2ccbb064ff6fffe03557f", func := "stockade/stockadelaw18.OrderTells", spec := "orderTells", inPlace := ["internal/reflectlite.TypeOf"], unfollowed := true, recurses := true, named := ["stockade/api.ErrRange", "stockade/api.ErrText", "stockade/api.ErrDepth", "stockade/api.ErrName", "stockade/api.ErrType", "stockade/api.ErrLarge", "stockade/api.ErrFull", "stockade/api.ErrNone", "stockade/api.ErrCode", "stockade/api.ErrState", "stockade/api.ErrFrame", "stockade/api.ErrMac", "stockade/api.ErrReplay", "stockade/api.ErrArena", "stockade/api.ErrClock", "stockade/api.ErrQuota", "stockade/api.ErrTenant"], plainKeys := false, apart := false, laid := [("stockade/api.ErrRange", laid_stockade_api_ErrRange), ("stockade/api.ErrText", laid_stockade_api_ErrText), ("stockade/api.ErrDepth", laid_stockade_api_ErrDepth), ("stockade/api.ErrName", laid_stockade_api_ErrName), ("stockade/api.ErrType", laid_stockade_api_ErrType), ("stockade/api.ErrLarge", laid_stockade_api_ErrLarge), ("stockade/api.ErrFull", laid_stockade_api_ErrFull), ("stockade/api.ErrNone", laid_stockade_api_ErrNone), ("stockade/api.ErrCode", laid_stockade_api_ErrCode), ("stockade/api.ErrState", laid_stockade_api_ErrState), ("stockade/api.ErrFrame", laid_stockade_api_ErrFrame), ("stockade/api.ErrMac", laid_stockade_api_ErrMac), ("stockade/api.ErrReplay", laid_stockade_api_ErrReplay), ("stockade/api.ErrArena", laid_stockade_api_ErrArena), ("stockade/api.ErrClock", laid_stockade_api_ErrClock), ("stockade/api.ErrQuota", laid_stockade_api_ErrQuota), ("stockade/api.ErrTenant", laid_stockade_api_ErrTenant)] }
def OrderTellsSaid : Prop := orderTellsRow.holds Tryd.pinned (OpenSpec.ofChange orderTellsSpec)

/-- ITS FALSE NEIGHBOUR: 'it returns false'. Refute it at one input. -/
def orderTellsWrong : ChangeSpec := { name := "orderTells", fn := fun _ => fun
  | [d] => { results := [.lit (.bool false)], args := [d] }
  | _ => none }
def OrderTellsWrongFalsely : Prop := orderTellsRow.holds Tryd.pinned (OpenSpec.ofChange orderTellsWrong)

/-- 'stockadelaw18.OrderRaces': WHATEVER THE INPUT: true; the input reads as it did. -/
def orderRacesSpec : ChangeSpec := { name := "orderRaces", fn := fun _ => fun
  | [d1, d2] => { results := [.lit (.bool true)], args := [d1, d2] }
  | _ => none }
def orderRacesRow : OpenClaim := { program := "ytkjbpkggcddnhaadoor", sum := "d21aa1848b2ff9976706485b9a3ab12adb97c9fb94a2ccbb064ff6fffe03557f", func := "stockade/stockadelaw18.OrderRaces", spec := "orderRaces", inPlace := ["internal/reflectlite.TypeOf"], unfollowed := true, recurses := true, named := ["stockade/api.ErrRange", "stockade/api.ErrText", "stockade/api.ErrDepth", "stockade/api.ErrName", "stockade/api.ErrType", "stockade/api.ErrLarge", "stockade/api.ErrFull", "stockade/api.ErrNone", "stockade/api.ErrCode", "stockade/api.ErrState", "stockade/api.ErrFrame", "stockade/api.ErrMac", "stockade/api.ErrReplay", "stockade/api.ErrArena", "stockade/api.ErrClock", "stockade/api.ErrQuota", "stockade/api.ErrTenant"], plainKeys := false, apart := false, laid := [("stockade/api.ErrRange", laid_stockade_api_ErrRange), ("stockade/api.ErrText", laid_stockade_api_ErrText), ("stockade/api.ErrDepth", laid_stockade_api_ErrDepth), ("stockade/api.ErrName", laid_stockade_api_ErrName), ("stockade/api.ErrType", laid_stockade_api_ErrType), ("stockade/api.ErrLarge", laid_stockade_api_ErrLarge), ("stockade/api.ErrFull", laid_stockade_api_ErrFull), ("stockade/api.ErrNone", laid_stockade_api_ErrNone), ("stockade/api.ErrCode", laid_stockade_api_ErrCode), ("stockade/api.ErrState", laid_stockade_api_ErrState), ("stockade/api.ErrFrame", laid_stockade_api_ErrFrame), ("stockade/api.ErrMac", laid_stockade_api_ErrMac), ("stockade/api.ErrReplay", laid_stockade_api_ErrReplay), ("stockade/api.ErrArena", laid_stockade_api_ErrArena), ("stockade/api.ErrClock", laid_stockade_api_ErrClock), ("stockade/api.ErrQuota", laid_stockade_api_ErrQuota), ("stockade/api.ErrTenant", laid_stockade_api_ErrTenant)] }
def OrderRacesSaid : Prop := orderRacesRow.holds Tryd.pinned (OpenSpec.ofChange orderRacesSpec)

/-- ITS FALSE NEIGHBOUR: 'it returns false'. Refute it at one input. -/
def orderRacesWrong : ChangeSpec := { name := "orderRaces", fn := fun _ => fun
  | [d1, d2] => { results := [.lit (.bool false)], args := [d1, d2] }
  | _ => none }
def OrderRacesWrongFalsely : Prop := orderRacesRow.holds Tryd.pinned (OpenSpec.ofChange orderRacesWrong)

/-- 'stockadelaw19.DetectAgain': WHATEVER THE INPUT: true; the input reads as it did. -/
def detectAgainSpec : ChangeSpec := { name := "detectAgain", fn := fun _ => fun
  | [d1, d2, d3] => { results := [.lit (.bool true)], args := [d1, d2, d3] }
  | _ => none }
def detectAgainRow : OpenClaim := { program := "ytkjbpkggcddnhaadoor", sum := "d21aa1848b2ff9976706485b9a3ab12adb97c9fb94a2ccbb064ff6fffe03557f", func := "stockade/stockadelaw19.DetectAgain", spec := "detectAgain", inPlace := ["internal/reflectlite.TypeOf"], unfollowed := true, recurses := true, named := ["stockade/api.ErrRange", "stockade/api.ErrState", "stockade/api.ErrClock", "stockade/api.ErrArena", "stockade/api.ErrNone", "stockade/api.ErrText", "stockade/api.ErrDepth", "stockade/api.ErrName", "stockade/api.ErrType", "stockade/api.ErrLarge", "stockade/api.ErrFull", "stockade/api.ErrCode", "stockade/api.ErrFrame", "stockade/api.ErrMac", "stockade/api.ErrReplay", "stockade/api.ErrQuota", "stockade/api.ErrTenant"], plainKeys := false, apart := false, laid := [("stockade/api.ErrRange", laid_stockade_api_ErrRange), ("stockade/api.ErrText", laid_stockade_api_ErrText), ("stockade/api.ErrDepth", laid_stockade_api_ErrDepth), ("stockade/api.ErrName", laid_stockade_api_ErrName), ("stockade/api.ErrType", laid_stockade_api_ErrType), ("stockade/api.ErrLarge", laid_stockade_api_ErrLarge), ("stockade/api.ErrFull", laid_stockade_api_ErrFull), ("stockade/api.ErrNone", laid_stockade_api_ErrNone), ("stockade/api.ErrCode", laid_stockade_api_ErrCode), ("stockade/api.ErrState", laid_stockade_api_ErrState), ("stockade/api.ErrFrame", laid_stockade_api_ErrFrame), ("stockade/api.ErrMac", laid_stockade_api_ErrMac), ("stockade/api.ErrReplay", laid_stockade_api_ErrReplay), ("stockade/api.ErrArena", laid_stockade_api_ErrArena), ("stockade/api.ErrClock", laid_stockade_api_ErrClock), ("stockade/api.ErrQuota", laid_stockade_api_ErrQuota), ("stockade/api.ErrTenant", laid_stockade_api_ErrTenant)] }
def DetectAgainSaid : Prop := detectAgainRow.holds Tryd.pinned (OpenSpec.ofChange detectAgainSpec)

/-- ITS FALSE NEIGHBOUR: 'it returns false'. Refute it at one input. -/
def detectAgainWrong : ChangeSpec := { name := "detectAgain", fn := fun _ => fun
  | [d1, d2, d3] => { results := [.lit (.bool false)], args := [d1, d2, d3] }
  | _ => none }
def DetectAgainWrongFalsely : Prop := detectAgainRow.holds Tryd.pinned (OpenSpec.ofChange detectAgainWrong)

/-- 'stockadelaw19.DetectTakes': WHATEVER THE INPUT: true; the input reads as it did. -/
def detectTakesSpec : ChangeSpec := { name := "detectTakes", fn := fun _ => fun
  | [d1, d2, d3] => { results := [.lit (.bool true)], args := [d1, d2, d3] }
  | _ => none }
def detectTakesRow : OpenClaim := { program := "ytkjbpkggcddnhaadoor", sum := "d21aa1848b2ff9976706485b9a3ab12adb97c9fb94a2ccbb064ff6fffe03557f", func := "stockade/stockadelaw19.DetectTakes", spec := "detectTakes", inPlace := ["internal/reflectlite.TypeOf"], unfollowed := true, recurses := true, named := ["stockade/api.ErrRange", "stockade/api.ErrState", "stockade/api.ErrClock", "stockade/api.ErrArena", "stockade/api.ErrNone", "stockade/api.ErrText", "stockade/api.ErrDepth", "stockade/api.ErrName", "stockade/api.ErrType", "stockade/api.ErrLarge", "stockade/api.ErrFull", "stockade/api.ErrCode", "stockade/api.ErrFrame", "stockade/api.ErrMac", "stockade/api.ErrReplay", "stockade/api.ErrQuota", "stockade/api.ErrTenant"], plainKeys := false, apart := false, laid := [("stockade/api.ErrRange", laid_stockade_api_ErrRange), ("stockade/api.ErrText", laid_stockade_api_ErrText), ("stockade/api.ErrDepth", laid_stockade_api_ErrDepth), ("stockade/api.ErrName", laid_stockade_api_ErrName), ("stockade/api.ErrType", laid_stockade_api_ErrType), ("stockade/api.ErrLarge", laid_stockade_api_ErrLarge), ("stockade/api.ErrFull", laid_stockade_api_ErrFull), ("stockade/api.ErrNone", laid_stockade_api_ErrNone), ("stockade/api.ErrCode", laid_stockade_api_ErrCode), ("stockade/api.ErrState", laid_stockade_api_ErrState), ("stockade/api.ErrFrame", laid_stockade_api_ErrFrame), ("stockade/api.ErrMac", laid_stockade_api_ErrMac), ("stockade/api.ErrReplay", laid_stockade_api_ErrReplay), ("stockade/api.ErrArena", laid_stockade_api_ErrArena), ("stockade/api.ErrClock", laid_stockade_api_ErrClock), ("stockade/api.ErrQuota", laid_stockade_api_ErrQuota), ("stockade/api.ErrTenant", laid_stockade_api_ErrTenant)] }
def DetectTakesSaid : Prop := detectTakesRow.holds Tryd.pinned (OpenSpec.ofChange detectTakesSpec)

/-- ITS FALSE NEIGHBOUR: 'it returns false'. Refute it at one input. -/
def detectTakesWrong : ChangeSpec := { name := "detectTakes", fn := fun _ => fun
  | [d1, d2, d3] => { results := [.lit (.bool false)], args := [d1, d2, d3] }
  | _ => none }
def DetectTakesWrongFalsely : Prop := detectTakesRow.holds Tryd.pinned (OpenSpec.ofChange detectTakesWrong)

/-- 'stockadelaw19.DetectNeeds': WHATEVER THE INPUT: true; the input reads as it did. -/
def detectNeedsSpec : ChangeSpec := { name := "detectNeeds", fn := fun _ => fun
  | [d1, d2] => { results := [.lit (.bool true)], args := [d1, d2] }
  | _ => none }
def detectNeedsRow : OpenClaim := { program := "ytkjbpkggcddnhaadoor", sum := "d21aa1848b2ff9976706485b9a3ab12adb97c9fb94a2ccbb064ff6fffe03557f", func := "stockade/stockadelaw19.DetectNeeds", spec := "detectNeeds", inPlace := ["internal/reflectlite.TypeOf"], unfollowed := true, recurses := true, named := ["stockade/api.ErrRange", "stockade/api.ErrState", "stockade/api.ErrClock", "stockade/api.ErrArena", "stockade/api.ErrNone", "stockade/api.ErrText", "stockade/api.ErrDepth", "stockade/api.ErrName", "stockade/api.ErrType", "stockade/api.ErrLarge", "stockade/api.ErrFull", "stockade/api.ErrCode", "stockade/api.ErrFrame", "stockade/api.ErrMac", "stockade/api.ErrReplay", "stockade/api.ErrQuota", "stockade/api.ErrTenant"], plainKeys := false, apart := false, laid := [("stockade/api.ErrRange", laid_stockade_api_ErrRange), ("stockade/api.ErrText", laid_stockade_api_ErrText), ("stockade/api.ErrDepth", laid_stockade_api_ErrDepth), ("stockade/api.ErrName", laid_stockade_api_ErrName), ("stockade/api.ErrType", laid_stockade_api_ErrType), ("stockade/api.ErrLarge", laid_stockade_api_ErrLarge), ("stockade/api.ErrFull", laid_stockade_api_ErrFull), ("stockade/api.ErrNone", laid_stockade_api_ErrNone), ("stockade/api.ErrCode", laid_stockade_api_ErrCode), ("stockade/api.ErrState", laid_stockade_api_ErrState), ("stockade/api.ErrFrame", laid_stockade_api_ErrFrame), ("stockade/api.ErrMac", laid_stockade_api_ErrMac), ("stockade/api.ErrReplay", laid_stockade_api_ErrReplay), ("stockade/api.ErrArena", laid_stockade_api_ErrArena), ("stockade/api.ErrClock", laid_stockade_api_ErrClock), ("stockade/api.ErrQuota", laid_stockade_api_ErrQuota), ("stockade/api.ErrTenant", laid_stockade_api_ErrTenant)] }
def DetectNeedsSaid : Prop := detectNeedsRow.holds Tryd.pinned (OpenSpec.ofChange detectNeedsSpec)

/-- ITS FALSE NEIGHBOUR: 'it returns false'. Refute it at one input. -/
def detectNeedsWrong : ChangeSpec := { name := "detectNeeds", fn := fun _ => fun
  | [d1, d2] => { results := [.lit (.bool false)], args := [d1, d2] }
  | _ => none }
def DetectNeedsWrongFalsely : Prop := detectNeedsRow.holds Tryd.pinned (OpenSpec.ofChange detectNeedsWrong)

/-- 'stockadelaw19.DetectMore': WHATEVER THE INPUT: true; the input reads as it did. -/
def detectMoreSpec : ChangeSpec := { name := "detectMore", fn := fun _ => fun
  | [d1, d2, d3] => { results := [.lit (.bool true)], args := [d1, d2, d3] }
  | _ => none }
def detectMoreRow : OpenClaim := { program := "ytkjbpkggcddnhaadoor", sum := "d21aa1848b2ff9976706485b9a3ab12adb97c9fb94a2ccbb064ff6fffe03557f", func := "stockade/stockadelaw19.DetectMore", spec := "detectMore", inPlace := ["internal/reflectlite.TypeOf"], unfollowed := true, recurses := true, named := ["stockade/api.ErrRange", "stockade/api.ErrState", "stockade/api.ErrClock", "stockade/api.ErrArena", "stockade/api.ErrNone", "stockade/api.ErrText", "stockade/api.ErrDepth", "stockade/api.ErrName", "stockade/api.ErrType", "stockade/api.ErrLarge", "stockade/api.ErrFull", "stockade/api.ErrCode", "stockade/api.ErrFrame", "stockade/api.ErrMac", "stockade/api.ErrReplay", "stockade/api.ErrQuota", "stockade/api.ErrTenant"], plainKeys := false, apart := false, laid := [("stockade/api.ErrRange", laid_stockade_api_ErrRange), ("stockade/api.ErrText", laid_stockade_api_ErrText), ("stockade/api.ErrDepth", laid_stockade_api_ErrDepth), ("stockade/api.ErrName", laid_stockade_api_ErrName), ("stockade/api.ErrType", laid_stockade_api_ErrType), ("stockade/api.ErrLarge", laid_stockade_api_ErrLarge), ("stockade/api.ErrFull", laid_stockade_api_ErrFull), ("stockade/api.ErrNone", laid_stockade_api_ErrNone), ("stockade/api.ErrCode", laid_stockade_api_ErrCode), ("stockade/api.ErrState", laid_stockade_api_ErrState), ("stockade/api.ErrFrame", laid_stockade_api_ErrFrame), ("stockade/api.ErrMac", laid_stockade_api_ErrMac), ("stockade/api.ErrReplay", laid_stockade_api_ErrReplay), ("stockade/api.ErrArena", laid_stockade_api_ErrArena), ("stockade/api.ErrClock", laid_stockade_api_ErrClock), ("stockade/api.ErrQuota", laid_stockade_api_ErrQuota), ("stockade/api.ErrTenant", laid_stockade_api_ErrTenant)] }
def DetectMoreSaid : Prop := detectMoreRow.holds Tryd.pinned (OpenSpec.ofChange detectMoreSpec)

/-- ITS FALSE NEIGHBOUR: 'it returns false'. Refute it at one input. -/
def detectMoreWrong : ChangeSpec := { name := "detectMore", fn := fun _ => fun
  | [d1, d2, d3] => { results := [.lit (.bool false)], args := [d1, d2, d3] }
  | _ => none }
def DetectMoreWrongFalsely : Prop := detectMoreRow.holds Tryd.pinned (OpenSpec.ofChange detectMoreWrong)

/- THE SECOND FORM. 'bulk': how many values and letters a reading holds, each counted each time it is reached (what is shared counts as often as it is met; a slice's spare places count too). A statement '..UptoSaid' is the law's where the arguments, and the package variables that the reading takes, are together of bulk at most 1048576: NARROWER than '..Said'. Prove '..Said' where nothing that the law and all that it calls make is longer than what came in: it says more and counts as full. Else prove '..UptoSaid'. A law counts once. -/
mutual
def uptoBulk {H : Type} : DataW H → Nat
  | .lit (.string bytes) => bytes.length + 1
  | .lit _ => 1
  | .nil => 1
  | .ptr d => uptoBulk d + 1
  | .slice elems spare => uptoBulkAll elems + uptoBulkAll spare + 1
  | .agg parts => uptoBulkAll parts + 1
  | .iface _ d => uptoBulk d + 1
  | .map entries => uptoBulkEntries entries + 1
  | .held _ => 1
def uptoBulkAll {H : Type} : List (DataW H) → Nat
  | [] => 0
  | d :: r => uptoBulk d + uptoBulkAll r
def uptoBulkEntries {H : Type} : List (Lit × DataW H) → Nat
  | [] => 0
  | x :: r => uptoBulkEntry x + uptoBulkEntries r
def uptoBulkEntry {H : Type} : Lit × DataW H → Nat
  | (.string bytes, d) => bytes.length + uptoBulk d + 1
  | (_, d) => uptoBulk d + 1
 end
def uptoSmall : (H : Type) → List (DataW H) → Bool := fun _ ds => decide (uptoBulkAll ds ≤ 1048576)
def OpenSpec.upto (s : _root_.Go.ChangeSpec) : _root_.Go.OpenSpec := { _root_.Go.OpenSpec.ofChange s with cond := some uptoSmall }

/-- 'stockadelaw18.OrderCuts', WHERE WHAT IT READS IS OF BULK AT MOST 1048576: true; the input reads as it did. -/
def orderCutsUptoRow : OpenClaim := { program := "ytkjbpkggcddnhaadoor", sum := "d21aa1848b2ff9976706485b9a3ab12adb97c9fb94a2ccbb064ff6fffe03557f", func := "stockade/stockadelaw18.OrderCuts", spec := "orderCuts", unfollowed := true, recurses := true, named := ["stockade/api.ErrRange"], plainKeys := false, apart := false, laid := [("stockade/api.ErrRange", laid_stockade_api_ErrRange)], narrowed := true }
def OrderCutsUptoSaid : Prop := orderCutsUptoRow.holds Tryd.pinned (OpenSpec.upto orderCutsSpec)

/-- 'stockadelaw18.OrderReads', WHERE WHAT IT READS IS OF BULK AT MOST 1048576: true; the input reads as it did. -/
def orderReadsUptoRow : OpenClaim := { program := "ytkjbpkggcddnhaadoor", sum := "d21aa1848b2ff9976706485b9a3ab12adb97c9fb94a2ccbb064ff6fffe03557f", func := "stockade/stockadelaw18.OrderReads", spec := "orderReads", unfollowed := true, recurses := true, named := ["stockade/api.ErrRange"], plainKeys := false, apart := false, laid := [("stockade/api.ErrRange", laid_stockade_api_ErrRange)], narrowed := true }
def OrderReadsUptoSaid : Prop := orderReadsUptoRow.holds Tryd.pinned (OpenSpec.upto orderReadsSpec)

/-- 'stockadelaw18.OrderChains', WHERE WHAT IT READS IS OF BULK AT MOST 1048576: true; the input reads as it did. -/
def orderChainsUptoRow : OpenClaim := { program := "ytkjbpkggcddnhaadoor", sum := "d21aa1848b2ff9976706485b9a3ab12adb97c9fb94a2ccbb064ff6fffe03557f", func := "stockade/stockadelaw18.OrderChains", spec := "orderChains", unfollowed := true, recurses := true, named := ["stockade/api.ErrRange"], plainKeys := false, apart := false, laid := [("stockade/api.ErrRange", laid_stockade_api_ErrRange)], narrowed := true }
def OrderChainsUptoSaid : Prop := orderChainsUptoRow.holds Tryd.pinned (OpenSpec.upto orderChainsSpec)

/-- 'stockadelaw18.OrderTells', WHERE WHAT IT READS IS OF BULK AT MOST 1048576: true; the input reads as it did. -/
def orderTellsUptoRow : OpenClaim := { program := "ytkjbpkggcddnhaadoor", sum := "d21aa1848b2ff9976706485b9a3ab12adb97c9fb94a2ccbb064ff6fffe03557f", func := "stockade/stockadelaw18.OrderTells", spec := "orderTells", inPlace := ["internal/reflectlite.TypeOf"], unfollowed := true, recurses := true, named := ["stockade/api.ErrRange", "stockade/api.ErrText", "stockade/api.ErrDepth", "stockade/api.ErrName", "stockade/api.ErrType", "stockade/api.ErrLarge", "stockade/api.ErrFull", "stockade/api.ErrNone", "stockade/api.ErrCode", "stockade/api.ErrState", "stockade/api.ErrFrame", "stockade/api.ErrMac", "stockade/api.ErrReplay", "stockade/api.ErrArena", "stockade/api.ErrClock", "stockade/api.ErrQuota", "stockade/api.ErrTenant"], plainKeys := false, apart := false, laid := [("stockade/api.ErrRange", laid_stockade_api_ErrRange), ("stockade/api.ErrText", laid_stockade_api_ErrText), ("stockade/api.ErrDepth", laid_stockade_api_ErrDepth), ("stockade/api.ErrName", laid_stockade_api_ErrName), ("stockade/api.ErrType", laid_stockade_api_ErrType), ("stockade/api.ErrLarge", laid_stockade_api_ErrLarge), ("stockade/api.ErrFull", laid_stockade_api_ErrFull), ("stockade/api.ErrNone", laid_stockade_api_ErrNone), ("stockade/api.ErrCode", laid_stockade_api_ErrCode), ("stockade/api.ErrState", laid_stockade_api_ErrState), ("stockade/api.ErrFrame", laid_stockade_api_ErrFrame), ("stockade/api.ErrMac", laid_stockade_api_ErrMac), ("stockade/api.ErrReplay", laid_stockade_api_ErrReplay), ("stockade/api.ErrArena", laid_stockade_api_ErrArena), ("stockade/api.ErrClock", laid_stockade_api_ErrClock), ("stockade/api.ErrQuota", laid_stockade_api_ErrQuota), ("stockade/api.ErrTenant", laid_stockade_api_ErrTenant)], narrowed := true }
def OrderTellsUptoSaid : Prop := orderTellsUptoRow.holds Tryd.pinned (OpenSpec.upto orderTellsSpec)

/-- 'stockadelaw18.OrderRaces', WHERE WHAT IT READS IS OF BULK AT MOST 1048576: true; the input reads as it did. -/
def orderRacesUptoRow : OpenClaim := { program := "ytkjbpkggcddnhaadoor", sum := "d21aa1848b2ff9976706485b9a3ab12adb97c9fb94a2ccbb064ff6fffe03557f", func := "stockade/stockadelaw18.OrderRaces", spec := "orderRaces", inPlace := ["internal/reflectlite.TypeOf"], unfollowed := true, recurses := true, named := ["stockade/api.ErrRange", "stockade/api.ErrText", "stockade/api.ErrDepth", "stockade/api.ErrName", "stockade/api.ErrType", "stockade/api.ErrLarge", "stockade/api.ErrFull", "stockade/api.ErrNone", "stockade/api.ErrCode", "stockade/api.ErrState", "stockade/api.ErrFrame", "stockade/api.ErrMac", "stockade/api.ErrReplay", "stockade/api.ErrArena", "stockade/api.ErrClock", "stockade/api.ErrQuota", "stockade/api.ErrTenant"], plainKeys := false, apart := false, laid := [("stockade/api.ErrRange", laid_stockade_api_ErrRange), ("stockade/api.ErrText", laid_stockade_api_ErrText), ("stockade/api.ErrDepth", laid_stockade_api_ErrDepth), ("stockade/api.ErrName", laid_stockade_api_ErrName), ("stockade/api.ErrType", laid_stockade_api_ErrType), ("stockade/api.ErrLarge", laid_stockade_api_ErrLarge), ("stockade/api.ErrFull", laid_stockade_api_ErrFull), ("stockade/api.ErrNone", laid_stockade_api_ErrNone), ("stockade/api.ErrCode", laid_stockade_api_ErrCode), ("stockade/api.ErrState", laid_stockade_api_ErrState), ("stockade/api.ErrFrame", laid_stockade_api_ErrFrame), ("stockade/api.ErrMac", laid_stockade_api_ErrMac), ("stockade/api.ErrReplay", laid_stockade_api_ErrReplay), ("stockade/api.ErrArena", laid_stockade_api_ErrArena), ("stockade/api.ErrClock", laid_stockade_api_ErrClock), ("stockade/api.ErrQuota", laid_stockade_api_ErrQuota), ("stockade/api.ErrTenant", laid_stockade_api_ErrTenant)], narrowed := true }
def OrderRacesUptoSaid : Prop := orderRacesUptoRow.holds Tryd.pinned (OpenSpec.upto orderRacesSpec)

/-- 'stockadelaw19.DetectAgain', WHERE WHAT IT READS IS OF BULK AT MOST 1048576: true; the input reads as it did. -/
def detectAgainUptoRow : OpenClaim := { program := "ytkjbpkggcddnhaadoor", sum := "d21aa1848b2ff9976706485b9a3ab12adb97c9fb94a2ccbb064ff6fffe03557f", func := "stockade/stockadelaw19.DetectAgain", spec := "detectAgain", inPlace := ["internal/reflectlite.TypeOf"], unfollowed := true, recurses := true, named := ["stockade/api.ErrRange", "stockade/api.ErrState", "stockade/api.ErrClock", "stockade/api.ErrArena", "stockade/api.ErrNone", "stockade/api.ErrText", "stockade/api.ErrDepth", "stockade/api.ErrName", "stockade/api.ErrType", "stockade/api.ErrLarge", "stockade/api.ErrFull", "stockade/api.ErrCode", "stockade/api.ErrFrame", "stockade/api.ErrMac", "stockade/api.ErrReplay", "stockade/api.ErrQuota", "stockade/api.ErrTenant"], plainKeys := false, apart := false, laid := [("stockade/api.ErrRange", laid_stockade_api_ErrRange), ("stockade/api.ErrText", laid_stockade_api_ErrText), ("stockade/api.ErrDepth", laid_stockade_api_ErrDepth), ("stockade/api.ErrName", laid_stockade_api_ErrName), ("stockade/api.ErrType", laid_stockade_api_ErrType), ("stockade/api.ErrLarge", laid_stockade_api_ErrLarge), ("stockade/api.ErrFull", laid_stockade_api_ErrFull), ("stockade/api.ErrNone", laid_stockade_api_ErrNone), ("stockade/api.ErrCode", laid_stockade_api_ErrCode), ("stockade/api.ErrState", laid_stockade_api_ErrState), ("stockade/api.ErrFrame", laid_stockade_api_ErrFrame), ("stockade/api.ErrMac", laid_stockade_api_ErrMac), ("stockade/api.ErrReplay", laid_stockade_api_ErrReplay), ("stockade/api.ErrArena", laid_stockade_api_ErrArena), ("stockade/api.ErrClock", laid_stockade_api_ErrClock), ("stockade/api.ErrQuota", laid_stockade_api_ErrQuota), ("stockade/api.ErrTenant", laid_stockade_api_ErrTenant)], narrowed := true }
def DetectAgainUptoSaid : Prop := detectAgainUptoRow.holds Tryd.pinned (OpenSpec.upto detectAgainSpec)

/-- 'stockadelaw19.DetectTakes', WHERE WHAT IT READS IS OF BULK AT MOST 1048576: true; the input reads as it did. -/
def detectTakesUptoRow : OpenClaim := { program := "ytkjbpkggcddnhaadoor", sum := "d21aa1848b2ff9976706485b9a3ab12adb97c9fb94a2ccbb064ff6fffe03557f", func := "stockade/stockadelaw19.DetectTakes", spec := "detectTakes", inPlace := ["internal/reflectlite.TypeOf"], unfollowed := true, recurses := true, named := ["stockade/api.ErrRange", "stockade/api.ErrState", "stockade/api.ErrClock", "stockade/api.ErrArena", "stockade/api.ErrNone", "stockade/api.ErrText", "stockade/api.ErrDepth", "stockade/api.ErrName", "stockade/api.ErrType", "stockade/api.ErrLarge", "stockade/api.ErrFull", "stockade/api.ErrCode", "stockade/api.ErrFrame", "stockade/api.ErrMac", "stockade/api.ErrReplay", "stockade/api.ErrQuota", "stockade/api.ErrTenant"], plainKeys := false, apart := false, laid := [("stockade/api.ErrRange", laid_stockade_api_ErrRange), ("stockade/api.ErrText", laid_stockade_api_ErrText), ("stockade/api.ErrDepth", laid_stockade_api_ErrDepth), ("stockade/api.ErrName", laid_stockade_api_ErrName), ("stockade/api.ErrType", laid_stockade_api_ErrType), ("stockade/api.ErrLarge", laid_stockade_api_ErrLarge), ("stockade/api.ErrFull", laid_stockade_api_ErrFull), ("stockade/api.ErrNone", laid_stockade_api_ErrNone), ("stockade/api.ErrCode", laid_stockade_api_ErrCode), ("stockade/api.ErrState", laid_stockade_api_ErrState), ("stockade/api.ErrFrame", laid_stockade_api_ErrFrame), ("stockade/api.ErrMac", laid_stockade_api_ErrMac), ("stockade/api.ErrReplay", laid_stockade_api_ErrReplay), ("stockade/api.ErrArena", laid_stockade_api_ErrArena), ("stockade/api.ErrClock", laid_stockade_api_ErrClock), ("stockade/api.ErrQuota", laid_stockade_api_ErrQuota), ("stockade/api.ErrTenant", laid_stockade_api_ErrTenant)], narrowed := true }
def DetectTakesUptoSaid : Prop := detectTakesUptoRow.holds Tryd.pinned (OpenSpec.upto detectTakesSpec)

/-- 'stockadelaw19.DetectNeeds', WHERE WHAT IT READS IS OF BULK AT MOST 1048576: true; the input reads as it did. -/
def detectNeedsUptoRow : OpenClaim := { program := "ytkjbpkggcddnhaadoor", sum := "d21aa1848b2ff9976706485b9a3ab12adb97c9fb94a2ccbb064ff6fffe03557f", func := "stockade/stockadelaw19.DetectNeeds", spec := "detectNeeds", inPlace := ["internal/reflectlite.TypeOf"], unfollowed := true, recurses := true, named := ["stockade/api.ErrRange", "stockade/api.ErrState", "stockade/api.ErrClock", "stockade/api.ErrArena", "stockade/api.ErrNone", "stockade/api.ErrText", "stockade/api.ErrDepth", "stockade/api.ErrName", "stockade/api.ErrType", "stockade/api.ErrLarge", "stockade/api.ErrFull", "stockade/api.ErrCode", "stockade/api.ErrFrame", "stockade/api.ErrMac", "stockade/api.ErrReplay", "stockade/api.ErrQuota", "stockade/api.ErrTenant"], plainKeys := false, apart := false, laid := [("stockade/api.ErrRange", laid_stockade_api_ErrRange), ("stockade/api.ErrText", laid_stockade_api_ErrText), ("stockade/api.ErrDepth", laid_stockade_api_ErrDepth), ("stockade/api.ErrName", laid_stockade_api_ErrName), ("stockade/api.ErrType", laid_stockade_api_ErrType), ("stockade/api.ErrLarge", laid_stockade_api_ErrLarge), ("stockade/api.ErrFull", laid_stockade_api_ErrFull), ("stockade/api.ErrNone", laid_stockade_api_ErrNone), ("stockade/api.ErrCode", laid_stockade_api_ErrCode), ("stockade/api.ErrState", laid_stockade_api_ErrState), ("stockade/api.ErrFrame", laid_stockade_api_ErrFrame), ("stockade/api.ErrMac", laid_stockade_api_ErrMac), ("stockade/api.ErrReplay", laid_stockade_api_ErrReplay), ("stockade/api.ErrArena", laid_stockade_api_ErrArena), ("stockade/api.ErrClock", laid_stockade_api_ErrClock), ("stockade/api.ErrQuota", laid_stockade_api_ErrQuota), ("stockade/api.ErrTenant", laid_stockade_api_ErrTenant)], narrowed := true }
def DetectNeedsUptoSaid : Prop := detectNeedsUptoRow.holds Tryd.pinned (OpenSpec.upto detectNeedsSpec)

/-- 'stockadelaw19.DetectMore', WHERE WHAT IT READS IS OF BULK AT MOST 1048576: true; the input reads as it did. -/
def detectMoreUptoRow : OpenClaim := { program := "ytkjbpkggcddnhaadoor", sum := "d21aa1848b2ff9976706485b9a3ab12adb97c9fb94a2ccbb064ff6fffe03557f", func := "stockade/stockadelaw19.DetectMore", spec := "detectMore", inPlace := ["internal/reflectlite.TypeOf"], unfollowed := true, recurses := true, named := ["stockade/api.ErrRange", "stockade/api.ErrState", "stockade/api.ErrClock", "stockade/api.ErrArena", "stockade/api.ErrNone", "stockade/api.ErrText", "stockade/api.ErrDepth", "stockade/api.ErrName", "stockade/api.ErrType", "stockade/api.ErrLarge", "stockade/api.ErrFull", "stockade/api.ErrCode", "stockade/api.ErrFrame", "stockade/api.ErrMac", "stockade/api.ErrReplay", "stockade/api.ErrQuota", "stockade/api.ErrTenant"], plainKeys := false, apart := false, laid := [("stockade/api.ErrRange", laid_stockade_api_ErrRange), ("stockade/api.ErrText", laid_stockade_api_ErrText), ("stockade/api.ErrDepth", laid_stockade_api_ErrDepth), ("stockade/api.ErrName", laid_stockade_api_ErrName), ("stockade/api.ErrType", laid_stockade_api_ErrType), ("stockade/api.ErrLarge", laid_stockade_api_ErrLarge), ("stockade/api.ErrFull", laid_stockade_api_ErrFull), ("stockade/api.ErrNone", laid_stockade_api_ErrNone), ("stockade/api.ErrCode", laid_stockade_api_ErrCode), ("stockade/api.ErrState", laid_stockade_api_ErrState), ("stockade/api.ErrFrame", laid_stockade_api_ErrFrame), ("stockade/api.ErrMac", laid_stockade_api_ErrMac), ("stockade/api.ErrReplay", laid_stockade_api_ErrReplay), ("stockade/api.ErrArena", laid_stockade_api_ErrArena), ("stockade/api.ErrClock", laid_stockade_api_ErrClock), ("stockade/api.ErrQuota", laid_stockade_api_ErrQuota), ("stockade/api.ErrTenant", laid_stockade_api_ErrTenant)], narrowed := true }
def DetectMoreUptoSaid : Prop := detectMoreUptoRow.holds Tryd.pinned (OpenSpec.upto detectMoreSpec)

end Rows
end Go.Proofs.YtkjbpkggcddnhaaDoor
