/- The walks of errors.Is at the listed errors and of stockadenum.Num. -/
import Derived.Test.YtkjbpkggcddnhaaDoorErrs
import Derived.LaidEql
import Derived.Stop.Asserts
import Derived.RowKitTokens
import Derived.Deep.LoopGhost
namespace Go.Proofs.YtkjbpkggcddnhaaDoor
set_option linter.unusedVariables false
set_option linter.unusedSimpArgs false
open Go.RowKit Go.Extern.Stop Go.Stop Go.Extern

set_option maxRecDepth 100000 in
theorem isTypeOf (v : Value) (w : World) : (Extern.ReflectliteType.typeOf #[.iface 213 v]).run Tryd.prog w = .ok (.iface 163 (.agg #[.pointer (some ⟨17, 213, none⟩)])) w := by kernel_rfl
set_option maxRecDepth 100000 in
theorem isComparable (w : World) : (callFunc 154 #[.agg #[.pointer (some ⟨17, 213, none⟩)]]).run Tryd.prog w = .ok (.value (.bool true)) w :=
  (run_callFunc_extern (P := Tryd.prog) (f := 154) (e := Extern.ReflectliteType.method fun t => do Extern.Rtype.noPackHeld "Comparable" t; pure (.bool (← typeInfo t).comparable)) Tryd.func154 (by kernel_rfl) (by kernel_rfl) (by kernel_rfl) (by kernel_rfl) #[.agg #[.pointer (some ⟨17, 213, none⟩)]] w).trans (by kernel_rfl)
set_option maxRecDepth 100000 in
theorem isMethodComparable (v : Value) (w : World) : (Go.method 349 163 v "Comparable").run Tryd.prog w = .ok (154, v) w := by kernel_rfl
set_option maxRecDepth 100000 in
theorem isComp : (Tryd.prog.info? 213).map (·.comparable) = some true := by kernel_rfl
set_option maxRecDepth 100000 in
theorem isSize : (Tryd.prog.info? 237).map (·.size) = some 1 := by kernel_rfl
set_option maxRecDepth 100000 in
theorem noIsE (v : Value) (xT : TypeId) (w : World) : (Instr.typeAssert (.iface 213 v) xT 165 true).run Tryd.prog w = .ok (.tuple #[.nilIface, .bool false]) w := run_typeAssert_lacksB Tryd.underlying165 (by kernel_rfl) (by kernel_rfl) v xT w
set_option maxRecDepth 100000 in
theorem noUnwrapE (v : Value) (xT : TypeId) (w : World) : (Instr.typeAssert (.iface 213 v) xT 168 true).run Tryd.prog w = .ok (.tuple #[.nilIface, .bool false]) w := run_typeAssert_lacksB Tryd.underlying168 (by kernel_rfl) (by kernel_rfl) v xT w
set_option maxRecDepth 100000 in
theorem noUnwrapsE (v : Value) (xT : TypeId) (w : World) : (Instr.typeAssert (.iface 213 v) xT 170 true).run Tryd.prog w = .ok (.tuple #[.nilIface, .bool false]) w := run_typeAssert_lacksB Tryd.underlying170 (by kernel_rfl) (by kernel_rfl) v xT w

set_option maxRecDepth 100000 in
set_option maxHeartbeats 4000000 in
/-- errors.Is(x, x), x a pointer to an errors.errorString. -/
theorem is_same (a : Addr) (w : World) :
    Calls Tryd.prog 48 #[.iface 213 (.pointer (some a)), .iface 213 (.pointer (some a))] w fun e w' => e = .returned (.bool true) ∧ w = w' := by
  obtain ⟨i, hi, hcmp⟩ := Option.map_eq_some_iff.1 isComp
  obtain ⟨j, hj, hjs⟩ := Option.map_eq_some_iff.1 isSize
  have h8 := @run_callFunc_extern Tryd.prog 69 _ Extern.ReflectliteType.typeOf Tryd.func69 (by kernel_rfl) (by kernel_rfl) (by kernel_rfl) (by kernel_rfl)
  have tT := isTypeOf
  have cT := isComparable
  have mR := isMethodComparable
  have heq := run_eql_iface_ptr_same (P := Tryd.prog) w a Tryd.underlying28 Tryd.underlying213 hi hcmp hj
  go_enter Tryd.func48, Tryd.ntmps48
  go_wp2
  refine wp_loop_rounds 1 ?_
  rw [rounds_succ]
  go_wp2
  go_ret
  exact ⟨rfl, rfl⟩

set_option maxRecDepth 100000 in
set_option maxHeartbeats 4000000 in
/-- errors.Is(x, y), two different pointers to errors.errorString. -/
theorem is_other (a b : Addr) (ca cb : Array Value) (ta tb : TypeId) (w : World) (hne : a ≠ b) (ha : w.heap[a.block]? = some (.cells ca ta (0, 0))) (hb : w.heap[b.block]? = some (.cells cb tb (0, 0))) :
    Calls Tryd.prog 48 #[.iface 213 (.pointer (some a)), .iface 213 (.pointer (some b))] w fun e w' => e = .returned (.bool false) ∧ w = w' := by
  obtain ⟨i, hi, hcmp⟩ := Option.map_eq_some_iff.1 isComp
  obtain ⟨j, hj, hjs⟩ := Option.map_eq_some_iff.1 isSize
  have h8 := @run_callFunc_extern Tryd.prog 69 _ Extern.ReflectliteType.typeOf Tryd.func69 (by kernel_rfl) (by kernel_rfl) (by kernel_rfl) (by kernel_rfl)
  have tT := isTypeOf
  have cT := isComparable
  have mR := isMethodComparable
  have nE := noIsE
  have uE := noUnwrapE
  have vE := noUnwrapsE
  have heq := run_eql_iface_ptr_other (P := Tryd.prog) w Tryd.underlying28 Tryd.underlying213 hi hcmp hj (by rw [hjs]; decide) hne ha hb
  go_enter Tryd.func48, Tryd.ntmps48
  go_wp2
  refine wp_loop_rounds 1 ?_
  rw [rounds_succ]
  go_wp2
  go_ret
  exact ⟨rfl, rfl⟩

/-- The listed errors: variable i holds the error at A i; no two at one place. -/
structure ErrsAt (W : World) (A : Nat → Addr) : Prop where
  sent : ∀ i, i < 17 → Sent W i (A i)
  ne : ∀ i j, i < 17 → j < 17 → i ≠ j → A i ≠ A j
theorem Sent.kept {S : Nat → Prop} {W W' : World} {g : Nat} {a : Addr} (h : Sent W g a) (hc : Chg S W W') (h1 : ¬ S g) (h2 : ¬ S a.block) : Sent W' g a := by
  obtain ⟨c, t, hb⟩ := h.blk
  obtain ⟨s, hs, hz⟩ := h.str
  have hlt : a.block < W.heap.size := (Array.getElem?_eq_some_iff.1 hb).1
  exact ⟨hc.cell h.cell h1, ⟨c, t, (hc.block _ hlt h2).trans hb⟩, ⟨s, hc.cell hs h2, hz⟩⟩
theorem ErrsAt.new {W W' : World} {A : Nat → Addr} (h : ErrsAt W A) (hb : Below W.heap.size W W') : ErrsAt W' A :=
  ⟨fun i hi => (h.sent i hi).kept (S := fun _ => False) (Chg.of_new hb) id id, h.ne⟩
def errV (a : Addr) : Value := .iface 213 (.pointer (some a))
/-- errors.Is of two listed errors. -/
theorem is_any {W : World} {A : Nat → Addr} (h : ErrsAt W A) {i j : Nat} (hi : i < 17) (hj : j < 17) : Calls Tryd.prog 48 #[errV (A i), errV (A j)] W fun e w' => e = .returned (.bool (decide (i = j))) ∧ W = w' := by
  by_cases e : i = j
  · subst e
    rw [decide_eq_true rfl]
    exact is_same (A i) W
  · rw [decide_eq_false e]
    obtain ⟨c, t, hb⟩ := (h.sent i hi).blk
    obtain ⟨c', t', hb'⟩ := (h.sent j hj).blk
    exact is_other (A i) (A j) c c' t t' W (h.ne i j hi hj e) hb hb'

set_option maxRecDepth 100000 in
set_option maxHeartbeats 4000000 in
theorem num_nil (w : World) : Calls Tryd.prog 19 #[.nilIface] w fun e w' => e = .returned (.int .i64 0) ∧ w = w' := by
  go_enter Tryd.func19, Tryd.ntmps19
  go_wp2_with fail
  go_ret
  exact ⟨rfl, rfl⟩

set_option maxRecDepth 100000 in
set_option maxHeartbeats 4000000 in
/-- The number of a listed error. -/
theorem num_any {W : World} {A : Nat → Addr} (h : ErrsAt W A) {j : Nat} (hj : j < 17) : Calls Tryd.prog 19 #[errV (A j)] W fun e w' => e = .returned (.int .i64 (j + 1)) ∧ Below W.heap.size W w' := by
  have H := Lib.hid h
  have g0 := (h.sent 0 (by decide)).cell
  have g1 := (h.sent 1 (by decide)).cell
  have g2 := (h.sent 2 (by decide)).cell
  have g3 := (h.sent 3 (by decide)).cell
  have g4 := (h.sent 4 (by decide)).cell
  have g5 := (h.sent 5 (by decide)).cell
  have g6 := (h.sent 6 (by decide)).cell
  have g7 := (h.sent 7 (by decide)).cell
  have g8 := (h.sent 8 (by decide)).cell
  have g9 := (h.sent 9 (by decide)).cell
  have g10 := (h.sent 10 (by decide)).cell
  have g11 := (h.sent 11 (by decide)).cell
  have g12 := (h.sent 12 (by decide)).cell
  have g13 := (h.sent 13 (by decide)).cell
  have g14 := (h.sent 14 (by decide)).cell
  have g15 := (h.sent 15 (by decide)).cell
  have g16 := (h.sent 16 (by decide)).cell
  clear h
  unfold errV
  go_enter Tryd.func19, Tryd.ntmps19
  go_wp2_with fail
  have hcl := new_cells W [.iface 213 (.pointer (some (A 0))), .iface 213 (.pointer (some (A 1))), .iface 213 (.pointer (some (A 2))), .iface 213 (.pointer (some (A 3))), .iface 213 (.pointer (some (A 4))), .iface 213 (.pointer (some (A 5))), .iface 213 (.pointer (some (A 6))), .iface 213 (.pointer (some (A 7))), .iface 213 (.pointer (some (A 8))), .iface 213 (.pointer (some (A 9))), .iface 213 (.pointer (some (A 10))), .iface 213 (.pointer (some (A 11))), .iface 213 (.pointer (some (A 12))), .iface 213 (.pointer (some (A 13))), .iface 213 (.pointer (some (A 14))), .iface 213 (.pointer (some (A 15))), .iface 213 (.pointer (some (A 16)))] 28
  have hlist : ∀ i, i < 17 → [Value.iface 213 (.pointer (some (A 0))), .iface 213 (.pointer (some (A 1))), .iface 213 (.pointer (some (A 2))), .iface 213 (.pointer (some (A 3))), .iface 213 (.pointer (some (A 4))), .iface 213 (.pointer (some (A 5))), .iface 213 (.pointer (some (A 6))), .iface 213 (.pointer (some (A 7))), .iface 213 (.pointer (some (A 8))), .iface 213 (.pointer (some (A 9))), .iface 213 (.pointer (some (A 10))), .iface 213 (.pointer (some (A 11))), .iface 213 (.pointer (some (A 12))), .iface 213 (.pointer (some (A 13))), .iface 213 (.pointer (some (A 14))), .iface 213 (.pointer (some (A 15))), .iface 213 (.pointer (some (A 16)))][i]? = some (.iface 213 (.pointer (some (A i)))) := fun i hi => by
    match i, hi with
    | 0, _ => rfl
    | 1, _ => rfl
    | 2, _ => rfl
    | 3, _ => rfl
    | 4, _ => rfl
    | 5, _ => rfl
    | 6, _ => rfl
    | 7, _ => rfl
    | 8, _ => rfl
    | 9, _ => rfl
    | 10, _ => rfl
    | 11, _ => rfl
    | 12, _ => rfl
    | 13, _ => rfl
    | 14, _ => rfl
    | 15, _ => rfl
    | 16, _ => rfl
    | i + 17, h => omega
  have hc : ∀ i, i < 17 → (W.alloc (.cells #[.iface 213 (.pointer (some (A 0))), .iface 213 (.pointer (some (A 1))), .iface 213 (.pointer (some (A 2))), .iface 213 (.pointer (some (A 3))), .iface 213 (.pointer (some (A 4))), .iface 213 (.pointer (some (A 5))), .iface 213 (.pointer (some (A 6))), .iface 213 (.pointer (some (A 7))), .iface 213 (.pointer (some (A 8))), .iface 213 (.pointer (some (A 9))), .iface 213 (.pointer (some (A 10))), .iface 213 (.pointer (some (A 11))), .iface 213 (.pointer (some (A 12))), .iface 213 (.pointer (some (A 13))), .iface 213 (.pointer (some (A 14))), .iface 213 (.pointer (some (A 15))), .iface 213 (.pointer (some (A 16)))] 28)).cell? ⟨W.heap.size, i, none⟩ = some (.iface 213 (.pointer (some (A i)))) := fun i hi => by
    exact hcl i _ (hlist i hi)
  have hE : ErrsAt (W.alloc (.cells #[.iface 213 (.pointer (some (A 0))), .iface 213 (.pointer (some (A 1))), .iface 213 (.pointer (some (A 2))), .iface 213 (.pointer (some (A 3))), .iface 213 (.pointer (some (A 4))), .iface 213 (.pointer (some (A 5))), .iface 213 (.pointer (some (A 6))), .iface 213 (.pointer (some (A 7))), .iface 213 (.pointer (some (A 8))), .iface 213 (.pointer (some (A 9))), .iface 213 (.pointer (some (A 10))), .iface 213 (.pointer (some (A 11))), .iface 213 (.pointer (some (A 12))), .iface 213 (.pointer (some (A 13))), .iface 213 (.pointer (some (A 14))), .iface 213 (.pointer (some (A 15))), .iface 213 (.pointer (some (A 16)))] 28)) A := H.out.new ((Below.refl _ W).alloc (Nat.le_refl _) _)
  have hb0 : Below W.heap.size W (W.alloc (.cells #[.iface 213 (.pointer (some (A 0))), .iface 213 (.pointer (some (A 1))), .iface 213 (.pointer (some (A 2))), .iface 213 (.pointer (some (A 3))), .iface 213 (.pointer (some (A 4))), .iface 213 (.pointer (some (A 5))), .iface 213 (.pointer (some (A 6))), .iface 213 (.pointer (some (A 7))), .iface 213 (.pointer (some (A 8))), .iface 213 (.pointer (some (A 9))), .iface 213 (.pointer (some (A 10))), .iface 213 (.pointer (some (A 11))), .iface 213 (.pointer (some (A 12))), .iface 213 (.pointer (some (A 13))), .iface 213 (.pointer (some (A 14))), .iface 213 (.pointer (some (A 15))), .iface 213 (.pointer (some (A 16)))] 28)) := (Below.refl _ W).alloc (Nat.le_refl _) _
  have Hc := Lib.hid hc
  have HE := Lib.hid hE
  have Hb0 := Lib.hid hb0
  clear hcl hlist hc hE hb0 g0 g1 g2 g3 g4 g5 g6 g7 g8 g9 g10 g11 g12 g13 g14 g15 g16
  generalize W.alloc (.cells #[.iface 213 (.pointer (some (A 0))), .iface 213 (.pointer (some (A 1))), .iface 213 (.pointer (some (A 2))), .iface 213 (.pointer (some (A 3))), .iface 213 (.pointer (some (A 4))), .iface 213 (.pointer (some (A 5))), .iface 213 (.pointer (some (A 6))), .iface 213 (.pointer (some (A 7))), .iface 213 (.pointer (some (A 8))), .iface 213 (.pointer (some (A 9))), .iface 213 (.pointer (some (A 10))), .iface 213 (.pointer (some (A 11))), .iface 213 (.pointer (some (A 12))), .iface 213 (.pointer (some (A 13))), .iface 213 (.pointer (some (A 14))), .iface 213 (.pointer (some (A 15))), .iface 213 (.pointer (some (A 16)))] 28) = wL at Hc HE Hb0 ⊢
  go_loopg [4, 5, 28] (17) (fun gk s4 s5 i wr => ∃ k : Nat, k ≤ j ∧ gk = 17 - k ∧ i = .int .i64 k ∧ wr = wL)
  case atStart => exact ⟨0, Nat.zero_le _, rfl, rfl, rfl⟩
  case round =>
    obtain ⟨k, hk, rfl, rfl, rfl⟩ := hrel
    have hk17 : k < 17 := by omega
    have hkI : (k : Int) < 17 := by omega
    have x0 := Hc.out k hk17
    have Hcall := Lib.hid (is_any HE.out hj hk17)
    by_cases e : j = k
    · have He := Lib.hid e
      rw [decide_eq_true e] at Hcall
      unfold errV at Hcall
      clear e
      go_wp2_with (go_at_call 48; refine Hcall.out.mono ?_; rintro e w' ⟨rfl, rfl⟩)
      go_ret
      exact ⟨ret_i (by rw [He.out]), Hb0.out⟩
    · have hlt : k < j := by omega
      rw [decide_eq_false e] at Hcall
      unfold errV at Hcall
      clear e
      go_wp2_with (go_at_call 48; refine Hcall.out.mono ?_; rintro e w' ⟨rfl, rfl⟩)
      go_roundg (17 - (k + 1))
      case measure => omega
      case rel => exact ⟨k + 1, by omega, rfl, by go_num, rfl⟩
end Go.Proofs.YtkjbpkggcddnhaaDoor
