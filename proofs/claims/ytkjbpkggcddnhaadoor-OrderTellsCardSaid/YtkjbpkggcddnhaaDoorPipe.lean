/- The walks of (*watcher).room and (*watcher).pipe. -/
import Derived.Test.YtkjbpkggcddnhaaDoorOrdMem
import Derived.Deep.RegionHeld3
namespace Go.Proofs.YtkjbpkggcddnhaaDoor
set_option linter.unusedVariables false
set_option linter.unusedSimpArgs false
open Go.RowKit

theorem zero_ints (w : World) : (zeroValue 23).run Tryd.prog w = .ok (.slice none 0 0) w := by kernel_rfl
theorem zero_pipe (w : World) : (zeroValue 127).run Tryd.prog w = .ok (.pointer none) w := by kernel_rfl
theorem und_int : Tryd.prog.underlying 3 = some (.int .i64) := Tryd.underlying3

set_option maxRecDepth 100000 in
set_option maxHeartbeats 400000 in
theorem room_any {w : World} {W : Nat} {vr : Value} {rooms : List Int} (c : Int) (hc0 : w.cell? ⟨W, 0, none⟩ = some vr) (hr : Ints w vr rooms) :
    Calls Tryd.prog 64 #[.pointer (some ⟨W, 0, none⟩), .int .i64 c] w fun e w' => e = .returned (.int .i64 (roomL rooms c)) ∧ w = w' := by
  obtain ⟨a, cc, rfl⟩ := hr.shape
  by_cases h0 : c < 0
  · have hL : roomL rooms c = 0 := by unfold roomL; rw [if_neg (by omega)]
    have HL := Lib.hid hL
    clear hL
    go_enter Tryd.func64, Tryd.ntmps64
    go_wp2
    go_ret
    exact ⟨ret_i HL.out.symm, rfl⟩
  · by_cases h1 : c < rooms.length
    · obtain ⟨k, rfl⟩ := Int.eq_ofNat_of_zero_le (Int.not_lt.1 h0)
      rcases hr.cases with ⟨_, rfl⟩ | ⟨b, off, cap, he, _, _, hm, hc⟩
      · simp at h1; omega
      · cases he
        have hk : k < rooms.length := by omega
        have hck := hc k hk
        have hL : roomL rooms k = max (rooms.getD k 0) 0 := by unfold roomL; rw [if_pos (by omega)]; rfl
        clear hc hr
        generalize rooms.getD k 0 = x at hck hL
        have HL := Lib.hid hL
        clear hL
        go_enter Tryd.func64, Tryd.ntmps64
        go_wp2
        all_goals
          go_ret
          refine ⟨ret_i ?_, rfl⟩
          rw [HL.out]
          omega
    · have hL : roomL rooms c = 0 := by unfold roomL; rw [if_neg (by omega)]
      have HL := Lib.hid hL
      clear hL
      go_enter Tryd.func64, Tryd.ntmps64
      go_wp2
      go_ret
      exact ⟨ret_i HL.out.symm, rfl⟩

/-- What pipe hands back: a channel's pipe, made if there was none. -/
def PipePost (w : World) (W : Nat) (ρ : Nat → Role) (rooms : List Int) (s : WS) (N : Nat) (m : WM) (c : Int) (e : Ending) (w' : World) : Prop :=
  ∃ p ρ' m', e = .returned (.pointer (some ⟨p, 0, none⟩)) ∧ m'.f3 c = some (.pointer (some ⟨p, 0, none⟩)) ∧ IsW w' W ρ' rooms s (N + 1) m' ∧ (∀ b, b < w.heap.size → ρ' b = ρ b) ∧ (∀ b, w'.heap.size ≤ b → ρ' b = ρ b) ∧
    m'.vr = m.vr ∧ m'.vo = m.vo ∧ m'.M1 = m.M1 ∧ m'.M2 = m.M2 ∧ m'.M3 = m.M3 ∧ m'.f1 = m.f1 ∧ m'.f2 = m.f2 ∧ Chg (fun b => b = m.M3) w w'

set_option maxRecDepth 100000 in
set_option maxHeartbeats 400000 in
theorem pipe_any {w : World} {W : Nat} {ρ : Nat → Role} {rooms : List Int} {s : WS} {N : Nat} {m : WM} (h : IsW w W ρ rooms s N m) (hN : N ≤ 10000) {c : Int} (hwf : (Lit.int .i64 c).wf = true) :
    Calls Tryd.prog 63 #[.pointer (some ⟨W, 0, none⟩), .int .i64 c] w (PipePost w W ρ rooms s N m c) := by
  have hc11 := h.c11
  have hlook := h.pp.1.lookup und_int Tryd.underlying75 (zero_pipe w) hwf
  cases hf : m.f3 c with
  | some v =>
    obtain ⟨p, v1, v2, v3, l1, l2, rfl, hp⟩ := (h.pp.2 c).2 v hf
    rw [hf] at hlook
    simp only [Option.getD_some] at hlook
    have Hf := Lib.hid hf
    have Hh := Lib.hid h
    clear hf h hp
    go_enter Tryd.func63, Tryd.ntmps63
    go_wp2
    go_ret
    exact ⟨p, ρ, m, rfl, Hf.out, Hh.out.mono (Nat.le_succ _), fun _ _ => rfl, fun _ _ => rfl, rfl, rfl, rfl, rfl, rfl, rfl, rfl, Chg.refl _ _⟩
  | none =>
    rw [hf] at hlook
    simp only [Option.getD_none] at hlook
    have Hf := Lib.hid hf
    have Hh := Lib.hid h
    have hlt := h.lt
    have hpp := h.pp.1
    clear hf h
    go_enter Tryd.func63, Tryd.ntmps63
    go_wp2_with (at_mapUpdate; refine wpList_mapUpdate_raw _ rfl _ _ _ 75 rfl 3 127 und_int Tryd.underlying75 m.M3 N m.f3 rfl (hpp.kept (Chg.alloc (fun _ => False) w _) id) (by unfold maxLen; omega) c _ rfl rfl hwf ?_; intro w1 hm1 hg1)
    have Hm := Lib.hid hm1
    have Hg := Lib.hid hg1
    clear hm1 hg1 hlook
    go_wp2
    go_ret
    have hn := Hh.out.new_pipe Hf.out Hm.out Hg.out
    refine ⟨w.heap.size, _, _, rfl, upd_same _ _ _, hn, fun b hb => ?_, fun b hb => ?_, rfl, rfl, rfl, rfl, rfl, rfl, rfl, ?_⟩
    · show (if b = w.heap.size then _ else _) = _
      rw [if_neg (by omega)]
    · show (if b = w.heap.size then _ else _) = _
      have := Hg.out.size
      simp at this
      rw [if_neg (by omega)]
    · exact (Chg.alloc _ w _).trans (Chg.grown Hg.out (fun k hk => by cases hk; rfl))
end Go.Proofs.YtkjbpkggcddnhaaDoor
