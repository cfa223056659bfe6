/- The contract of (*watcher).event: every event of a trace of good form. -/
import Derived.Test.YtkjbpkggcddnhaaDoorEvA
import Derived.Test.YtkjbpkggcddnhaaDoorEvB
import Derived.Test.YtkjbpkggcddnhaaDoorEvC
import Derived.Test.YtkjbpkggcddnhaaDoorEvD
import Derived.Test.YtkjbpkggcddnhaaDoorEvE
import Derived.Test.YtkjbpkggcddnhaaDoorEvF
namespace Go.Proofs.YtkjbpkggcddnhaaDoor
set_option linter.unusedVariables false
set_option linter.unusedSimpArgs false
open Go.RowKit

theorem event_any {w : World} {W : Nat} {ρ : Nat → Role} {rooms : List Int} {s : WS} {N : Nat} {m : WM} (h : IsW w W ρ rooms s N m) (hN : N ≤ 9000) (ev : Ev) (hf : evForm ev = true)
    (hwf : (Lit.int .i64 ev.obj).wf = true) (hrm : ∀ r ∈ rooms, r ≤ 9223372036854775807) (hbd : getL (comesL rooms s ev) ev.g ≤ 9000000) :
    Calls Tryd.prog 42 #[.pointer (some ⟨W, 0, none⟩), .agg #[.int .i64 ev.g, .int .i64 ev.kind, .int .i64 ev.obj, .int .i64 ev.at_]] w (EvPost w W ρ rooms s N ev) := by
  obtain ⟨gi, kind, obj, at_⟩ := ev
  simp only [evForm, Bool.and_eq_true, decide_eq_true_eq, Bool.or_eq_true, Bool.not_eq_true', decide_eq_false_iff_not] at hf
  obtain ⟨⟨⟨⟨h0, h8⟩, hk1⟩, hk12⟩, hob⟩ := hf
  obtain ⟨g, rfl⟩ : ∃ g : Nat, gi = g := ⟨gi.toNat, by omega⟩
  have hg : g < 8 := by omega
  simp only at hwf hbd hk1 hk12 hob ⊢
  obtain ⟨r, hr⟩ : ∃ r : Nat, roomL rooms obj = r := ⟨(roomL rooms obj).toNat, by have := roomL_nonneg rooms obj; omega⟩
  have hr9 : r ≤ 9223372036854775807 := by
    have h1 : roomL rooms obj ≤ 9223372036854775807 := by
      unfold roomL
      split
      · rename_i hc
        have hl : obj.toNat < rooms.length := by omega
        have := hrm _ (List.getElem_mem hl)
        rw [List.getD_eq_getElem?_getD, List.getElem?_eq_getElem hl]
        simp only [Option.getD_some]
        omega
      · omega
    omega
  by_cases k3 : kind = 3
  · subst k3; exact event_k3 h hN g hg obj at_ hwf hbd
  by_cases k4 : kind = 4
  · subst k4; exact event_k4 h hN g hg obj at_ hwf hbd
  by_cases k5 : kind = 5
  · subst k5
    by_cases hA1 : 0 < r
    · by_cases hA2 : r ≤ (s.pp obj).sent.length
      · by_cases hA3 : (s.pp obj).sent.length - r < (s.pp obj).got.length
        · exact event_k5a h hN g hg obj at_ hwf r hr hr9 hA1 hA2 hA3 hbd
        · exact event_k5d h hN g hg obj at_ hwf r hr hr9 hA1 hA2 hA3 hbd
      · exact event_k5c h hN g hg obj at_ hwf r hr hr9 hA1 hA2 hbd
    · exact event_k5b h hN g hg obj at_ hwf r hr hr9 hA1 hbd
  by_cases k6 : kind = 6
  · subst k6
    by_cases hA1 : (s.pp obj).got.length < (s.pp obj).sent.length
    · by_cases hA2 : r = 0
      · exact event_k6a h hN g hg obj at_ hwf r hr hr9 hA1 hA2 hbd
      · exact event_k6b h hN g hg obj at_ hwf r hr hr9 hA1 hA2 hbd
    · by_cases hA2 : r = 0
      · exact event_k6c h hN g hg obj at_ hwf r hr hr9 hA1 hA2 hbd
      · exact event_k6d h hN g hg obj at_ hwf r hr hr9 hA1 hA2 hbd
  by_cases k7 : kind = 7
  · subst k7; exact event_k7 h hN g hg obj at_ hwf hbd
  by_cases k8 : kind = 8
  · subst k8; exact event_k8 h hN g hg obj at_ hwf hbd
  by_cases k9 : kind = 9
  · subst k9; exact event_k9 h hN g hg obj at_ hwf hbd
  by_cases k10 : kind = 10
  · subst k10
    have ho : 0 ≤ obj ∧ obj < 8 := by rcases hob with h | h; exact absurd rfl h; exact h
    obtain ⟨ob, rfl⟩ : ∃ ob : Nat, obj = ob := ⟨obj.toNat, by omega⟩
    exact event_k10 h hN g ob hg at_ hwf ho.1 ho.2 hbd
  · exact event_other h hN g hg kind obj at_ hwf (beq_false_of_ne k3) (beq_false_of_ne k4) (beq_false_of_ne k5) (beq_false_of_ne k6) (beq_false_of_ne k7) (beq_false_of_ne k8) (beq_false_of_ne k9) (beq_false_of_ne k10) hbd
end Go.Proofs.YtkjbpkggcddnhaaDoor
