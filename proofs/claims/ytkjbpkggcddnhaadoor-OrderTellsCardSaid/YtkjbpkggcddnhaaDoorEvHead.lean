/- The walk of (*watcher).event. -/
import Derived.Test.YtkjbpkggcddnhaaDoorEvSt
import Derived.Test.YtkjbpkggcddnhaaDoorPush
import Derived.Test.YtkjbpkggcddnhaaDoorRegion
namespace Go.Proofs.YtkjbpkggcddnhaaDoor
set_option linter.unusedVariables false
set_option linter.unusedSimpArgs false
open Go.RowKit

theorem comes5_join {rooms : List Int} {s : WS} {g obj at_ : Int} {r : Nat} (hr : roomL rooms obj = r) (h1 : 0 < r) (h2 : r ≤ (s.pp obj).sent.length) (h3 : (s.pp obj).sent.length - r < (s.pp obj).got.length) :
    comesL rooms s ⟨g, 5, obj, at_⟩ = joinL (s.own g) ((s.pp obj).got.getD ((s.pp obj).sent.length - r) []) := by
  unfold comesL
  simp only [show ¬ (5 : Int) = 3 by decide, show ¬ ((5 : Int) = 7 ∨ (5 : Int) = 8 ∨ (5 : Int) = 9) by decide, if_false, if_true, hr]
  rw [if_pos (by omega), show (((s.pp obj).sent.length : Int) - (r : Int)).toNat = (s.pp obj).sent.length - r by omega]
theorem comes5_plain {rooms : List Int} {s : WS} {g obj at_ : Int} {r : Nat} (hr : roomL rooms obj = r) (h : ¬ (0 < r ∧ r ≤ (s.pp obj).sent.length ∧ (s.pp obj).sent.length - r < (s.pp obj).got.length)) :
    comesL rooms s ⟨g, 5, obj, at_⟩ = s.own g := by
  unfold comesL
  simp only [show ¬ (5 : Int) = 3 by decide, show ¬ ((5 : Int) = 7 ∨ (5 : Int) = 8 ∨ (5 : Int) = 9) by decide, if_false, if_true, hr]
  rw [if_neg (by omega)]
theorem comes6_join {rooms : List Int} {s : WS} {g obj at_ : Int} (h : (s.pp obj).got.length < (s.pp obj).sent.length) :
    comesL rooms s ⟨g, 6, obj, at_⟩ = joinL (s.own g) ((s.pp obj).sent.getD (s.pp obj).got.length []) := by
  unfold comesL
  simp only [show ¬ (6 : Int) = 3 by decide, show ¬ ((6 : Int) = 7 ∨ (6 : Int) = 8 ∨ (6 : Int) = 9) by decide, show ¬ (6 : Int) = 5 by decide, if_false, if_true]
  rw [if_pos h]
theorem comes6_plain {rooms : List Int} {s : WS} {g obj at_ : Int} (h : ¬ (s.pp obj).got.length < (s.pp obj).sent.length) :
    comesL rooms s ⟨g, 6, obj, at_⟩ = s.own g := by
  unfold comesL
  simp only [show ¬ (6 : Int) = 3 by decide, show ¬ ((6 : Int) = 7 ∨ (6 : Int) = 8 ∨ (6 : Int) = 9) by decide, show ¬ (6 : Int) = 5 by decide, if_false, if_true]
  rw [if_neg h]
theorem owns_shape {w : World} {base e : Nat} {v : Value} {n : Nat} {xs : List Value} (h : w.ownsRow base e 1 v n xs) : ∃ a c, v = .slice a n c := by
  rcases h.2 with ⟨rfl, rfl⟩ | ⟨g, cap, cur, rfl, _⟩
  · exact ⟨_, _, rfl⟩
  · exact ⟨_, _, rfl⟩
theorem owns_at {w : World} {base e : Nat} {v : Value} {n : Nat} {xs : List Value} (h : w.ownsRow base e 1 v n xs) {j : Nat} (hj : j < n) : ∃ b c, v = .slice (some ⟨b, 0, none⟩) n c ∧ w.cell? ⟨b, j, none⟩ = some (xs.getD j undef) := by
  rcases h.2 with ⟨rfl, rfl⟩ | ⟨g, cap, cur, rfl, _, hg, _, _, hs, ht⟩
  · omega
  · refine ⟨g, cap, rfl, ?_⟩
    have h1 : cur.toList[j]? = xs[j]? := by rw [← ht, List.getElem?_take, if_pos (by omega)]
    have hl := h.1
    rw [cell_of_row w g j cur e (0, 0) hg, ← Array.getElem?_toList, h1]
    have : j < xs.length := by omega
    simp [this]

theorem info_ints : (Tryd.prog.info? 23).map (fun i => (i.zero, i.size, i.bytes)) = some (some (.slice none 0 0), 1, 24) := by kernel_rfl
theorem Ints.shape' {w : World} {v : Value} {l : List Int} (h : Ints w v l) : ∃ a n c, v = .slice a n c := let ⟨a, c, e⟩ := h.shape; ⟨a, _, c, e⟩

theorem row_made {w : World} {base b n k : Nat} (h : w.ownsRow base 3 1 (.slice (some ⟨b, 0, none⟩) n k) n (madeCells #[Value.int .i64 0] n).toList) :
    (∀ j, j < n → w.cell? ⟨b, j, none⟩ = some (.int .i64 0)) ∧ ∀ j, w.frozen? ⟨b, j, none⟩ = false := by
  rcases h.2 with ⟨h0, _⟩ | ⟨g, cap, cur, he, _, hg, hc, _, hs, ht⟩
  · cases h0
  · cases he
    refine ⟨fun j hj => ?_, fun j => ?_⟩
    · rw [cell_of_row w b j cur _ (0, 0) hg]
      have h1 : cur.toList[j]? = (madeCells #[Value.int .i64 0] n).toList[j]? := by rw [← ht, List.getElem?_take, if_pos (by omega)]
      rw [← Array.getElem?_toList, h1]
      simp [madeCells, hj, Nat.mod_one]
    · unfold World.frozen?; rw [hg]; simp
/-- A new row of zeros, as event makes it. -/
structure Made (w : World) (E : Nat) (ρ1 : Nat → Role) (w1 : World) (B n : Nat) : Prop where
  cell : ∀ j, j < n → w1.cell? ⟨B, j, none⟩ = some (.int .i64 0)
  fz : ∀ j, w1.frozen? ⟨B, j, none⟩ = false
  ge : w.heap.size ≤ B
  ne : B ≠ E
  role : ρ1 B = .free
  lt : B < w1.heap.size
theorem St.made {w : World} {W : Nat} {ρ : Nat → Role} {E : Nat} {ev : Ev} {rooms : List Int} {s : WS} {N : Nat} {m : WM} {w0 w1 : World} {ρ1 : Nat → Role} (h : St w W ρ E ev rooms s N m w0 ρ1) (hg : w0.grownBy w1 none) {B n : Nat}
    (hown : w1.ownsRow 0 3 1 (.slice (some ⟨B, 0, none⟩) n n) n (madeCells #[Value.int .i64 0] n).toList) (hB : B = w0.heap.size) : St w W ρ E ev rooms s N m w1 ρ1 ∧ Made w E ρ1 w1 B n := by
  obtain ⟨h1, h2⟩ := row_made hown
  have he := h.elt
  exact ⟨h.grown hg, h1, h2, by rw [hB]; exact h.chg.size, by omega, h.fresh B (by omega), (hown.lt _ rfl).2⟩
/-- 'one[g] = x': the row reads so. -/
theorem Made.one {w : World} {E : Nat} {ρ1 : Nat → Role} {w1 : World} {B g : Nat} (h : Made w E ρ1 w1 B (g + 1)) (hg : g < 8) (x : Int) : Ints (w1.setCell ⟨B, g, none⟩ (.int .i64 x)) (.slice (some ⟨B, 0, none⟩) (g + 1) (g + 1)) (List.replicate g 0 ++ [x]) := by
  have hlen : (List.replicate g (0 : Int) ++ [x]).length = g + 1 := by simp
  have := Ints.mk (w := w1.setCell ⟨B, g, none⟩ (.int .i64 x)) (b := B) (off := 0) (cap := g + 1) (l := List.replicate g 0 ++ [x]) (by simp [World.setCell]; exact h.lt) (by simp) (by simp; omega) (fun j hj => by
    rw [hlen] at hj
    rw [Nat.zero_add]
    by_cases e : j = g
    · subst e
      rw [World.cell?_setCell_same w1 ⟨B, j, none⟩ _ (h.cell j (by omega))]
      simp
    · rw [World.cell?_setCell_other w1 ⟨B, g, none⟩ ⟨B, j, none⟩ _ (fun e' => e (by cases e'; rfl)), h.cell j (by omega)]
      have : j < g := by omega
      simp [List.getElem?_append, this])
  rwa [hlen] at this

end Go.Proofs.YtkjbpkggcddnhaaDoor
