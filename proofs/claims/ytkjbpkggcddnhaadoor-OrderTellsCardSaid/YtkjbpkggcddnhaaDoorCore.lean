/- The words on memory that the walks of this seat use: what changes between two worlds, slices that read as lists. No program in sight. -/
import Derived.WalkKit
import Derived.WalkSpells
import Derived.WalkLawsBesides
import Derived.Lib.Hide
namespace Go.Proofs.YtkjbpkggcddnhaaDoor
set_option linter.unusedVariables false
set_option linter.unusedSimpArgs false
open Go.RowKit

/-- w' is w but for new blocks and writes to the blocks of S. -/
structure Chg (S : Nat → Prop) (w w' : World) : Prop where
  os : w'.os = w.os
  tape : w'.tape = w.tape
  output : w'.output = w.output
  size : w.heap.size ≤ w'.heap.size
  block : ∀ k, k < w.heap.size → ¬ S k → w'.heap[k]? = w.heap[k]?

theorem Chg.refl (S : Nat → Prop) (w : World) : Chg S w w := ⟨rfl, rfl, rfl, Nat.le_refl _, fun _ _ _ => rfl⟩
theorem Chg.trans {S : Nat → Prop} {a b c : World} (h : Chg S a b) (k : Chg S b c) : Chg S a c :=
  ⟨k.os.trans h.os, k.tape.trans h.tape, k.output.trans h.output, Nat.le_trans h.size k.size, fun i hi hs => (k.block i (Nat.lt_of_lt_of_le hi h.size) hs).trans (h.block i hi hs)⟩
theorem Chg.then {S T : Nat → Prop} {a b c : World} (h : Chg S a b) (k : Chg T b c) (hT : ∀ i, i < a.heap.size → T i → S i) : Chg S a c :=
  ⟨k.os.trans h.os, k.tape.trans h.tape, k.output.trans h.output, Nat.le_trans h.size k.size, fun i hi hs => (k.block i (Nat.lt_of_lt_of_le hi h.size) (fun ht => hs (hT i hi ht))).trans (h.block i hi hs)⟩
theorem Chg.mono {S T : Nat → Prop} {w w' : World} (h : Chg S w w') (hST : ∀ k, S k → k < w.heap.size → T k) : Chg T w w' :=
  ⟨h.os, h.tape, h.output, h.size, fun k hk hT => h.block k hk (fun hs => hT (hST k hs hk))⟩
theorem Chg.alloc (S : Nat → Prop) (w : World) (o : Obj) : Chg S w (w.alloc o) := ⟨rfl, rfl, rfl, by simp, fun k hk _ => Below.heap_alloc _ _ _ hk⟩
theorem Chg.drew (S : Nat → Prop) (w : World) : Chg S w w.drew := ⟨rfl, rfl, rfl, Nat.le_refl _, fun _ _ _ => rfl⟩
theorem Chg.drewN (S : Nat → Prop) (w : World) (n : Nat) : Chg S w (w.drewN n) := ⟨rfl, rfl, rfl, Nat.le_refl _, fun _ _ _ => rfl⟩
theorem Chg.setCell {S : Nat → Prop} (w : World) {p : Addr} (u : Value) (h : S p.block) : Chg S w (w.setCell p u) :=
  ⟨rfl, rfl, rfl, by simp [World.setCell], fun k _ hk => Below.heap_setCell _ _ _ _ (fun e => hk (e ▸ h))⟩
theorem Chg.grown {S : Nat → Prop} {w w' : World} {row : Option Nat} (hg : w.grownBy w' row) (h : ∀ k, row = some k → S k) : Chg S w w' :=
  ⟨hg.os, hg.tape, hg.output, hg.size, fun k hk hs => hg.block k hk (fun e => hs (h k e.symm))⟩
theorem Chg.of_below {S : Nat → Prop} {B : Nat} {w w' : World} (h : Below B w w') (hS : ∀ k, B ≤ k → k < w.heap.size → S k) : Chg S w w' :=
  ⟨h.os, h.tape, h.output, h.size, fun k hk hs => h.block k (Nat.lt_of_not_le fun hb => hs (hS k hb hk))⟩
theorem Chg.of_new {S : Nat → Prop} {w w' : World} (h : Below w.heap.size w w') : Chg S w w' := Chg.of_below h (fun _ h1 h2 => absurd h2 (Nat.not_lt.2 h1))
theorem Chg.below {S : Nat → Prop} {w w' : World} (h : Chg S w w') {B : Nat} (hB : B ≤ w.heap.size) (hS : ∀ k, S k → B ≤ k) : Below B w w' :=
  ⟨h.os, h.tape, h.output, h.size, fun k hk => h.block k (by omega) (fun hs => by have := hS k hs; omega)⟩
theorem Chg.cell {S : Nat → Prop} {w w' : World} (h : Chg S w w') {a : Addr} {v : Value} (hc : w.cell? a = some v) (hs : ¬ S a.block) : w'.cell? a = some v := by
  have hlt := World.block_lt_of_cell? w a hc
  rw [World.cell?_of_block (w := w) (h.block a.block hlt hs)]
  exact hc
theorem Chg.frozen {S : Nat → Prop} {w w' : World} (h : Chg S w w') {a : Addr} (hlt : a.block < w.heap.size) (hs : ¬ S a.block) : w'.frozen? a = w.frozen? a :=
  World.frozen?_of_block (w := w) (h.block a.block hlt hs)

/-! ### slices -/
/-- v is a slice of n elements of k cells each: the cells hold cs. -/
def SlAt (w : World) (v : Value) (k n : Nat) (cs : List Value) : Prop :=
  cs.length = n * k ∧ n ≤ 9223372036854775807 ∧ ((v = .slice none 0 0 ∧ n = 0) ∨
    ∃ b off cap, v = .slice (some ⟨b, off, none⟩) n cap ∧ b < w.heap.size ∧ n ≤ cap ∧ ∀ j, j < n * k → w.cell? ⟨b, off + j, none⟩ = cs[j]?)

theorem SlAt.nil (w : World) (k : Nat) : SlAt w (.slice none 0 0) k 0 [] := ⟨by simp, by omega, .inl ⟨rfl, rfl⟩⟩
theorem SlAt.lt {w : World} {v : Value} {k n : Nat} {cs : List Value} (h : SlAt w v k n cs) : ∀ b, v.ownBlock = some b → b < w.heap.size := by
  intro b hb
  rcases h.2.2 with ⟨rfl, _⟩ | ⟨b', off, cap, rfl, hlt, _, _⟩
  · simp [Value.ownBlock] at hb
  · simp [Value.ownBlock] at hb; omega
theorem SlAt.kept {S : Nat → Prop} {w w' : World} {v : Value} {k n : Nat} {cs : List Value} (h : SlAt w v k n cs) (hc : Chg S w w') (hs : ∀ b, v.ownBlock = some b → ¬ S b) : SlAt w' v k n cs := by
  refine ⟨h.1, h.2.1, ?_⟩
  rcases h.2.2 with hn | ⟨b, off, cap, rfl, hlt, hcap, hcell⟩
  · exact .inl hn
  · refine .inr ⟨b, off, cap, rfl, Nat.lt_of_lt_of_le hlt hc.size, hcap, fun j hj => ?_⟩
    rw [World.cell?_of_block (w := w) (hc.block b hlt (hs b rfl))]
    exact hcell j hj
theorem SlAt.below {B : Nat} {w w' : World} {v : Value} {k n : Nat} {cs : List Value} (h : SlAt w v k n cs) (hb : Below B w w') (hs : ∀ b, v.ownBlock = some b → b < B) : SlAt w' v k n cs :=
  h.kept (S := fun b => B ≤ b) (Chg.of_below hb fun _ h _ => h) (fun b e => by have := hs b e; omega)
theorem SlAt.new {w w' : World} {v : Value} {k n : Nat} {cs : List Value} (h : SlAt w v k n cs) (hb : Below w.heap.size w w') : SlAt w' v k n cs :=
  h.below hb h.lt
theorem SlAt.of_owns {w : World} {base e k : Nat} {v : Value} {n : Nat} {xs : List Value} (h : w.ownsRow base e k v n xs) (hn : n ≤ 9223372036854775807) : SlAt w v k n xs := by
  refine ⟨h.1, hn, ?_⟩
  rcases h.2 with h0 | ⟨g, cap, cur, rfl, _, hg, hc, _, hs, ht⟩
  · exact .inl h0
  · refine .inr ⟨g, 0, cap, rfl, (Array.getElem?_eq_some_iff.1 hg).1, hc, fun j hj => ?_⟩
    rw [Nat.zero_add, cell_of_row w g j cur e (0, 0) hg, ← ht, List.getElem?_take, if_pos hj]
    simp
/-- The first m elements. -/
theorem SlAt.take {w : World} {b off cap : Nat} {k n : Nat} {cs : List Value} (h : SlAt w (.slice (some ⟨b, off, none⟩) n cap) k n cs) {m : Nat} (hm : m ≤ n) :
    SlAt w (.slice (some ⟨b, off, none⟩) m cap) k m (cs.take (m * k)) := by
  have hmk : m * k ≤ n * k := Nat.mul_le_mul_right _ hm
  refine ⟨by rw [List.length_take, h.1]; omega, by have := h.2.1; omega, ?_⟩
  rcases h.2.2 with ⟨h0, _⟩ | ⟨b', off', cap0, he, hlt, hcap, hcell⟩
  · cases h0
  · cases he
    refine .inr ⟨b, off, cap, rfl, hlt, by omega, fun j hj => ?_⟩
    rw [hcell j (by omega), List.getElem?_take, if_pos hj]

/-- v reads as the ints l. -/
def Ints (w : World) (v : Value) (l : List Int) : Prop := SlAt w v 1 l.length (l.map (Value.int .i64))
theorem Ints.nil (w : World) : Ints w (.slice none 0 0) [] := SlAt.nil w 1
theorem Ints.new {w w' : World} {v : Value} {l : List Int} (h : Ints w v l) (hb : Below w.heap.size w w') : Ints w' v l := SlAt.new h hb
theorem Ints.below {B : Nat} {w w' : World} {v : Value} {l : List Int} (h : Ints w v l) (hb : Below B w w') (hs : ∀ b, v.ownBlock = some b → b < B) : Ints w' v l := SlAt.below h hb hs
theorem Ints.kept {S : Nat → Prop} {w w' : World} {v : Value} {l : List Int} (h : Ints w v l) (hc : Chg S w w') (hs : ∀ b, v.ownBlock = some b → ¬ S b) : Ints w' v l := SlAt.kept h hc hs
theorem Ints.cases {w : World} {v : Value} {l : List Int} (h : Ints w v l) : (v = .slice none 0 0 ∧ l = []) ∨
    ∃ b off cap, v = .slice (some ⟨b, off, none⟩) l.length cap ∧ b < w.heap.size ∧ l.length ≤ cap ∧ l.length ≤ 9223372036854775807 ∧ ∀ j, j < l.length → w.cell? ⟨b, off + j, none⟩ = some (.int .i64 (l.getD j 0)) := by
  obtain ⟨_, hm, h⟩ := h
  rcases h with ⟨h0, h1⟩ | ⟨b, off, cap, rfl, hlt, hcap, hc⟩
  · exact .inl ⟨h0, List.eq_nil_of_length_eq_zero h1⟩
  · refine .inr ⟨b, off, cap, rfl, hlt, hcap, hm, fun j hj => ?_⟩
    rw [hc j (by omega)]
    simp [hj]
theorem Ints.mk {w : World} {b off cap : Nat} {l : List Int} (hb : b < w.heap.size) (hcap : l.length ≤ cap) (hm : l.length ≤ 9223372036854775807) (hc : ∀ j, j < l.length → w.cell? ⟨b, off + j, none⟩ = some (.int .i64 (l.getD j 0))) : Ints w (.slice (some ⟨b, off, none⟩) l.length cap) l := by
  refine ⟨by simp, hm, .inr ⟨b, off, cap, rfl, hb, hcap, fun j hj => ?_⟩⟩
  rw [hc j (by omega)]
  have : j < l.length := by omega
  simp [this]
end Go.Proofs.YtkjbpkggcddnhaaDoor
