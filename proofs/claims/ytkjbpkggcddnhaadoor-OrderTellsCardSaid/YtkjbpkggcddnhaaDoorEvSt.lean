/- What holds between the statements of (*watcher).event: one word, and how it is handed on. No walk. -/
import Derived.Test.YtkjbpkggcddnhaaDoorPipe
namespace Go.Proofs.YtkjbpkggcddnhaaDoor
set_option linter.unusedVariables false
set_option linter.unusedSimpArgs false
open Go.RowKit

/-- From block B on: the role r. -/
def fromR (ρ : Nat → Role) (B : Nat) (r : Role) : Nat → Role := fun b => if B ≤ b then r else ρ b
theorem fromR_lt {ρ : Nat → Role} {B : Nat} {r : Role} {b : Nat} (h : b < B) : fromR ρ B r b = ρ b := by unfold fromR; rw [if_neg (by omega)]
theorem fromR_ge {ρ : Nat → Role} {B : Nat} {r : Role} {b : Nat} (h : B ≤ b) : fromR ρ B r b = r := by unfold fromR; rw [if_pos h]

/-- What may be written of old memory: what the watcher owns. -/
def Own (ρ : Nat → Role) (b : Nat) : Prop := ρ b ≠ .clk ∧ ρ b ≠ .free

/-- In the middle of event: w the world at its beginning, w1 the one at hand; E the block of the event. -/
structure St (w : World) (W : Nat) (ρ : Nat → Role) (E : Nat) (ev : Ev) (rooms : List Int) (s : WS) (N : Nat) (m : WM) (w1 : World) (ρ1 : Nat → Role) : Prop where
  isw : IsW w1 W ρ1 rooms s N m
  e0 : w1.cell? ⟨E, 0, none⟩ = some (.int .i64 ev.g)
  e1 : w1.cell? ⟨E, 1, none⟩ = some (.int .i64 ev.kind)
  e2 : w1.cell? ⟨E, 2, none⟩ = some (.int .i64 ev.obj)
  er : ρ1 E = .free
  ext : ∀ b, b < w.heap.size → ρ1 b = ρ b
  fresh : ∀ b, w1.heap.size ≤ b → ρ1 b = .free
  chg : Chg (Own ρ) w w1

section
variable {w : World} {W : Nat} {ρ : Nat → Role} {E : Nat} {ev : Ev} {rooms : List Int} {s s' : WS} {N N' : Nat} {m m' : WM} {w1 w2 : World} {ρ1 ρ2 : Nat → Role}
theorem St.elt (h : St w W ρ E ev rooms s N m w1 ρ1) : E < w1.heap.size := World.block_lt_of_cell? w1 _ h.e0
theorem St.new (h : St w W ρ E ev rooms s N m w1 ρ1) (hb : Below w1.heap.size w1 w2) : St w W ρ E ev rooms s N m w2 ρ1 := by
  have he := h.elt
  refine ⟨h.isw.new hb, ?_, ?_, ?_, h.er, h.ext, fun b hb' => h.fresh b (Nat.le_trans hb.size hb'), h.chg.trans (Chg.of_new hb)⟩
  · rw [hb.cell (p := ⟨E, 0, none⟩) he]; exact h.e0
  · rw [hb.cell (p := ⟨E, 1, none⟩) he]; exact h.e1
  · rw [hb.cell (p := ⟨E, 2, none⟩) he]; exact h.e2
theorem St.grown (h : St w W ρ E ev rooms s N m w1 ρ1) (hg : w1.grownBy w2 none) : St w W ρ E ev rooms s N m w2 ρ1 :=
  h.new ((Below.refl _ _).grown hg (Nat.le_refl _) (fun k hk => by cases hk))
/-- A change of what the watcher owns. -/
theorem St.turn {S : Nat → Prop} (h : St w W ρ E ev rooms s N m w1 ρ1) (hc : Chg S w1 w2) (hS : ∀ b, S b → Own ρ1 b) (hi : IsW w2 W ρ2 rooms s' N' m') (hr : ∀ b, b < w1.heap.size → ρ2 b = ρ1 b) (hf : ∀ b, w2.heap.size ≤ b → ρ2 b = .free) : St w W ρ E ev rooms s' N' m' w2 ρ2 := by
  have he := h.elt
  have hE : ¬ S E := fun hs => (hS E hs).2 h.er
  have hext : ∀ b, b < w.heap.size → ρ2 b = ρ b := fun b hb => by rw [hr b (Nat.lt_of_lt_of_le hb h.chg.size), h.ext b hb]
  exact ⟨hi, hc.cell h.e0 hE, hc.cell h.e1 hE, hc.cell h.e2 hE, by rw [hr E he]; exact h.er, hext, hf, h.chg.then hc (fun i hi hs => by have := hS i hs; unfold Own at this ⊢; rwa [h.ext i hi] at this)⟩
theorem St.old (h : St w W ρ E ev rooms s N m w1 ρ1) (hc : w1.heap.size ≤ w2.heap.size) : ∀ b, w2.heap.size ≤ b → ρ1 b = .free := fun b hb => h.fresh b (Nat.le_trans hc hb)
/-- v's block is a clock's. -/
def clkR (ρ : Nat → Role) (v : Value) : Nat → Role := fun b => match v.ownBlock with | some k => if b = k then .clk else ρ b | none => ρ b
theorem clkR_other {ρ : Nat → Role} {v : Value} {b : Nat} (h : v.ownBlock ≠ some b) : clkR ρ v b = ρ b := by
  unfold clkR
  split
  · rename_i k hk
    rw [if_neg (fun e => h (by rw [hk, e]))]
  · rfl
theorem clkR_own {ρ : Nat → Role} {v : Value} {b : Nat} (h : v.ownBlock = some b) : clkR ρ v b = .clk := by
  unfold clkR; rw [h]; simp
/-- A new clock. -/
theorem St.clk (h : St w W ρ E ev rooms s N m w1 ρ1) (hb : Below w1.heap.size w1 w2) {v : Value} {l : List Int} (hv : Ints w2 v l) (hn : ∀ b, v.ownBlock = some b → w1.heap.size ≤ b) (hl : l.length ≤ 8) :
    St w W ρ E ev rooms s N m w2 (clkR ρ1 v) ∧ Clk w2 (clkR ρ1 v) v l ∧ ∀ b, b < w1.heap.size → clkR ρ1 v b = ρ1 b := by
  have hr : ∀ b, b < w1.heap.size → clkR ρ1 v b = ρ1 b := fun b hb' => clkR_other (fun e => by have := hn b e; omega)
  refine ⟨h.turn (S := fun _ => False) (Chg.of_new hb) (fun _ h => h.elim) ((h.isw.roles hr).new hb) hr (fun b hb' => ?_), ⟨hv, hl, fun b hb => clkR_own hb⟩, hr⟩
  rw [clkR_other (fun e => by have := SlAt.lt hv b e; omega)]
  exact h.fresh b (Nat.le_trans hb.size hb')
theorem St.drew (h : St w W ρ E ev rooms s N m w1 ρ1) : St w W ρ E ev rooms s N m w1.drew ρ1 := h.new ((Below.refl _ _).drew)
theorem St.drewN (h : St w W ρ E ev rooms s N m w1 ρ1) (n : Nat) : St w W ρ E ev rooms s N m (w1.drewN n) ρ1 := h.new (below_drewN (Below.refl _ _) n)
/-- A store into a block that event itself has laid. -/
theorem St.set_new (h : St w W ρ E ev rooms s N m w1 ρ1) {B o : Nat} {v : Value} (hB : w.heap.size ≤ B) (hE : B ≠ E) (hr : ρ1 B = .free) : St w W ρ E ev rooms s N m (w1.setCell ⟨B, o, none⟩ v) ρ1 := by
  have hc : Chg (fun b => b = B) w1 (w1.setCell ⟨B, o, none⟩ v) := Chg.setCell w1 v rfl
  exact ⟨h.isw.kept hc (fun b hb => by rw [hb]; exact hr), hc.cell h.e0 (fun e => hE e.symm), hc.cell h.e1 (fun e => hE e.symm), hc.cell h.e2 (fun e => hE e.symm), h.er, h.ext, h.old hc.size,
    h.chg.then hc (fun i hi hs => by omega)⟩
/-- The event's own block, and one more, are laid. -/
theorem St.begin (h : IsW w W ρ rooms s N m) (T T' n : Nat) (C : Array Value) :
    St w W ρ w.heap.size ev rooms s N m (((w.alloc (.cells #[.int .i64 ev.g, .int .i64 ev.kind, .int .i64 ev.obj, .int .i64 ev.at_] T)).drewN n).alloc (.cells C T')) (fromR ρ w.heap.size .free) := by
  have hb1 : Below w.heap.size w (w.alloc (.cells #[.int .i64 ev.g, .int .i64 ev.kind, .int .i64 ev.obj, .int .i64 ev.at_] T)) := (Below.refl _ _).alloc (Nat.le_refl _) _
  have hb : Below w.heap.size w (((w.alloc (.cells #[.int .i64 ev.g, .int .i64 ev.kind, .int .i64 ev.obj, .int .i64 ev.at_] T)).drewN n).alloc (.cells C T')) := (below_drewN hb1 n).alloc (by simp) _
  have hcell : ∀ o, (((w.alloc (.cells #[.int .i64 ev.g, .int .i64 ev.kind, .int .i64 ev.obj, .int .i64 ev.at_] T)).drewN n).alloc (.cells C T')).cell? ⟨w.heap.size, o, none⟩ = (#[Value.int .i64 ev.g, .int .i64 ev.kind, .int .i64 ev.obj, .int .i64 ev.at_])[o]? := fun o => by
    have h1 := heap_alloc_new w (.cells #[.int .i64 ev.g, .int .i64 ev.kind, .int .i64 ev.obj, .int .i64 ev.at_] T)
    have h2 := Below.heap_alloc ((w.alloc (.cells #[.int .i64 ev.g, .int .i64 ev.kind, .int .i64 ev.obj, .int .i64 ev.at_] T)).drewN n) (.cells C T') w.heap.size (by simp)
    unfold World.cell?
    rw [h2, show ((w.alloc (.cells #[.int .i64 ev.g, .int .i64 ev.kind, .int .i64 ev.obj, .int .i64 ev.at_] T)).drewN n).heap[w.heap.size]? = _ from h1]
    rfl
  refine ⟨(h.roles (fun _ hb => fromR_lt hb)).new hb, by rw [hcell]; rfl, by rw [hcell]; rfl, by rw [hcell]; rfl, fromR_ge (Nat.le_refl _), fun _ hb => fromR_lt hb, fun b hb' => fromR_ge (Nat.le_trans hb.size hb'), Chg.of_new hb⟩
/-- A goroutine's clock is set. -/
theorem St.put_own (h : St w W ρ E ev rooms s N m w1 ρ1) {g : Nat} (hg : g < 8) {v : Value} {l : List Int} (hv : Clk w1 ρ1 v l) :
    St w W ρ E ev rooms (s.setOwn g l) N { m with vo := upd m.vo g v } (w1.setCell ⟨W, 1 + g, none⟩ v) ρ1 :=
  h.turn (S := fun b => b = W) (Chg.setCell w1 v rfl) (fun b hb => by unfold Own; rw [hb, h.isw.rW]; simp) (h.isw.put_own hg hv) (fun _ _ => rfl) (h.old (by simp [World.setCell]))
theorem St.put_mu (h : St w W ρ E ev rooms s N m w1 ρ1) {i : Int} {v : Value} {l : List Int} (hv : Clk w1 ρ1 v l) (hm : RMap w2 Tryd.prog 3 m.M1 (N + 1) (upd m.f1 i (some v))) (hg : w1.grownBy w2 (some m.M1)) :
    St w W ρ E ev rooms { s with mu := upd s.mu i l } (N + 1) { m with f1 := upd m.f1 i (some v) } w2 ρ1 :=
  h.turn (S := fun b => b = m.M1) (Chg.grown hg (fun k hk => by cases hk; rfl)) (fun b hb => by unfold Own; rw [hb, h.isw.r1]; simp) (h.isw.put_mu hv hm hg) (fun _ _ => rfl) (h.old hg.size)
theorem St.put_am (h : St w W ρ E ev rooms s N m w1 ρ1) {i : Int} {v : Value} {l : List Int} (hv : Clk w1 ρ1 v l) (hm : RMap w2 Tryd.prog 3 m.M2 (N + 1) (upd m.f2 i (some v))) (hg : w1.grownBy w2 (some m.M2)) :
    St w W ρ E ev rooms { s with am := upd s.am i l } (N + 1) { m with f2 := upd m.f2 i (some v) } w2 ρ1 :=
  h.turn (S := fun b => b = m.M2) (Chg.grown hg (fun k hk => by cases hk; rfl)) (fun b hb => by unfold Own; rw [hb, h.isw.r2]; simp) (h.isw.put_am hv hm hg) (fun _ _ => rfl) (h.old hg.size)
/-- A channel's pipe is asked for. -/
theorem St.pipe (h : St w W ρ E ev rooms s N m w1 ρ1) {c : Int} {e : Ending} (hp : PipePost w1 W ρ1 rooms s N m c e w2) :
    ∃ p ρ2 m', e = .returned (.pointer (some ⟨p, 0, none⟩)) ∧ m'.f3 c = some (.pointer (some ⟨p, 0, none⟩)) ∧ St w W ρ E ev rooms s (N + 1) m' w2 ρ2 ∧ (∀ b, b < w1.heap.size → ρ2 b = ρ1 b) ∧
      m'.vr = m.vr ∧ m'.vo = m.vo ∧ m'.M1 = m.M1 ∧ m'.M2 = m.M2 ∧ m'.M3 = m.M3 ∧ m'.f1 = m.f1 ∧ m'.f2 = m.f2 ∧ Chg (fun b => b = m.M3) w1 w2 := by
  obtain ⟨p, ρ2, m', he, hf, hi, hr, hfr, h1, h2, h3, h4, h5, h6, h7, hc⟩ := hp
  exact ⟨p, ρ2, m', he, hf, h.turn hc (fun b hb => by unfold Own; rw [hb, h.isw.r3]; simp) hi hr (fun b hb => by rw [hfr b hb]; exact h.fresh b (Nat.le_trans hc.size hb)), hr, h1, h2, h3, h4, h5, h6, h7, hc⟩
/-- A pipe has turned. -/
theorem St.set_pipe {S : Nat → Prop} (h : St w W ρ E ev rooms s N m w1 ρ1) (hc : Chg S w1 w2) {c : Int} (hs : ∀ b, S b → ρ1 b = .pip c ∨ ρ1 b = .snt c ∨ ρ1 b = .gt c ∨ ρ1 b = .frm c) (hr : ∀ b, b < w1.heap.size → ρ2 b = ρ1 b)
    (hf : ∀ b, w2.heap.size ≤ b → ρ2 b = .free) {p : Nat} {P : Pipe} {v1 v2 v3 : Value} {l1 l2 : List Value} (hm : m.f3 c = some (.pointer (some ⟨p, 0, none⟩))) (hp : IsPipe w2 ρ2 c p P N v1 v2 v3 l1 l2) :
    St w W ρ E ev rooms { s with pp := upd s.pp c P } N m w2 ρ2 := by
  have hlt : ∀ b, S b → b < w1.heap.size := fun b hb => Nat.lt_of_not_le fun hle => by
    have := h.fresh b hle
    rcases hs b hb with e | e | e | e <;> rw [e] at this <;> cases this
  exact h.turn hc (fun b hb => by unfold Own; rcases hs b hb with e | e | e | e <;> rw [e] <;> simp) ((h.isw.roles hr).set_pipe hc (fun b hb => by rw [hr b (hlt b hb)]; exact hs b hb) hm hp) hr hf
theorem St.state (h : St w W ρ E ev rooms s N m w1 ρ1) (e : s' = s) : St w W ρ E ev rooms s' N m w1 ρ1 := e ▸ h
theorem St.mono {N' : Nat} (h : St w W ρ E ev rooms s N m w1 ρ1) (hN : N ≤ N') : St w W ρ E ev rooms s N' m w1 ρ1 := { h with isw := h.isw.mono hN }
end

/-- What event hands back. -/
def EvPost (w : World) (W : Nat) (ρ : Nat → Role) (rooms : List Int) (s : WS) (N : Nat) (ev : Ev) (e : Ending) (w' : World) : Prop :=
  ∃ v ρ' m', e = .returned v ∧ IsW w' W ρ' rooms (stepL rooms s ev) (N + 3) m' ∧ Clk w' ρ' v (clockL rooms s ev) ∧ (∀ b, b < w.heap.size → ρ' b = ρ b) ∧ Chg (Own ρ) w w'
theorem St.done {w : World} {W : Nat} {ρ : Nat → Role} {E : Nat} {ev : Ev} {rooms : List Int} {s : WS} {N N' : Nat} {m' : WM} {w1 : World} {ρ1 : Nat → Role} (h : St w W ρ E ev rooms (stepL rooms s ev) N' m' w1 ρ1) (hN : N' ≤ N + 3)
    {v : Value} (hv : Clk w1 ρ1 v (clockL rooms s ev)) : EvPost w W ρ rooms s N ev (.returned v) w1 := ⟨v, ρ1, m', rfl, h.isw.mono hN, hv, h.ext, h.chg⟩
end Go.Proofs.YtkjbpkggcddnhaaDoor
