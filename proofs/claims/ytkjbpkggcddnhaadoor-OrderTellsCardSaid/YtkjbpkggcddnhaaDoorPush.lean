/- A pipe is pushed onto: memory alone. -/
import Derived.Test.YtkjbpkggcddnhaaDoorEvSt
import Derived.Maps.AppendAt
namespace Go.Proofs.YtkjbpkggcddnhaaDoor
set_option linter.unusedVariables false
set_option linter.unusedSimpArgs false
open Go.RowKit

/-- v's block has the role r. -/
def ownR (ρ : Nat → Role) (v : Value) (r : Role) : Nat → Role := fun b => match v.ownBlock with | some k => if b = k then r else ρ b | none => ρ b
theorem ownR_other {ρ : Nat → Role} {v : Value} {r : Role} {b : Nat} (h : v.ownBlock ≠ some b) : ownR ρ v r b = ρ b := by
  unfold ownR
  split
  · rename_i k hk
    rw [if_neg (fun e => h (by rw [hk, e]))]
  · rfl
theorem ownR_own {ρ : Nat → Role} {v : Value} {r : Role} {b : Nat} (h : v.ownBlock = some b) : ownR ρ v r b = r := by
  unfold ownR; rw [h]; simp

/-- Where an append's result lies. -/
def Lies (w : World) (v v' : Value) : Prop := v'.ownBlock = v.ownBlock ∨ ∃ k, v'.ownBlock = some k ∧ w.heap.size ≤ k

section
variable {w8 w9 w10 : World} {ρ : Nat → Role} {c : Int} {p : Nat} {P : Pipe} {N : Nat} {v1 v2 v3 v1' v2' v3' vc : Value} {l1 l2 : List Value}
theorem lies_mono {w w' : World} {v v' : Value} (h : Lies w' v v') (hs : w.heap.size ≤ w'.heap.size) : Lies w v v' := h.imp id (fun ⟨k, e, hk⟩ => ⟨k, e, Nat.le_trans hs hk⟩)
theorem lies_role {w : World} {v v' : Value} {r : Role} {ρ : Nat → Role} (hl : Lies w v v') (hr : ∀ b, v.ownBlock = some b → ρ b = r) : ∀ b, b < w.heap.size → ownR ρ v' r b = ρ b := by
  intro b hb
  by_cases e : v'.ownBlock = some b
  · rw [ownR_own e]
    rcases hl with h | ⟨k, hk, hlt⟩
    · exact (hr b (h ▸ e)).symm
    · rw [hk] at e; cases e; omega
  · exact ownR_other e

theorem IsPipe.push_sent (h : IsPipe w8 ρ c p P N v1 v2 v3 l1 l2) (hf : ∀ b, w8.heap.size ≤ b → ρ b = .free) (hc9 : Chg (fun b => v1.ownBlock = some b) w8 w9) (hown1 : w9.ownsRow 0 23 1 v1' (P.sent.length + 1) (l1 ++ [vc])) (hl1 : Lies w8 v1 v1')
    (hc10 : Chg (fun b => v3.ownBlock = some b) w9 w10) {g : Int} (hown3 : w10.ownsRow 0 3 1 v3' (P.frm.length + 1) (P.frm.map (Value.int .i64) ++ [.int .i64 g])) (hl3 : Lies w9 v3 v3') {cl : List Int} (hvc : Clk w8 ρ vc cl) (hg0 : 0 ≤ g) (hg8 : g < 8) :
    IsPipe ((w10.setCell ⟨p, 0, none⟩ v1').setCell ⟨p, 2, none⟩ v3') (ownR (ownR ρ v1' (.snt c)) v3' (.frm c)) c p ⟨P.sent ++ [cl], P.got, P.frm ++ [g]⟩ (N + 1) v1' v2 v3' (l1 ++ [vc]) l2 ∧
    Chg (fun b => ρ b = .pip c ∨ ρ b = .snt c ∨ ρ b = .gt c ∨ ρ b = .frm c) w8 ((w10.setCell ⟨p, 0, none⟩ v1').setCell ⟨p, 2, none⟩ v3') ∧
    (∀ b, b < w8.heap.size → ownR (ownR ρ v1' (.snt c)) v3' (.frm c) b = ρ b) ∧ (∀ b, ((w10.setCell ⟨p, 0, none⟩ v1').setCell ⟨p, 2, none⟩ v3').heap.size ≤ b → ownR (ownR ρ v1' (.snt c)) v3' (.frm c) b = .free) ∧ ∀ v l, Clk w8 ρ v l → Clk ((w10.setCell ⟨p, 0, none⟩ v1').setCell ⟨p, 2, none⟩ v3') (ownR (ownR ρ v1' (.snt c)) v3' (.frm c)) v l := by
  generalize hρ' : ownR (ownR ρ v1' (.snt c)) v3' (.frm c) = ρ'
  have hr1 := lies_role (ρ := ρ) (r := .snt c) hl1 h.r1
  have hv1lt : ∀ b, v1'.ownBlock = some b → b < w9.heap.size := fun b hb => (hown1.lt b hb).2
  have hv3r : ∀ b, v3.ownBlock = some b → ownR ρ v1' (.snt c) b = .frm c := fun b hb => by rw [hr1 b (h.o3.lt b hb).2]; exact h.r3 b hb
  have hr3 := lies_role (ρ := ownR ρ v1' (.snt c)) (r := .frm c) hl3 hv3r
  have hext : ∀ b, b < w8.heap.size → ρ' b = ρ b := fun b hb => by rw [← hρ', hr3 b (Nat.lt_of_lt_of_le hb hc9.size), hr1 b hb]
  have hs1 : ∀ b, v1'.ownBlock = some b → ρ' b = .snt c := fun b hb => by rw [← hρ', hr3 b (hv1lt b hb)]; exact ownR_own hb
  have hs3 : ∀ b, v3'.ownBlock = some b → ρ' b = .frm c := fun b hb => by rw [← hρ']; exact ownR_own hb
  have hc : Chg (fun b => ρ b = .snt c ∨ ρ b = .frm c) w8 w10 := (hc9.mono (fun k hk _ => .inl (h.r1 k hk))).then hc10 (fun i hi hk => .inr (h.r3 i hk))
  have hne : ∀ o, w10.cell? ⟨p, o, none⟩ = w8.cell? ⟨p, o, none⟩ := fun o => World.cell?_of_block (w := w8) (hc.block p h.lt (by rw [h.role]; simp))
  have hcf : Chg (fun b => b = p) w10 ((w10.setCell ⟨p, 0, none⟩ v1').setCell ⟨p, 2, none⟩ v3') := (Chg.setCell (S := fun b => b = p) (p := ⟨p, 0, none⟩) w10 v1' rfl).trans (Chg.setCell (S := fun b => b = p) (p := ⟨p, 2, none⟩) _ v3' rfl)
  have hcw : Chg (fun b => ρ b = .pip c ∨ ρ b = .snt c ∨ ρ b = .gt c ∨ ρ b = .frm c) w8 ((w10.setCell ⟨p, 0, none⟩ v1').setCell ⟨p, 2, none⟩ v3') :=
    (hc.mono (fun k hk _ => hk.elim (fun e => .inr (.inl e)) (fun e => .inr (.inr (.inr e))))).then hcf (fun i hi hk => .inl (by rw [hk]; exact h.role))
  have hp10 : p < w10.heap.size := Nat.lt_of_lt_of_le h.lt hc.size
  have hpr : ρ' p = .pip c := by rw [hext p h.lt]; exact h.role
  have hcv : Chg (fun b => ρ b = .pip c ∨ ρ b = .snt c ∨ ρ b = .frm c) w8 ((w10.setCell ⟨p, 0, none⟩ v1').setCell ⟨p, 2, none⟩ v3') :=
    (hc.mono (fun k hk _ => hk.elim (fun e => .inr (.inl e)) (fun e => .inr (.inr e)))).then hcf (fun i hi hk => .inl (by rw [hk]; exact h.role))
  have hclk : ∀ b, (ρ b = .pip c ∨ ρ b = .snt c ∨ ρ b = .gt c ∨ ρ b = .frm c) → ρ' b ≠ .clk := fun b hb e => by
    have hlt : b < w8.heap.size := Nat.lt_of_not_le fun hle => by rw [hf b hle] at hb; simp at hb
    rw [hext b hlt] at e
    rw [e] at hb; simp at hb
  refine ⟨?_, hcw, hext, fun b hb => ?_, fun v l hv => (hv.role hext).kept hcw hclk⟩
  · refine ⟨hpr, by simp [World.setCell]; exact hp10, ?_, ?_, ?_, ?_, ?_, ?_, ?_, hs1, ?_, hs3, ?_, ?_, by simp [h.same], by have := h.n1; simp; omega, by have := h.n2; simp; omega, ?_⟩
    · rw [World.cell?_setCell_other _ ⟨p, 2, none⟩ ⟨p, 0, none⟩ _ (by simp)]
      exact World.cell?_setCell_same w10 ⟨p, 0, none⟩ _ (by rw [hne 0]; exact h.c0)
    · rw [World.cell?_setCell_other _ ⟨p, 2, none⟩ ⟨p, 1, none⟩ _ (by simp), World.cell?_setCell_other _ ⟨p, 0, none⟩ ⟨p, 1, none⟩ _ (by simp), hne 1]
      exact h.c1
    · refine World.cell?_setCell_same (u := v3) _ ⟨p, 2, none⟩ _ ?_
      rw [World.cell?_setCell_other _ ⟨p, 0, none⟩ ⟨p, 2, none⟩ _ (by simp), hne 2]
      exact h.c2
    · intro o
      rw [World.frozen?_setCell, World.frozen?_setCell, hc.frozen (a := ⟨p, o, none⟩) h.lt (by rw [h.role]; simp)]
      exact h.fz o
    · have := ownsRow_chg hown1 ((hc10.mono (T := fun b => v3.ownBlock = some b ∨ b = p) (fun k hk _ => .inl hk)).then hcf (fun i hi hk => .inr hk)) (fun b hb hS => by
        have h1 := hs1 b hb
        rcases hS with h2 | h2
        · rw [hext b (h.o3.lt b h2).2, h.r3 b h2] at h1; cases h1
        · rw [h2, hpr] at h1; cases h1)
      simpa using this
    · exact ownsRow_chg h.o2 hcv (fun b hb hS => by have := h.r2 b hb; rw [this] at hS; simp at hS)
    · have := ownsRow_chg hown3 hcf (fun b hb e => by have := hs3 b hb; rw [e, hpr] at this; cases this)
      simpa using this
    · exact fun b hb => by rw [hext b (h.o2.lt b hb).2]; exact h.r2 b hb
    · exact ((h.k1.snoc hvc).role hext).kept hcw hclk
    · exact (h.k2.role hext).kept hcw hclk
    · intro x hx
      rcases List.mem_append.1 hx with hx | hx
      · exact h.rng x hx
      · simp at hx; subst hx; exact ⟨hg0, hg8⟩
  · have hsz : w9.heap.size ≤ w10.heap.size := hc10.size
    simp [World.setCell] at hb
    rw [← hρ', ownR_other (fun e => by have := (hown3.lt b e).2; omega), ownR_other (fun e => by have := hv1lt b e; omega)]
    exact hf b (Nat.le_trans hc.size hb)
theorem IsPipe.push_got (h : IsPipe w8 ρ c p P N v1 v2 v3 l1 l2) (hf : ∀ b, w8.heap.size ≤ b → ρ b = .free) (hc9 : Chg (fun b => v2.ownBlock = some b) w8 w9) (hown2 : w9.ownsRow 0 23 1 v2' (P.got.length + 1) (l2 ++ [vc])) (hl2 : Lies w8 v2 v2')
    {cl : List Int} (hvc : Clk w8 ρ vc cl) :
    IsPipe (w9.setCell ⟨p, 1, none⟩ v2') (ownR ρ v2' (.gt c)) c p ⟨P.sent, P.got ++ [cl], P.frm⟩ (N + 1) v1 v2' v3 l1 (l2 ++ [vc]) ∧
    Chg (fun b => ρ b = .pip c ∨ ρ b = .snt c ∨ ρ b = .gt c ∨ ρ b = .frm c) w8 (w9.setCell ⟨p, 1, none⟩ v2') ∧
    (∀ b, b < w8.heap.size → ownR ρ v2' (.gt c) b = ρ b) ∧ (∀ b, (w9.setCell ⟨p, 1, none⟩ v2').heap.size ≤ b → ownR ρ v2' (.gt c) b = .free) ∧ ∀ v l, Clk w8 ρ v l → Clk (w9.setCell ⟨p, 1, none⟩ v2') (ownR ρ v2' (.gt c)) v l := by
  generalize hρ' : ownR ρ v2' (.gt c) = ρ'
  have hr2 := lies_role (ρ := ρ) (r := .gt c) hl2 h.r2
  have hext : ∀ b, b < w8.heap.size → ρ' b = ρ b := fun b hb => by rw [← hρ', hr2 b hb]
  have hs2 : ∀ b, v2'.ownBlock = some b → ρ' b = .gt c := fun b hb => by rw [← hρ']; exact ownR_own hb
  have hc : Chg (fun b => ρ b = .gt c) w8 w9 := hc9.mono (fun k hk _ => h.r2 k hk)
  have hne : ∀ o, w9.cell? ⟨p, o, none⟩ = w8.cell? ⟨p, o, none⟩ := fun o => World.cell?_of_block (w := w8) (hc.block p h.lt (by rw [h.role]; simp))
  have hcf : Chg (fun b => b = p) w9 (w9.setCell ⟨p, 1, none⟩ v2') := Chg.setCell (S := fun b => b = p) (p := ⟨p, 1, none⟩) w9 v2' rfl
  have hcv : Chg (fun b => ρ b = .pip c ∨ ρ b = .gt c) w8 (w9.setCell ⟨p, 1, none⟩ v2') :=
    (hc.mono (fun k hk _ => .inr hk)).then hcf (fun i hi hk => .inl (by rw [hk]; exact h.role))
  have hcw : Chg (fun b => ρ b = .pip c ∨ ρ b = .snt c ∨ ρ b = .gt c ∨ ρ b = .frm c) w8 (w9.setCell ⟨p, 1, none⟩ v2') :=
    hcv.mono (fun k hk _ => hk.elim (fun e => .inl e) (fun e => .inr (.inr (.inl e))))
  have hp9 : p < w9.heap.size := Nat.lt_of_lt_of_le h.lt hc.size
  have hpr : ρ' p = .pip c := by rw [hext p h.lt]; exact h.role
  have hclk : ∀ b, (ρ b = .pip c ∨ ρ b = .snt c ∨ ρ b = .gt c ∨ ρ b = .frm c) → ρ' b ≠ .clk := fun b hb e => by
    have hlt : b < w8.heap.size := Nat.lt_of_not_le fun hle => by rw [hf b hle] at hb; simp at hb
    rw [hext b hlt] at e
    rw [e] at hb; simp at hb
  refine ⟨?_, hcw, hext, fun b hb => ?_, fun v l hv => (hv.role hext).kept hcw hclk⟩
  · refine ⟨hpr, by simp [World.setCell]; exact hp9, ?_, ?_, ?_, ?_, ?_, ?_, ?_, ?_, hs2, ?_, ?_, ?_, h.same, by have := h.n1; simp; omega, by have := h.n2; simp; omega, h.rng⟩
    · rw [World.cell?_setCell_other _ ⟨p, 1, none⟩ ⟨p, 0, none⟩ _ (by simp), hne 0]
      exact h.c0
    · exact World.cell?_setCell_same (u := v2) _ ⟨p, 1, none⟩ _ (by rw [hne 1]; exact h.c1)
    · rw [World.cell?_setCell_other _ ⟨p, 1, none⟩ ⟨p, 2, none⟩ _ (by simp), hne 2]
      exact h.c2
    · intro o
      rw [World.frozen?_setCell, hc.frozen (a := ⟨p, o, none⟩) h.lt (by rw [h.role]; simp)]
      exact h.fz o
    · exact ownsRow_chg h.o1 hcv (fun b hb hS => by have := h.r1 b hb; rw [this] at hS; simp at hS)
    · have := ownsRow_chg hown2 hcf (fun b hb e => by have := hs2 b hb; rw [e, hpr] at this; cases this)
      simpa using this
    · exact ownsRow_chg h.o3 hcv (fun b hb hS => by have := h.r3 b hb; rw [this] at hS; simp at hS)
    · exact fun b hb => by rw [hext b (h.o1.lt b hb).2]; exact h.r1 b hb
    · exact fun b hb => by rw [hext b (h.o3.lt b hb).2]; exact h.r3 b hb
    · exact (h.k1.role hext).kept hcw hclk
    · exact ((h.k2.snoc hvc).role hext).kept hcw hclk
  · simp [World.setCell] at hb
    rw [← hρ', ownR_other (fun e => by have := (hown2.lt b e).2; omega)]
    exact hf b (Nat.le_trans hc.size hb)

/-- 'append(v, ..)' of one element at the operation, wherever v lies. -/
theorem wp_append_at {P : Program} {w : World} {o : Oper} {a : Act} {K : Act → World → Prop} {Q : Exit → Act → World → Prop} (s x : Operand) (t : TypeId)
    (ho : o.op = .call { callee := .builtin .append, args := #[s, x], argTypes := #[t, t] })
    (e : TypeId) (i : TypeInfo) (z : Value) (bytes : Nat) (ht : P.underlying t = some (.slice e)) (hi : P.info? e = some i) (hz : i.zero = some z)
    (hsize : i.size = 1) (hby : i.bytes = bytes) (hzs : z.cells.size = 1)
    (v : Value) (n : Nat) (xs : List Value) (hs : a.eval s = v) (hown : w.ownsRow 0 e 1 v n xs)
    (X c : Nat) (u : Value) (hx : a.eval x = .slice (some ⟨X, 0, none⟩) 1 c) (hu : w.cell? ⟨X, 0, none⟩ = some u) (h1 : u.oneCell' = true) (hn : n ≤ 100000) (hb : bytes ≤ 1000)
    (h : ∀ v' w', w'.ownsRow 0 e 1 v' (n + 1) (xs ++ [u]) → w.grownBy w' v.ownBlock → Lies w v v' → (∃ g cap, v' = .slice (some ⟨g, 0, none⟩) (n + 1) cap) → K (a.put o.dst v') w') : o.wp P a w K Q := by
  have hbytes : (n + 1) * bytes ≤ 140737488355328 := Nat.le_trans (Nat.mul_le_mul (show n + 1 ≤ 100001 by omega) hb) (by decide)
  obtain ⟨v', w', hr, h2, h3, h4, h5⟩ := run_append_own_at (P := P) w 0 t o.type e i z 1 bytes ht hi hz hsize hby hzs (by decide) v n xs hown ⟨X, 0, none⟩ 1 c [u] rfl (fun j y hj => by
    match j, hj with
    | 0, hj => simp at hj; subst hj; simpa [Addr.add] using hu) (by simpa using h1) (by unfold maxLen; omega) hbytes (Nat.zero_le _)
  unfold Oper.wp execOp
  simp only [ho, resolve, invoke, builtin, Sem.run_bind, Sem.run_pure, Result.andThen_ok, List.map_toArray, List.map_cons, List.map_nil, hs, hx, hr]
  refine h v' w' h2 h3 (h5.imp id (fun e => ⟨_, e, Nat.le_refl _⟩)) ?_
  rcases h2.2 with ⟨e, _⟩ | ⟨g, cap, cur, e, _⟩
  · have := (h4.1 e).2
    cases this
  · exact ⟨g, cap, e⟩
theorem wpList_append_at {P : Program} {w : World} {ops : Array Oper} {rest : List Oper} {o : Oper} {a : Act} {Q : Exit → Act → World → Prop} (hgd : o.guard = none) (s x : Operand) (t : TypeId)
    (ho : o.op = .call { callee := .builtin .append, args := #[s, x], argTypes := #[t, t] })
    (e : TypeId) (i : TypeInfo) (z : Value) (bytes : Nat) (ht : P.underlying t = some (.slice e)) (hi : P.info? e = some i) (hz : i.zero = some z)
    (hsize : i.size = 1) (hby : i.bytes = bytes) (hzs : z.cells.size = 1)
    (v : Value) (n : Nat) (xs : List Value) (hs : a.eval s = v) (hown : w.ownsRow 0 e 1 v n xs)
    (X c : Nat) (u : Value) (hx : a.eval x = .slice (some ⟨X, 0, none⟩) 1 c) (hu : w.cell? ⟨X, 0, none⟩ = some u) (h1 : u.oneCell' = true) (hn : n ≤ 100000) (hb : bytes ≤ 1000)
    (h : ∀ v' w', w'.ownsRow 0 e 1 v' (n + 1) (xs ++ [u]) → w.grownBy w' v.ownBlock → Lies w v v' → (∃ g cap, v' = .slice (some ⟨g, 0, none⟩) (n + 1) cap) → wpList P ops Q rest (a.put o.dst v') w') : wpList P ops Q (o :: rest) a w :=
  wpList_plain hgd fun _ hK => wp_append_at s x t ho e i z bytes ht hi hz hsize hby hzs v n xs hs hown X c u hx hu h1 hn hb fun v' w' r1 r2 r3 r4 => hK _ _ (h v' w' r1 r2 r3 r4)

/-- What the reads of a push rest on. -/
def Sx (p E : Nat) (u1 u3 : Value) (g : Int) (x : World) : Prop := x.cell? ⟨p, 0, none⟩ = some u1 ∧ x.cell? ⟨p, 2, none⟩ = some u3 ∧ x.cell? ⟨E, 0, none⟩ = some (.int .i64 g)
theorem Sx.chg {p E : Nat} {u1 u3 : Value} {g : Int} {x y : World} {S : Nat → Prop} (h : Sx p E u1 u3 g x) (hc : Chg S x y) (hp : ¬ S p) (hE : ¬ S E) : Sx p E u1 u3 g y :=
  ⟨hc.cell h.1 hp, hc.cell h.2.1 hp, hc.cell h.2.2 hE⟩
theorem new_cell (w : World) (v : Value) (T : Nat) : (w.alloc (.cells #[v] T)).cell? ⟨w.heap.size, 0, none⟩ = some v := by
  have h := heap_alloc_new w (.cells #[v] T)
  unfold World.cell?
  rw [h]; rfl
end
end Go.Proofs.YtkjbpkggcddnhaaDoor
