/- How a watcher of package order lies in memory: words and their laws. No walk. -/
import Derived.Test.YtkjbpkggcddnhaaDoorOrdSpec
namespace Go.Proofs.YtkjbpkggcddnhaaDoor
set_option linter.unusedVariables false
set_option linter.unusedSimpArgs false
open Go.RowKit

/-- What a block is for. -/
inductive Role where
  | free | clk | wat | mmap | amap | pmap
  | pip (c : Int) | snt (c : Int) | gt (c : Int) | frm (c : Int)
deriving DecidableEq

/-- v is a clock that stays as it is. -/
def Clk (w : World) (ρ : Nat → Role) (v : Value) (l : List Int) : Prop := Ints w v l ∧ l.length ≤ 8 ∧ ∀ b, v.ownBlock = some b → ρ b = .clk
theorem Clk.kept {S : Nat → Prop} {w w' : World} {ρ : Nat → Role} {v : Value} {l : List Int} (h : Clk w ρ v l) (hc : Chg S w w') (hs : ∀ b, S b → ρ b ≠ .clk) : Clk w' ρ v l :=
  ⟨h.1.kept hc (fun b hb hS => hs b hS (h.2.2 b hb)), h.2.1, h.2.2⟩
theorem Clk.role {w : World} {ρ ρ' : Nat → Role} {v : Value} {l : List Int} (h : Clk w ρ v l) (hr : ∀ b, b < w.heap.size → ρ' b = ρ b) : Clk w ρ' v l :=
  ⟨h.1, h.2.1, fun b hb => by rw [hr b (SlAt.lt h.1 b hb)]; exact h.2.2 b hb⟩
theorem Clk.drew {w : World} {ρ : Nat → Role} {v : Value} {l : List Int} (h : Clk w ρ v l) : Clk w.drew ρ v l := h.kept (S := fun _ => False) (Chg.drew _ w) (fun _ h => h.elim)
theorem Clk.nil (w : World) (ρ : Nat → Role) : Clk w ρ (.slice none 0 0) [] := ⟨Ints.nil w, by simp, fun b hb => by simp [Value.ownBlock] at hb⟩

/-- The slice values l read as the clocks L. -/
def ClkL (w : World) (ρ : Nat → Role) (l : List Value) (L : List (List Int)) : Prop := l.length = L.length ∧ ∀ j, j < L.length → Clk w ρ (l.getD j undef) (L.getD j [])
theorem ClkL.kept {S : Nat → Prop} {w w' : World} {ρ : Nat → Role} {l : List Value} {L : List (List Int)} (h : ClkL w ρ l L) (hc : Chg S w w') (hs : ∀ b, S b → ρ b ≠ .clk) : ClkL w' ρ l L :=
  ⟨h.1, fun j hj => (h.2 j hj).kept hc hs⟩
theorem ClkL.role {w : World} {ρ ρ' : Nat → Role} {l : List Value} {L : List (List Int)} (h : ClkL w ρ l L) (hr : ∀ b, b < w.heap.size → ρ' b = ρ b) : ClkL w ρ' l L :=
  ⟨h.1, fun j hj => (h.2 j hj).role hr⟩
theorem ClkL.nil (w : World) (ρ : Nat → Role) : ClkL w ρ [] [] := ⟨rfl, fun j hj => by simp at hj⟩
theorem ClkL.snoc {w : World} {ρ : Nat → Role} {l : List Value} {L : List (List Int)} (h : ClkL w ρ l L) {v : Value} {c : List Int} (hv : Clk w ρ v c) : ClkL w ρ (l ++ [v]) (L ++ [c]) := by
  refine ⟨by simp [h.1], fun j hj => ?_⟩
  by_cases hl : j < L.length
  · have e1 : (l ++ [v]).getD j undef = l.getD j undef := by
      rw [List.getD_eq_getElem?_getD, List.getD_eq_getElem?_getD, List.getElem?_append_left (by rw [h.1]; exact hl)]
    have e2 : (L ++ [c]).getD j [] = L.getD j [] := by
      rw [List.getD_eq_getElem?_getD, List.getD_eq_getElem?_getD, List.getElem?_append_left hl]
    rw [e1, e2]; exact h.2 j hl
  · have hjl : j = L.length := by simp at hj; omega
    subst hjl
    have e1 : (l ++ [v]).getD L.length undef = v := by rw [← h.1]; simp
    have e2 : (L ++ [c]).getD L.length [] = c := by simp
    rw [e1, e2]; exact hv

theorem ownsRow_chg {S : Nat → Prop} {w w' : World} {base e size : Nat} {v : Value} {n : Nat} {xs : List Value} (h : w.ownsRow base e size v n xs) (hc : Chg S w w') (hs : ∀ b, v.ownBlock = some b → ¬ S b) : w'.ownsRow base e size v n xs := by
  refine ⟨h.1, ?_⟩
  rcases h.2 with h0 | ⟨g, cap, cur, rfl, hb, hg, rest⟩
  · exact .inl h0
  · exact .inr ⟨g, cap, cur, rfl, hb, (hc.block g (Array.getElem?_eq_some_iff.1 hg).1 (hs g rfl)).trans hg, rest⟩

/-- Block p holds channel c's pipe. -/
structure IsPipe (w : World) (ρ : Nat → Role) (c : Int) (p : Nat) (P : Pipe) (N : Nat) (v1 v2 v3 : Value) (l1 l2 : List Value) : Prop where
  role : ρ p = .pip c
  lt : p < w.heap.size
  c0 : w.cell? ⟨p, 0, none⟩ = some v1
  c1 : w.cell? ⟨p, 1, none⟩ = some v2
  c2 : w.cell? ⟨p, 2, none⟩ = some v3
  fz : ∀ o, w.frozen? ⟨p, o, none⟩ = false
  o1 : w.ownsRow 0 23 1 v1 P.sent.length l1
  o2 : w.ownsRow 0 23 1 v2 P.got.length l2
  o3 : w.ownsRow 0 3 1 v3 P.frm.length (P.frm.map (Value.int .i64))
  r1 : ∀ b, v1.ownBlock = some b → ρ b = .snt c
  r2 : ∀ b, v2.ownBlock = some b → ρ b = .gt c
  r3 : ∀ b, v3.ownBlock = some b → ρ b = .frm c
  k1 : ClkL w ρ l1 P.sent
  k2 : ClkL w ρ l2 P.got
  same : P.frm.length = P.sent.length
  n1 : P.sent.length ≤ N
  n2 : P.got.length ≤ N
  rng : ∀ x ∈ P.frm, 0 ≤ x ∧ x < 8

theorem IsPipe.kept {S : Nat → Prop} {w w' : World} {ρ : Nat → Role} {c : Int} {p : Nat} {P : Pipe} {N : Nat} {v1 v2 v3 : Value} {l1 l2 : List Value} (h : IsPipe w ρ c p P N v1 v2 v3 l1 l2) (hc : Chg S w w')
    (hs : ∀ b, S b → ρ b ≠ .clk ∧ ρ b ≠ .pip c ∧ ρ b ≠ .snt c ∧ ρ b ≠ .gt c ∧ ρ b ≠ .frm c) : IsPipe w' ρ c p P N v1 v2 v3 l1 l2 where
  role := h.role
  lt := Nat.lt_of_lt_of_le h.lt hc.size
  c0 := hc.cell h.c0 (fun hS => (hs _ hS).2.1 h.role)
  c1 := hc.cell h.c1 (fun hS => (hs _ hS).2.1 h.role)
  c2 := hc.cell h.c2 (fun hS => (hs _ hS).2.1 h.role)
  fz o := by rw [hc.frozen (a := ⟨p, o, none⟩) h.lt (fun hS => (hs _ hS).2.1 h.role)]; exact h.fz o
  o1 := ownsRow_chg h.o1 hc (fun b hb hS => (hs _ hS).2.2.1 (h.r1 b hb))
  o2 := ownsRow_chg h.o2 hc (fun b hb hS => (hs _ hS).2.2.2.1 (h.r2 b hb))
  o3 := ownsRow_chg h.o3 hc (fun b hb hS => (hs _ hS).2.2.2.2 (h.r3 b hb))
  r1 := h.r1
  r2 := h.r2
  r3 := h.r3
  k1 := h.k1.kept hc (fun b hS => (hs b hS).1)
  k2 := h.k2.kept hc (fun b hS => (hs b hS).1)
  same := h.same
  n1 := h.n1
  n2 := h.n2
  rng := h.rng
theorem IsPipe.roles {w : World} {ρ ρ' : Nat → Role} {c : Int} {p : Nat} {P : Pipe} {N : Nat} {v1 v2 v3 : Value} {l1 l2 : List Value} (h : IsPipe w ρ c p P N v1 v2 v3 l1 l2) (hr : ∀ b, b < w.heap.size → ρ' b = ρ b) : IsPipe w ρ' c p P N v1 v2 v3 l1 l2 where
  role := by rw [hr p h.lt]; exact h.role
  lt := h.lt
  c0 := h.c0
  c1 := h.c1
  c2 := h.c2
  fz := h.fz
  o1 := h.o1
  o2 := h.o2
  o3 := h.o3
  r1 b hb := by rw [hr b (h.o1.lt b hb).2]; exact h.r1 b hb
  r2 b hb := by rw [hr b (h.o2.lt b hb).2]; exact h.r2 b hb
  r3 b hb := by rw [hr b (h.o3.lt b hb).2]; exact h.r3 b hb
  k1 := h.k1.role hr
  k2 := h.k2.role hr
  same := h.same
  n1 := h.n1
  n2 := h.n2
  rng := h.rng
theorem IsPipe.mono {w : World} {ρ : Nat → Role} {c : Int} {p : Nat} {P : Pipe} {N N' : Nat} {v1 v2 v3 : Value} {l1 l2 : List Value} (h : IsPipe w ρ c p P N v1 v2 v3 l1 l2) (hN : N ≤ N') : IsPipe w ρ c p P N' v1 v2 v3 l1 l2 :=
  { h with n1 := Nat.le_trans h.n1 hN, n2 := Nat.le_trans h.n2 hN }

/-- The values that a watcher's cells hold. -/
structure WM where
  vr : Value
  vo : Int → Value
  M1 : Nat
  M2 : Nat
  M3 : Nat
  f1 : Int → Option Value
  f2 : Int → Option Value
  f3 : Int → Option Value

/-- A map of clocks. -/
def MapC (w : World) (ρ : Nat → Role) (M N : Nat) (f : Int → Option Value) (F : Int → List Int) : Prop :=
  RMap w Tryd.prog 3 M N f ∧ ∀ i, (f i = none → F i = []) ∧ ∀ v, f i = some v → Clk w ρ v (F i)
theorem MapC.kept {S : Nat → Prop} {w w' : World} {ρ : Nat → Role} {M N : Nat} {f : Int → Option Value} {F : Int → List Int} (h : MapC w ρ M N f F) (hc : Chg S w w') (hM : ¬ S M) (hs : ∀ b, S b → ρ b ≠ .clk) : MapC w' ρ M N f F :=
  ⟨h.1.kept hc hM, fun i => ⟨(h.2 i).1, fun v hv => ((h.2 i).2 v hv).kept hc hs⟩⟩
theorem MapC.roles {w : World} {ρ ρ' : Nat → Role} {M N : Nat} {f : Int → Option Value} {F : Int → List Int} (h : MapC w ρ M N f F) (hr : ∀ b, b < w.heap.size → ρ' b = ρ b) : MapC w ρ' M N f F :=
  ⟨h.1, fun i => ⟨(h.2 i).1, fun v hv => ((h.2 i).2 v hv).role hr⟩⟩
theorem MapC.mono {w : World} {ρ : Nat → Role} {M N N' : Nat} {f : Int → Option Value} {F : Int → List Int} (h : MapC w ρ M N f F) (hN : N ≤ N') : MapC w ρ M N' f F := ⟨h.1.mono hN, h.2⟩
theorem MapC.at {w : World} {ρ : Nat → Role} {M N : Nat} {f : Int → Option Value} {F : Int → List Int} (h : MapC w ρ M N f F) (i : Int) : Clk w ρ ((f i).getD (.slice none 0 0)) (F i) := by
  cases hf : f i with
  | none => rw [(h.2 i).1 hf]; exact Clk.nil w ρ
  | some v => exact (h.2 i).2 v hf
theorem MapC.put {w w' : World} {ρ : Nat → Role} {M N : Nat} {f : Int → Option Value} {F : Int → List Int} (h : MapC w ρ M N f F) {i : Int} {v : Value} {l : List Int} (hv : Clk w ρ v l) (hm : RMap w' Tryd.prog 3 M (N + 1) (upd f i (some v)))
    (hg : w.grownBy w' (some M)) (hM : ρ M ≠ .clk) : MapC w' ρ M (N + 1) (upd f i (some v)) (upd F i l) := by
  have hc : Chg (fun b => b = M) w w' := Chg.grown hg (fun k hk => by cases hk; rfl)
  have hs : ∀ b, b = M → ρ b ≠ .clk := fun b hb => hb ▸ hM
  refine ⟨hm, fun j => ?_⟩
  by_cases hj : j = i
  · subst hj
    rw [upd_same, upd_same]
    refine ⟨fun h => (by cases h), fun u hu => ?_⟩
    cases hu
    exact hv.kept hc hs
  · rw [upd_other _ _ hj, upd_other _ _ hj]
    exact ⟨(h.2 j).1, fun u hu => ((h.2 j).2 u hu).kept hc hs⟩

/-- The map of pipes. -/
def MapP (w : World) (ρ : Nat → Role) (M N : Nat) (f : Int → Option Value) (F : Int → Pipe) : Prop :=
  RMap w Tryd.prog 3 M N f ∧ ∀ i, (f i = none → F i = ⟨[], [], []⟩) ∧ ∀ v, f i = some v → ∃ p v1 v2 v3 l1 l2, v = .pointer (some ⟨p, 0, none⟩) ∧ IsPipe w ρ i p (F i) N v1 v2 v3 l1 l2
theorem MapP.kept {S : Nat → Prop} {w w' : World} {ρ : Nat → Role} {M N : Nat} {f : Int → Option Value} {F : Int → Pipe} (h : MapP w ρ M N f F) (hc : Chg S w w') (hM : ¬ S M)
    (hs : ∀ b, S b → ρ b ≠ .clk ∧ ∀ c, ρ b ≠ .pip c ∧ ρ b ≠ .snt c ∧ ρ b ≠ .gt c ∧ ρ b ≠ .frm c) : MapP w' ρ M N f F :=
  ⟨h.1.kept hc hM, fun i => ⟨(h.2 i).1, fun v hv => let ⟨p, v1, v2, v3, l1, l2, e, hp⟩ := (h.2 i).2 v hv; ⟨p, v1, v2, v3, l1, l2, e, hp.kept hc (fun b hS => ⟨(hs b hS).1, (hs b hS).2 i⟩)⟩⟩⟩
theorem MapP.roles {w : World} {ρ ρ' : Nat → Role} {M N : Nat} {f : Int → Option Value} {F : Int → Pipe} (h : MapP w ρ M N f F) (hr : ∀ b, b < w.heap.size → ρ' b = ρ b) : MapP w ρ' M N f F :=
  ⟨h.1, fun i => ⟨(h.2 i).1, fun v hv => let ⟨p, v1, v2, v3, l1, l2, e, hp⟩ := (h.2 i).2 v hv; ⟨p, v1, v2, v3, l1, l2, e, hp.roles hr⟩⟩⟩
theorem MapP.mono {w : World} {ρ : Nat → Role} {M N N' : Nat} {f : Int → Option Value} {F : Int → Pipe} (h : MapP w ρ M N f F) (hN : N ≤ N') : MapP w ρ M N' f F :=
  ⟨h.1.mono hN, fun i => ⟨(h.2 i).1, fun v hv => let ⟨p, v1, v2, v3, l1, l2, e, hp⟩ := (h.2 i).2 v hv; ⟨p, v1, v2, v3, l1, l2, e, hp.mono hN⟩⟩⟩
/-- One pipe has turned, nothing else of what the map leads to. -/
theorem MapP.turn {S : Nat → Prop} {w w' : World} {ρ : Nat → Role} {M N : Nat} {f : Int → Option Value} {F : Int → Pipe} (h : MapP w ρ M N f F) (hc : Chg S w w') (hM : ¬ S M) {c : Int} {p : Nat} {P : Pipe} {v1 v2 v3 : Value} {l1 l2 : List Value}
    (hs : ∀ b, S b → ρ b = .pip c ∨ ρ b = .snt c ∨ ρ b = .gt c ∨ ρ b = .frm c) (hf : f c = some (.pointer (some ⟨p, 0, none⟩))) (hp : IsPipe w' ρ c p P N v1 v2 v3 l1 l2) : MapP w' ρ M N f (upd F c P) := by
  refine ⟨h.1.kept hc hM, fun i => ?_⟩
  by_cases hi : i = c
  · subst hi
    rw [upd_same]
    refine ⟨fun h => (by rw [hf] at h; cases h), fun v hv => ?_⟩
    rw [hf] at hv; cases hv
    exact ⟨p, v1, v2, v3, l1, l2, rfl, hp⟩
  · rw [upd_other _ _ hi]
    refine ⟨(h.2 i).1, fun v hv => ?_⟩
    obtain ⟨q, u1, u2, u3, m1, m2, e, hq⟩ := (h.2 i).2 v hv
    refine ⟨q, u1, u2, u3, m1, m2, e, hq.kept hc (fun b hS => ?_)⟩
    have hci : c ≠ i := fun e => hi e.symm
    rcases hs b hS with e | e | e | e <;> rw [e] <;> simp [hci]

/-- A watcher at block W. N: how many events have come. -/
structure IsW (w : World) (W : Nat) (ρ : Nat → Role) (rooms : List Int) (s : WS) (N : Nat) (m : WM) : Prop where
  lt : W < w.heap.size
  c0 : w.cell? ⟨W, 0, none⟩ = some m.vr
  co : ∀ g : Nat, g < 8 → w.cell? ⟨W, 1 + g, none⟩ = some (m.vo g)
  c9 : w.cell? ⟨W, 9, none⟩ = some (.map (some m.M1))
  c10 : w.cell? ⟨W, 10, none⟩ = some (.map (some m.M2))
  c11 : w.cell? ⟨W, 11, none⟩ = some (.map (some m.M3))
  fz : ∀ o, w.frozen? ⟨W, o, none⟩ = false
  rooms : Ints w m.vr rooms
  rr : ∀ b, m.vr.ownBlock = some b → ρ b = .clk
  own : ∀ g : Int, 0 ≤ g → g < 8 → Clk w ρ (m.vo g) (s.own g)
  mu : MapC w ρ m.M1 N m.f1 s.mu
  am : MapC w ρ m.M2 N m.f2 s.am
  pp : MapP w ρ m.M3 N m.f3 s.pp
  rW : ρ W = .wat
  r1 : ρ m.M1 = .mmap
  r2 : ρ m.M2 = .amap
  r3 : ρ m.M3 = .pmap

section
variable {w w' : World} {W : Nat} {ρ ρ' : Nat → Role} {rooms : List Int} {s : WS} {N : Nat} {m : WM}
theorem IsW.kept {S : Nat → Prop} (h : IsW w W ρ rooms s N m) (hc : Chg S w w') (hs : ∀ b, S b → ρ b = .free) : IsW w' W ρ rooms s N m where
  lt := Nat.lt_of_lt_of_le h.lt hc.size
  c0 := hc.cell h.c0 (fun hS => by have := hs _ hS; rw [h.rW] at this; cases this)
  co g hg := hc.cell (h.co g hg) (fun hS => by have := hs _ hS; rw [h.rW] at this; cases this)
  c9 := hc.cell h.c9 (fun hS => by have := hs _ hS; rw [h.rW] at this; cases this)
  c10 := hc.cell h.c10 (fun hS => by have := hs _ hS; rw [h.rW] at this; cases this)
  c11 := hc.cell h.c11 (fun hS => by have := hs _ hS; rw [h.rW] at this; cases this)
  fz o := by rw [hc.frozen (a := ⟨W, o, none⟩) h.lt (fun hS => by have := hs _ hS; rw [h.rW] at this; cases this)]; exact h.fz o
  rooms := h.rooms.kept hc (fun b hb hS => by have := hs _ hS; rw [h.rr b hb] at this; cases this)
  rr := h.rr
  own g h0 h8 := (h.own g h0 h8).kept hc (fun b hS e => by have := hs _ hS; rw [e] at this; cases this)
  mu := h.mu.kept hc (fun hS => by have := hs _ hS; rw [h.r1] at this; cases this) (fun b hS e => by have := hs _ hS; rw [e] at this; cases this)
  am := h.am.kept hc (fun hS => by have := hs _ hS; rw [h.r2] at this; cases this) (fun b hS e => by have := hs _ hS; rw [e] at this; cases this)
  pp := h.pp.kept hc (fun hS => by have := hs _ hS; rw [h.r3] at this; cases this) (fun b hS => by have := hs _ hS; rw [this]; simp)
  rW := h.rW
  r1 := h.r1
  r2 := h.r2
  r3 := h.r3
theorem IsW.new (h : IsW w W ρ rooms s N m) (hb : Below w.heap.size w w') : IsW w' W ρ rooms s N m := h.kept (S := fun _ => False) (Chg.of_new hb) (fun _ h => h.elim)
theorem IsW.roles (h : IsW w W ρ rooms s N m) (hr : ∀ b, b < w.heap.size → ρ' b = ρ b) : IsW w W ρ' rooms s N m where
  lt := h.lt
  c0 := h.c0
  co := h.co
  c9 := h.c9
  c10 := h.c10
  c11 := h.c11
  fz := h.fz
  rooms := h.rooms
  rr b hb := by rw [hr b (SlAt.lt h.rooms b hb)]; exact h.rr b hb
  own g h0 h8 := (h.own g h0 h8).role hr
  mu := h.mu.roles hr
  am := h.am.roles hr
  pp := h.pp.roles hr
  rW := by rw [hr W h.lt]; exact h.rW
  r1 := by rw [hr _ h.mu.1.lt]; exact h.r1
  r2 := by rw [hr _ h.am.1.lt]; exact h.r2
  r3 := by rw [hr _ h.pp.1.lt]; exact h.r3
theorem IsW.mono {N' : Nat} (h : IsW w W ρ rooms s N m) (hN : N ≤ N') : IsW w W ρ rooms s N' m :=
  { h with mu := h.mu.mono hN, am := h.am.mono hN, pp := h.pp.mono hN }
theorem IsW.put_own (h : IsW w W ρ rooms s N m) {g : Nat} (hg : g < 8) {v : Value} {l : List Int} (hv : Clk w ρ v l) : IsW (w.setCell ⟨W, 1 + g, none⟩ v) W ρ rooms (s.setOwn g l) N { m with vo := upd m.vo g v } := by
  have hc : Chg (fun b => b = W) w (w.setCell ⟨W, 1 + g, none⟩ v) := Chg.setCell w v rfl
  have hne : ∀ b, b = W → ρ b ≠ .clk := fun b hb => by rw [hb, h.rW]; simp
  have hcell : ∀ o, o ≠ 1 + g → (w.setCell ⟨W, 1 + g, none⟩ v).cell? ⟨W, o, none⟩ = w.cell? ⟨W, o, none⟩ := fun o ho =>
    World.cell?_setCell_other w ⟨W, 1 + g, none⟩ ⟨W, o, none⟩ v (fun e => ho (by cases e; rfl))
  refine ⟨?_, ?_, ?_, ?_, ?_, ?_, ?_, ?_, h.rr, ?_, ?_, ?_, ?_, h.rW, h.r1, h.r2, h.r3⟩
  · exact Nat.lt_of_lt_of_le h.lt hc.size
  · rw [hcell 0 (by omega)]; exact h.c0
  · intro g' hg'
    by_cases e : g' = g
    · subst e
      have h1 := h.co g' hg'
      rw [World.cell?_setCell_same w ⟨W, 1 + g', none⟩ v h1]
      show some v = some (upd m.vo g' v g')
      rw [upd_same]
    · rw [hcell _ (by omega), h.co g' hg']
      show _ = some (upd m.vo g v g')
      rw [upd_other _ _ (by omega)]
  · rw [hcell _ (by omega)]; exact h.c9
  · rw [hcell _ (by omega)]; exact h.c10
  · rw [hcell _ (by omega)]; exact h.c11
  · intro o
    rw [World.frozen?_setCell]; exact h.fz o
  · exact h.rooms.kept hc (fun b hb e => hne b e (h.rr b hb))
  · intro g' h0 h8
    show Clk _ ρ (upd m.vo g v g') (upd s.own g l g')
    by_cases e : g' = g
    · subst e; rw [upd_same, upd_same]; exact hv.kept hc hne
    · rw [upd_other _ _ e, upd_other _ _ e]; exact (h.own g' h0 h8).kept hc hne
  · exact h.mu.kept hc (fun e => by have := h.r1; rw [e, h.rW] at this; cases this) hne
  · exact h.am.kept hc (fun e => by have := h.r2; rw [e, h.rW] at this; cases this) hne
  · exact h.pp.kept hc (fun e => by have := h.r3; rw [e, h.rW] at this; cases this) (fun b e => by rw [e, h.rW]; simp)
theorem IsW.put_mu (h : IsW w W ρ rooms s N m) {i : Int} {v : Value} {l : List Int} (hv : Clk w ρ v l) (hm : RMap w' Tryd.prog 3 m.M1 (N + 1) (upd m.f1 i (some v))) (hg : w.grownBy w' (some m.M1)) :
    IsW w' W ρ rooms { s with mu := upd s.mu i l } (N + 1) { m with f1 := upd m.f1 i (some v) } := by
  have hc : Chg (fun b => b = m.M1) w w' := Chg.grown hg (fun k hk => by cases hk; rfl)
  have hne : ∀ b, b = m.M1 → ρ b = .mmap := fun b hb => by rw [hb, h.r1]
  have hW : ¬ W = m.M1 := fun e => by have := h.rW; rw [e, h.r1] at this; cases this
  refine ⟨Nat.lt_of_lt_of_le h.lt hc.size, hc.cell h.c0 hW, fun g hg => hc.cell (h.co g hg) hW, hc.cell h.c9 hW, hc.cell h.c10 hW, hc.cell h.c11 hW, ?_, ?_, h.rr, ?_, ?_, ?_, ?_, h.rW, h.r1, h.r2, h.r3⟩
  · intro o; rw [hc.frozen (a := ⟨W, o, none⟩) h.lt hW]; exact h.fz o
  · exact h.rooms.kept hc (fun b hb e => by have := h.rr b hb; rw [hne b e] at this; cases this)
  · intro g h0 h8; exact (h.own g h0 h8).kept hc (fun b e => by rw [hne b e]; simp)
  · exact h.mu.put hv hm hg (by rw [h.r1]; simp)
  · exact (h.am.kept hc (fun e => by have := h.r2; rw [hne _ e] at this; cases this) (fun b e => by rw [hne b e]; simp)).mono (Nat.le_succ _)
  · exact (h.pp.kept hc (fun e => by have := h.r3; rw [hne _ e] at this; cases this) (fun b e => by rw [hne b e]; simp)).mono (Nat.le_succ _)
theorem IsW.put_am (h : IsW w W ρ rooms s N m) {i : Int} {v : Value} {l : List Int} (hv : Clk w ρ v l) (hm : RMap w' Tryd.prog 3 m.M2 (N + 1) (upd m.f2 i (some v))) (hg : w.grownBy w' (some m.M2)) :
    IsW w' W ρ rooms { s with am := upd s.am i l } (N + 1) { m with f2 := upd m.f2 i (some v) } := by
  have hc : Chg (fun b => b = m.M2) w w' := Chg.grown hg (fun k hk => by cases hk; rfl)
  have hne : ∀ b, b = m.M2 → ρ b = .amap := fun b hb => by rw [hb, h.r2]
  have hW : ¬ W = m.M2 := fun e => by have := h.rW; rw [e, h.r2] at this; cases this
  refine ⟨Nat.lt_of_lt_of_le h.lt hc.size, hc.cell h.c0 hW, fun g hg => hc.cell (h.co g hg) hW, hc.cell h.c9 hW, hc.cell h.c10 hW, hc.cell h.c11 hW, ?_, ?_, h.rr, ?_, ?_, ?_, ?_, h.rW, h.r1, h.r2, h.r3⟩
  · intro o; rw [hc.frozen (a := ⟨W, o, none⟩) h.lt hW]; exact h.fz o
  · exact h.rooms.kept hc (fun b hb e => by have := h.rr b hb; rw [hne b e] at this; cases this)
  · intro g h0 h8; exact (h.own g h0 h8).kept hc (fun b e => by rw [hne b e]; simp)
  · exact (h.mu.kept hc (fun e => by have := h.r1; rw [hne _ e] at this; cases this) (fun b e => by rw [hne b e]; simp)).mono (Nat.le_succ _)
  · exact h.am.put hv hm hg (by rw [h.r2]; simp)
  · exact (h.pp.kept hc (fun e => by have := h.r3; rw [hne _ e] at this; cases this) (fun b e => by rw [hne b e]; simp)).mono (Nat.le_succ _)
theorem IsW.set_pipe {S : Nat → Prop} (h : IsW w W ρ rooms s N m) (hc : Chg S w w') {c : Int} (hs : ∀ b, S b → ρ b = .pip c ∨ ρ b = .snt c ∨ ρ b = .gt c ∨ ρ b = .frm c) {p : Nat} {P : Pipe} {v1 v2 v3 : Value} {l1 l2 : List Value}
    (hf : m.f3 c = some (.pointer (some ⟨p, 0, none⟩))) (hp : IsPipe w' ρ c p P N v1 v2 v3 l1 l2) : IsW w' W ρ rooms { s with pp := upd s.pp c P } N m := by
  have hclk : ∀ b, S b → ρ b ≠ .clk := fun b hb => by rcases hs b hb with e | e | e | e <;> rw [e] <;> simp
  have hnot : ∀ b, (ρ b = .wat ∨ ρ b = .mmap ∨ ρ b = .amap ∨ ρ b = .pmap) → ¬ S b := fun b hr hb => by
    rcases hs b hb with e | e | e | e <;> rw [e] at hr <;> simp at hr
  have hW := hnot W (.inl h.rW)
  refine ⟨Nat.lt_of_lt_of_le h.lt hc.size, hc.cell h.c0 hW, fun g hg => hc.cell (h.co g hg) hW, hc.cell h.c9 hW, hc.cell h.c10 hW, hc.cell h.c11 hW, ?_, ?_, h.rr, ?_, ?_, ?_, ?_, h.rW, h.r1, h.r2, h.r3⟩
  · intro o; rw [hc.frozen (a := ⟨W, o, none⟩) h.lt hW]; exact h.fz o
  · exact h.rooms.kept hc (fun b hb e => hclk b e (h.rr b hb))
  · intro g h0 h8; exact (h.own g h0 h8).kept hc hclk
  · exact h.mu.kept hc (hnot _ (by rw [h.r1]; simp)) hclk
  · exact h.am.kept hc (hnot _ (by rw [h.r2]; simp)) hclk
  · exact h.pp.turn hc (hnot _ (by rw [h.r3]; simp)) hs hf hp
theorem IsW.new_pipe (h : IsW w W ρ rooms s N m) {c : Int} {T : Nat} (hf : m.f3 c = none)
    (hm : RMap w' Tryd.prog 3 m.M3 (N + 1) (upd m.f3 c (some (.pointer (some ⟨w.heap.size, 0, none⟩)))))
    (hg : (w.alloc (.cells #[.slice none 0 0, .slice none 0 0, .slice none 0 0] T)).grownBy w' (some m.M3)) :
    IsW w' W (fun b => if b = w.heap.size then .pip c else ρ b) rooms s (N + 1) { m with f3 := upd m.f3 c (some (.pointer (some ⟨w.heap.size, 0, none⟩))) } := by
  generalize hρ : (fun b => if b = w.heap.size then Role.pip c else ρ b) = ρ'
  have hr : ∀ b, b < w.heap.size → ρ' b = ρ b := fun b hb => by rw [← hρ]; simp; omega
  have hrn : ρ' w.heap.size = .pip c := by rw [← hρ]; simp
  have h1 := (h.roles hr).new ((Below.refl w.heap.size w).alloc (Nat.le_refl _) (.cells #[.slice none 0 0, .slice none 0 0, .slice none 0 0] T))
  have hpn : IsPipe (w.alloc (.cells #[.slice none 0 0, .slice none 0 0, .slice none 0 0] T)) ρ' c w.heap.size ⟨[], [], []⟩ N (.slice none 0 0) (.slice none 0 0) (.slice none 0 0) [] [] := by
    have hcell : ∀ o, (w.alloc (.cells #[.slice none 0 0, .slice none 0 0, .slice none 0 0] T)).cell? ⟨w.heap.size, o, none⟩ = (#[Value.slice none 0 0, .slice none 0 0, .slice none 0 0])[o]? := fun o => by
      have h := heap_alloc_new w (.cells #[.slice none 0 0, .slice none 0 0, .slice none 0 0] T)
      unfold World.cell?
      rw [h]
      rfl
    refine ⟨hrn, by simp, by rw [hcell]; rfl, by rw [hcell]; rfl, by rw [hcell]; rfl, ?_, World.ownsRow_nil _ _ _ _, World.ownsRow_nil _ _ _ _, World.ownsRow_nil _ _ _ _, ?_, ?_, ?_, ClkL.nil _ _, ClkL.nil _ _, rfl, by simp, by simp, by simp⟩
    · intro o
      have h := heap_alloc_new w (.cells #[.slice none 0 0, .slice none 0 0, .slice none 0 0] T)
      unfold World.frozen?
      rw [h]
      simp
    · intro b hb; simp [Value.ownBlock] at hb
    · intro b hb; simp [Value.ownBlock] at hb
    · intro b hb; simp [Value.ownBlock] at hb
  generalize hw1 : w.alloc (.cells #[.slice none 0 0, .slice none 0 0, .slice none 0 0] T) = w1 at h1 hg hpn
  have hc : Chg (fun b => b = m.M3) w1 w' := Chg.grown hg (fun k hk => by cases hk; rfl)
  have hne : ∀ b, b = m.M3 → ρ' b = .pmap := fun b hb => by rw [hb, h1.r3]
  have hW : ¬ W = m.M3 := fun e => by have := h1.rW; rw [e, h1.r3] at this; cases this
  refine ⟨Nat.lt_of_lt_of_le h1.lt hc.size, hc.cell h1.c0 hW, fun g hg => hc.cell (h1.co g hg) hW, hc.cell h1.c9 hW, hc.cell h1.c10 hW, hc.cell h1.c11 hW, ?_, ?_, h1.rr, ?_, ?_, ?_, ?_, h1.rW, h1.r1, h1.r2, h1.r3⟩
  · intro o; rw [hc.frozen (a := ⟨W, o, none⟩) h1.lt hW]; exact h1.fz o
  · exact h1.rooms.kept hc (fun b hb e => by have := h1.rr b hb; rw [hne b e] at this; cases this)
  · intro g h0 h8; exact (h1.own g h0 h8).kept hc (fun b e => by rw [hne b e]; simp)
  · exact (h1.mu.kept hc (fun e => by have := h1.r1; rw [hne _ e] at this; cases this) (fun b e => by rw [hne b e]; simp)).mono (Nat.le_succ _)
  · exact (h1.am.kept hc (fun e => by have := h1.r2; rw [hne _ e] at this; cases this) (fun b e => by rw [hne b e]; simp)).mono (Nat.le_succ _)
  · have hsp : s.pp c = ⟨[], [], []⟩ := (h.pp.2 c).1 hf
    refine ⟨hm, fun i => ?_⟩
    by_cases hi : i = c
    · subst hi
      show (upd m.f3 i _ i = none → _) ∧ _
      rw [upd_same, hsp]
      refine ⟨fun h => (by cases h), fun v hv => ?_⟩
      have hv' : upd m.f3 i (some (Value.pointer (some ⟨w.heap.size, 0, none⟩))) i = some v := hv
      rw [upd_same] at hv'
      cases hv'
      exact ⟨_, _, _, _, _, _, rfl, (hpn.kept hc (fun b e => by rw [hne b e]; simp)).mono (Nat.le_succ _)⟩
    · show (upd m.f3 c _ i = none → _) ∧ (∀ v, upd m.f3 c _ i = some v → _)
      rw [upd_other _ _ hi]
      exact ((⟨h1.pp.1.mono (Nat.le_succ _), fun i => ⟨(h1.pp.2 i).1, fun v hv => let ⟨p, v1, v2, v3, l1, l2, e, hp⟩ := (h1.pp.2 i).2 v hv; ⟨p, v1, v2, v3, l1, l2, e, (hp.kept hc (fun b e => by rw [hne b e]; simp)).mono (Nat.le_succ _)⟩⟩⟩ : RMap w1 Tryd.prog 3 m.M3 (N + 1) m.f3 ∧ ∀ i, (m.f3 i = none → s.pp i = ⟨[], [], []⟩) ∧ ∀ v, m.f3 i = some v → ∃ p v1 v2 v3 l1 l2, v = .pointer (some ⟨p, 0, none⟩) ∧ IsPipe w' ρ' i p (s.pp i) (N + 1) v1 v2 v3 l1 l2)).2 i
end
end Go.Proofs.YtkjbpkggcddnhaaDoor
