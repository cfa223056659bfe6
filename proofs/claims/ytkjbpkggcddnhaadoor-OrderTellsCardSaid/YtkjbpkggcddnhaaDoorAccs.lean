/- Rows of accesses in memory; the walks of access.writes and order.chosen; appends of elements of many cells. -/
import Derived.Test.YtkjbpkggcddnhaaDoorAhead
import Derived.Deep.MidRow
namespace Go.Proofs.YtkjbpkggcddnhaaDoor
set_option linter.unusedVariables false
set_option linter.unusedSimpArgs false
open Go.RowKit

def accCells (a : Acc) : List Value := [.int .i64 a.ev.g, .int .i64 a.ev.kind, .int .i64 a.ev.obj, .int .i64 a.ev.at_, .int .i64 a.at_]
def evV (e : Ev) : Value := .agg #[.int .i64 e.g, .int .i64 e.kind, .int .i64 e.obj, .int .i64 e.at_]
def accV (a : Acc) : Value := .agg #[.int .i64 a.ev.g, .int .i64 a.ev.kind, .int .i64 a.ev.obj, .int .i64 a.ev.at_, .int .i64 a.at_]
theorem accCells_length (a : Acc) : (accCells a).length = 5 := rfl
theorem flat5_length (l : List Acc) : (l.flatMap accCells).length = l.length * 5 := by
  induction l with
  | nil => rfl
  | cons a t ih => rw [List.flatMap_cons, List.length_append, ih, accCells_length, List.length_cons]; omega
theorem flat5_get : ∀ (l : List Acc) (i : Nat), i < l.length → ∀ j, j < 5 → (l.flatMap accCells)[i * 5 + j]? = (accCells (l.getD i default))[j]?
  | [], i, h, j, hj => by simp at h
  | e :: t, 0, h, j, hj => by
    rw [List.flatMap_cons, Nat.zero_mul, Nat.zero_add, List.getElem?_append_left (by rw [accCells_length]; exact hj)]; rfl
  | e :: t, i + 1, h, j, hj => by
    rw [List.flatMap_cons, List.getElem?_append_right (by rw [accCells_length]; omega), accCells_length, show (i + 1) * 5 + j - 5 = i * 5 + j by omega, flat5_get t i (by simp at h; omega) j hj]
    simp
/-- v reads as the accesses l. -/
def Accs (w : World) (v : Value) (l : List Acc) : Prop := SlAt w v 5 l.length (l.flatMap accCells)
theorem Accs.new {w w' : World} {v : Value} {l : List Acc} (h : Accs w v l) (hb : Below w.heap.size w w') : Accs w' v l := SlAt.new h hb
theorem Accs.at {w : World} {v : Value} {l : List Acc} (h : Accs w v l) {i : Nat} (hi : i < l.length) : ∃ b off cap, v = .slice (some ⟨b, off, none⟩) l.length cap ∧ b < w.heap.size ∧ l.length ≤ cap ∧ l.length ≤ 9223372036854775807 ∧ ∀ i, i < l.length →
      w.cell? ⟨b, off + i * 5, none⟩ = some (.int .i64 (l.getD i default).ev.g) ∧ w.cell? ⟨b, off + i * 5 + 1, none⟩ = some (.int .i64 (l.getD i default).ev.kind) ∧
      w.cell? ⟨b, off + i * 5 + 2, none⟩ = some (.int .i64 (l.getD i default).ev.obj) ∧ w.cell? ⟨b, off + i * 5 + 3, none⟩ = some (.int .i64 (l.getD i default).ev.at_) ∧ w.cell? ⟨b, off + i * 5 + 4, none⟩ = some (.int .i64 (l.getD i default).at_) := by
  obtain ⟨_, hm, h⟩ := h
  rcases h with ⟨_, h1⟩ | ⟨b, off, cap, rfl, hlt, hcap, hc⟩
  · omega
  · refine ⟨b, off, cap, rfl, hlt, hcap, hm, fun i hi => ?_⟩
    have h1 := fun j hj => (hc (i * 5 + j) (by omega)).trans (flat5_get l i hi j hj)
    refine ⟨h1 0 (by omega), ?_, ?_, ?_, ?_⟩
    · rw [Nat.add_assoc]; exact h1 1 (by omega)
    · rw [Nat.add_assoc]; exact h1 2 (by omega)
    · rw [Nat.add_assoc]; exact h1 3 (by omega)
    · rw [Nat.add_assoc]; exact h1 4 (by omega)
theorem Accs.shape {w : World} {v : Value} {l : List Acc} (h : Accs w v l) : ∃ a c, v = .slice a l.length c := by
  obtain ⟨_, hm, h⟩ := h
  rcases h with ⟨rfl, h1⟩ | ⟨b, off, cap, rfl, _⟩
  · rw [h1]; exact ⟨_, _, rfl⟩
  · exact ⟨_, _, rfl⟩

set_option maxHeartbeats 400000 in
theorem writes_any (g kd ob at' : Int) (i : Int) (w : World) : Calls Tryd.prog 43 #[.agg #[.int .i64 g, .int .i64 kd, .int .i64 ob, .int .i64 at', .int .i64 i]] w
    fun e w' => e = .returned (.bool (kd == 2)) ∧ w' = w.alloc (.cells #[.int .i64 g, .int .i64 kd, .int .i64 ob, .int .i64 at', .int .i64 i] 84) := by
  go_enter Tryd.func43, Tryd.ntmps43
  go_wp2
  go_ret
  exact ⟨ret_v rfl, rfl⟩

/-- The cells of block B read as access a. -/
structure AccAt (w : World) (B : Nat) (a : Acc) : Prop where
  c0 : w.cell? ⟨B, 0, none⟩ = some (.int .i64 a.ev.g)
  c1 : w.cell? ⟨B, 1, none⟩ = some (.int .i64 a.ev.kind)
  c2 : w.cell? ⟨B, 2, none⟩ = some (.int .i64 a.ev.obj)
  c3 : w.cell? ⟨B, 3, none⟩ = some (.int .i64 a.ev.at_)
  c4 : w.cell? ⟨B, 4, none⟩ = some (.int .i64 a.at_)
  fz : ∀ o, w.frozen? ⟨B, o, none⟩ = false
theorem AccAt.lt {w : World} {B : Nat} {a : Acc} (h : AccAt w B a) : B < w.heap.size := World.block_lt_of_cell? w _ h.c0
theorem AccAt.new {w w' : World} {B : Nat} {a : Acc} (h : AccAt w B a) (hb : Below w.heap.size w w') : AccAt w' B a :=
  ⟨(hb.cell (p := ⟨B, 0, none⟩) h.lt).trans h.c0, (hb.cell (p := ⟨B, 1, none⟩) h.lt).trans h.c1, (hb.cell (p := ⟨B, 2, none⟩) h.lt).trans h.c2, (hb.cell (p := ⟨B, 3, none⟩) h.lt).trans h.c3,
    (hb.cell (p := ⟨B, 4, none⟩) h.lt).trans h.c4, fun o => (hb.frozen (p := ⟨B, o, none⟩) h.lt).trans (h.fz o)⟩
theorem AccAt.made (w : World) (a : Acc) (T : Nat) : AccAt (w.alloc (.cells #[.int .i64 a.ev.g, .int .i64 a.ev.kind, .int .i64 a.ev.obj, .int .i64 a.ev.at_, .int .i64 a.at_] T)) w.heap.size a := by
  have h := heap_alloc_new w (.cells #[.int .i64 a.ev.g, .int .i64 a.ev.kind, .int .i64 a.ev.obj, .int .i64 a.ev.at_, .int .i64 a.at_] T)
  refine ⟨?_, ?_, ?_, ?_, ?_, fun o => ?_⟩
  all_goals first | (unfold World.cell?; rw [h]; rfl) | (unfold World.frozen?; rw [h]; simp)
theorem AccAt.alloc {w : World} {B : Nat} {a : Acc} (h : AccAt w B a) (o : Obj) : AccAt (w.alloc o) B a := h.new ((Below.refl _ _).alloc (Nat.le_refl _) _)
/-- Five stores. -/
def put5 (w : World) (B : Nat) (v0 v1 v2 v3 v4 : Value) : World := ((((w.setCell ⟨B, 0, none⟩ v0).setCell ⟨B, 1, none⟩ v1).setCell ⟨B, 2, none⟩ v2).setCell ⟨B, 3, none⟩ v3).setCell ⟨B, 4, none⟩ v4
theorem put5_at {w : World} {B : Nat} {a : Acc} (h : AccAt w B a) (a' : Acc) : AccAt (put5 w B (.int .i64 a'.ev.g) (.int .i64 a'.ev.kind) (.int .i64 a'.ev.obj) (.int .i64 a'.ev.at_) (.int .i64 a'.at_)) B a' := by
  have ho : ∀ (w : World) (i j : Nat) (v : Value), i ≠ j → (w.setCell ⟨B, i, none⟩ v).cell? ⟨B, j, none⟩ = w.cell? ⟨B, j, none⟩ := fun w i j v hij => World.cell?_setCell_other w ⟨B, i, none⟩ ⟨B, j, none⟩ v (fun e => hij (congrArg Addr.off e))
  unfold put5
  refine ⟨?_, ?_, ?_, ?_, ?_, fun o => ?_⟩
  · rw [ho _ 4 0 _ (by omega), ho _ 3 0 _ (by omega), ho _ 2 0 _ (by omega), ho _ 1 0 _ (by omega)]
    exact World.cell?_setCell_same _ _ _ h.c0
  · rw [ho _ 4 1 _ (by omega), ho _ 3 1 _ (by omega), ho _ 2 1 _ (by omega)]
    exact World.cell?_setCell_same _ _ _ (by rw [ho _ 0 1 _ (by omega)]; exact h.c1)
  · rw [ho _ 4 2 _ (by omega), ho _ 3 2 _ (by omega)]
    exact World.cell?_setCell_same _ _ _ (by rw [ho _ 1 2 _ (by omega), ho _ 0 2 _ (by omega)]; exact h.c2)
  · rw [ho _ 4 3 _ (by omega)]
    exact World.cell?_setCell_same _ _ _ (by rw [ho _ 2 3 _ (by omega), ho _ 1 3 _ (by omega), ho _ 0 3 _ (by omega)]; exact h.c3)
  · exact World.cell?_setCell_same _ _ _ (by rw [ho _ 3 4 _ (by omega), ho _ 2 4 _ (by omega), ho _ 1 4 _ (by omega), ho _ 0 4 _ (by omega)]; exact h.c4)
  · rw [World.frozen?_setCell, World.frozen?_setCell, World.frozen?_setCell, World.frozen?_setCell, World.frozen?_setCell]
    exact h.fz o
theorem put5_chg (w : World) (B : Nat) (v0 v1 v2 v3 v4 : Value) : Chg (fun b => b = B) w (put5 w B v0 v1 v2 v3 v4) :=
  ((((Chg.setCell (S := fun b => b = B) w (p := ⟨B, 0, none⟩) v0 rfl).trans (Chg.setCell _ (p := ⟨B, 1, none⟩) v1 rfl)).trans (Chg.setCell _ (p := ⟨B, 2, none⟩) v2 rfl)).trans (Chg.setCell _ (p := ⟨B, 3, none⟩) v3 rfl)).trans (Chg.setCell _ (p := ⟨B, 4, none⟩) v4 rfl)
theorem AccAt.kept {S : Nat → Prop} {w w' : World} {B : Nat} {a : Acc} (h : AccAt w B a) (hc : Chg S w w') (hs : ¬ S B) : AccAt w' B a :=
  ⟨hc.cell h.c0 hs, hc.cell h.c1 hs, hc.cell h.c2 hs, hc.cell h.c3 hs, hc.cell h.c4 hs, fun o => (hc.frozen (a := ⟨B, o, none⟩) h.lt hs).trans (h.fz o)⟩

theorem pick_snoc (l : List Acc) {k : Nat} (hk : k + 1 < l.length) (a0 : Acc) : ((l.drop 1).take (k + 1)).foldl pick a0 = pick (((l.drop 1).take k).foldl pick a0) (l.getD (k + 1) default) := by
  have h : k < (l.drop 1).length := by rw [List.length_drop]; omega
  rw [List.take_succ_eq_append_getElem h, List.foldl_append]
  simp [hk, Nat.add_comm]
theorem chosen_all (l : List Acc) (hl : 0 < l.length) : chosenL l = ((l.drop 1).take (l.length - 1)).foldl pick (l.getD 0 default) := by
  match l, hl with
  | a :: t, _ => simp [chosenL]

theorem bal {B : Nat} {w w' : World} (h : Below B w w' ∧ B ≤ w'.heap.size) (o : Obj) : Below B w (w'.alloc o) ∧ B ≤ (w'.alloc o).heap.size := ⟨h.1.alloc h.2 o, by simp; omega⟩
theorem AccAt.range {w : World} {B : Nat} {a : Acc} (h : AccAt w B a) : w.rangeAt B 0 (accCells a) := fun j v hj => by
  rw [Nat.zero_add]
  match j, hj with
  | 0, hj => simp [accCells] at hj; rw [← hj]; exact h.c0
  | 1, hj => simp [accCells] at hj; rw [← hj]; exact h.c1
  | 2, hj => simp [accCells] at hj; rw [← hj]; exact h.c2
  | 3, hj => simp [accCells] at hj; rw [← hj]; exact h.c3
  | 4, hj => simp [accCells] at hj; rw [← hj]; exact h.c4
  | j + 5, hj => simp [accCells] at hj
theorem AccAt.load {w : World} {B : Nat} {a : Acc} (h : AccAt w B a) : (loadVar 84 ⟨B, 0, none⟩).run Tryd.prog w = .ok (accV a) w :=
  run_loadVar_mid w B 0 84 (accCells a) _ h.range Tryd.underlying84 rfl (by kernel_rfl)
theorem results_cell {P : Program} {fn : Func} {a : Tmp} {t : TypeId} (h : fn.results = #[.cell a t]) {tmps : Array Value} {B : Nat} (hp : tmps.getD a undef = .pointer (some ⟨B, 0, none⟩)) {w : World} {v : Value} (hl : (loadVar t ⟨B, 0, none⟩).run P w = .ok v w) :
    (results fn tmps).run P w = .ok v w := by
  have hp' : tmps[a]?.getD undef = .pointer (some ⟨B, 0, none⟩) := by simpa using hp
  simp [results, h, hp', asAddr, hl, Result.andThen]
end Go.Proofs.YtkjbpkggcddnhaaDoor
