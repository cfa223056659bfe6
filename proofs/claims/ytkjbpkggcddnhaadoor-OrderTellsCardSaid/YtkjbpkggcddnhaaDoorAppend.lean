/- 'append(v, x)' of one element of several cells, wherever v lies. -/
import Derived.Test.YtkjbpkggcddnhaaDoorPush
import Derived.Deep.MidRow
namespace Go.Proofs.YtkjbpkggcddnhaaDoor
set_option linter.unusedVariables false
set_option linter.unusedSimpArgs false
open Go.RowKit

theorem wp_append_k {P : Program} {w : World} {o : Oper} {a : Act} {K : Act → World → Prop} {Q : Exit → Act → World → Prop} (s x : Operand) (t : TypeId)
    (ho : o.op = .call { callee := .builtin .append, args := #[s, x], argTypes := #[t, t] })
    (e : TypeId) (i : TypeInfo) (z : Value) (k bytes : Nat) (ht : P.underlying t = some (.slice e)) (hi : P.info? e = some i) (hz : i.zero = some z)
    (hsize : i.size = k) (hby : i.bytes = bytes) (hzs : z.cells.size = k) (hk : 0 < k)
    (v : Value) (n : Nat) (xs : List Value) (hs : a.eval s = v) (hown : w.ownsRow 0 e k v n xs)
    (X c : Nat) (us : List Value) (hx : a.eval x = .slice (some ⟨X, 0, none⟩) 1 c) (hul : us.length = 1 * k) (hu : ∀ j y, us[j]? = some y → w.cell? ⟨X, j, none⟩ = some y) (h1 : ∀ u ∈ us, u.oneCell' = true) (hn : n ≤ 100000) (hb : bytes ≤ 1000)
    (h : ∀ v' w', w'.ownsRow 0 e k v' (n + 1) (xs ++ us) → w.grownBy w' v.ownBlock → Lies w v v' → (∃ g cap, v' = .slice (some ⟨g, 0, none⟩) (n + 1) cap) → K (a.put o.dst v') w') : o.wp P a w K Q := by
  have hbytes : (n + 1) * bytes ≤ 140737488355328 := Nat.le_trans (Nat.mul_le_mul (show n + 1 ≤ 100001 by omega) hb) (by decide)
  obtain ⟨v', w', hr, h2, h3, h4, h5⟩ := run_append_own_at (P := P) w 0 t o.type e i z k bytes ht hi hz hsize hby hzs hk v n xs hown ⟨X, 0, none⟩ 1 c us hul (fun j y hj => by
    rw [show (⟨X, 0, none⟩ : Addr).add j = ⟨X, j, none⟩ by rw [Addr.add_mid, Nat.zero_add]]; exact hu j y hj) h1 (by unfold maxLen; omega) hbytes (Nat.zero_le _)
  unfold Oper.wp execOp
  simp only [ho, resolve, invoke, builtin, Sem.run_bind, Sem.run_pure, Result.andThen_ok, List.map_toArray, List.map_cons, List.map_nil, hs, hx, hr]
  refine h v' w' h2 h3 (h5.imp id (fun e => ⟨_, e, Nat.le_refl _⟩)) ?_
  rcases h2.2 with ⟨e, _⟩ | ⟨g, cap, cur, e, _⟩
  · have := (h4.1 e).2
    cases this
  · exact ⟨g, cap, e⟩
theorem wpList_append_k {P : Program} {w : World} {ops : Array Oper} {rest : List Oper} {o : Oper} {a : Act} {Q : Exit → Act → World → Prop} (hgd : o.guard = none) (s x : Operand) (t : TypeId)
    (ho : o.op = .call { callee := .builtin .append, args := #[s, x], argTypes := #[t, t] })
    (e : TypeId) (i : TypeInfo) (z : Value) (k bytes : Nat) (ht : P.underlying t = some (.slice e)) (hi : P.info? e = some i) (hz : i.zero = some z)
    (hsize : i.size = k) (hby : i.bytes = bytes) (hzs : z.cells.size = k) (hk : 0 < k)
    (v : Value) (n : Nat) (xs : List Value) (hs : a.eval s = v) (hown : w.ownsRow 0 e k v n xs)
    (X c : Nat) (us : List Value) (hx : a.eval x = .slice (some ⟨X, 0, none⟩) 1 c) (hul : us.length = 1 * k) (hu : ∀ j y, us[j]? = some y → w.cell? ⟨X, j, none⟩ = some y) (h1 : ∀ u ∈ us, u.oneCell' = true) (hn : n ≤ 100000) (hb : bytes ≤ 1000)
    (h : ∀ v' w', w'.ownsRow 0 e k v' (n + 1) (xs ++ us) → w.grownBy w' v.ownBlock → Lies w v v' → (∃ g cap, v' = .slice (some ⟨g, 0, none⟩) (n + 1) cap) → wpList P ops Q rest (a.put o.dst v') w') : wpList P ops Q (o :: rest) a w :=
  wpList_plain hgd fun _ hK => wp_append_k s x t ho e i z k bytes ht hi hz hsize hby hzs hk v n xs hs hown X c us hx hul hu h1 hn hb fun v' w' r1 r2 r3 r4 => hK _ _ (h v' w' r1 r2 r3 r4)
/-- The cells of a block that was just laid. -/
theorem new_cells (w : World) (us : List Value) (T : Nat) : ∀ j y, us[j]? = some y → (w.alloc (.cells us.toArray T)).cell? ⟨w.heap.size, j, none⟩ = some y := fun j y hj => by
  have h := heap_alloc_new w (.cells us.toArray T)
  unfold World.cell?
  rw [h]
  simpa using hj
end Go.Proofs.YtkjbpkggcddnhaaDoor
