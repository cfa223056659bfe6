/- A law on regions that draw their order: reads first, calls in their order, then a forced chain of effects. No program in sight. -/
import Derived.Test.YtkjbpkggcddnhaaDoorCore
import Derived.StillTail
import Derived.OrdersHeld
import Derived.KernelRfl
namespace Go.Proofs.YtkjbpkggcddnhaaDoor
set_option linter.unusedVariables false
set_option linter.unusedSimpArgs false
section
variable {P : Program} {ops : Array Oper} {Q : Exit → Act → World → Prop} {md : Region.Mode} {S : World → Prop}

/-- Whatever order is picked, of the operations ahead of number n; S holds behind each. -/
def wpAnyT (P : Program) (md : Region.Mode) (ops : Array Oper) (Q : Exit → Act → World → Prop) (S : World → Prop) (n : Nat) (L : Array Bool → Act → World → Prop) : Nat → Array Bool → Act → World → Prop
  | 0, listed, a, w => L listed a w
  | f + 1, listed, a, w => Region.ready md ops listed ≠ [] ∧ ∀ i ∈ Region.ready md ops listed, i < n ∧ wpOp P ops Q i (fun a' w' => S w' ∧ wpAnyT P md ops Q S n L f (listed.setIfInBounds i true) a' w') a w

theorem wpAny_of_T {n g : Nat} {L : Array Bool → Act → World → Prop} (hL : ∀ listed a w, L listed a w → wpAny P md ops Q g listed a w) :
    ∀ (f : Nat) (listed : Array Bool) (a : Act) (w : World), wpAnyT P md ops Q S n L f listed a w → wpAny P md ops Q (f + g) listed a w
  | 0, listed, a, w, h => by rw [Nat.zero_add]; exact hL _ _ _ h
  | f + 1, listed, a, w, h => by
    rw [show f + 1 + g = (f + g) + 1 by omega]
    exact ⟨fun h0 => absurd h0 h.1, fun i hi => wpOp_mono (fun a' w' h' => wpAny_of_T hL f _ a' w' h'.2) (h.2 i hi).2⟩

/-- Every operation ahead of number n that is not listed at first is waited for by a later one, up to number n. -/
def sinkB (md : Region.Mode) (ops : Array Oper) (n : Nat) (L0 : Array Bool) : Bool :=
  (List.range n).all fun i => L0.getD i false || (List.range (n + 1)).any fun j => decide (i < j) && Region.waitsFor md ops j i

theorem tail_waits' {L0 : Array Bool} {n : Nat} {listed : Array Bool} (hs : sinkB md ops n L0 = true) (hc : Region.chainB md ops n = true) (hn : n < ops.size) (inv : HeadInv md ops n listed)
    (hm : ∀ i, L0.getD i false = true → listed.getD i false = true) :
    ∀ (d i : Nat), n - i = d → i < n → listed.getD i true = false → ∀ t, n ≤ t → t ∉ Region.ready md ops listed := by
  intro d
  induction d using Nat.strongRecOn with
  | _ d ih =>
    intro i hd hi hun t ht hr
    obtain ⟨_, ot, hot, hall⟩ := mem_ready.1 hr
    have htlt : t < ops.size := (Array.getElem?_eq_some_iff.1 hot).1
    by_cases htn : t = n
    · subst htn
      have h1 := List.all_eq_true.1 hs i (List.mem_range.2 hi)
      rw [Bool.or_eq_true] at h1
      rcases h1 with h1 | h1
      · have := hm i h1
        rw [getD_both hun] at this
        cases this
      obtain ⟨j, hj, hj2⟩ := List.any_eq_true.1 h1
      simp only [Bool.and_eq_true, decide_eq_true_eq] at hj2
      obtain ⟨oj, hoj, e, he, hb, hon⟩ := Region.waitsFor_spec hj2.2
      have hjle : j ≤ t := by have := List.mem_range.1 hj; omega
      by_cases hjt : j = t
      · subst hjt
        have : oj = ot := Option.some.inj (hoj.symm.trans hot)
        subst this
        have h2 := hall e he hb
        rw [hon, getD_both hun] at h2
        cases h2
      · cases hl : listed.getD j false with
        | true =>
          have h2 := inv.closed j oj hoj hl e he hb
          rw [hon, getD_both hun] at h2
          cases h2
        | false =>
          have hjs : j < listed.size := by rw [inv.size]; omega
          exact ih (t - j) (by omega) j rfl (by omega) (getD_in hjs hl) t (Nat.le_refl _) hr
    · have h1 := List.all_eq_true.1 hc t (List.mem_range.2 htlt)
      simp only [Bool.or_eq_true, decide_eq_true_eq] at h1
      rcases h1 with h1 | h1
      · omega
      · obtain ⟨o', ho', e, he, hb, hon⟩ := Region.waitsFor_spec h1
        have : o' = ot := Option.some.inj (ho'.symm.trans hot)
        subst this
        have h2 := hall e he hb
        rw [hon, getD_both (inv.tail (t - 1) (by omega) (by omega))] at h2
        cases h2

theorem mono_set {L0 listed : Array Bool} (hm : ∀ i, L0.getD i false = true → listed.getD i false = true) (k : Nat) : ∀ i, L0.getD i false = true → (listed.setIfInBounds k true).getD i false = true :=
  fun i hi => getD_set_true (hm i hi)

theorem wpAnyT_first {n i : Nat} {oi : Oper} {v : Value} {L : Array Bool → Act → World → Prop} (hi : ops[i]? = some oi) (hsel : ∀ (j : Nat) (o : Oper) cs b, ops[j]? = some o → o.op ≠ .select cs b)
    (hQ : ∀ c a w, Q (.panic c) (a.put oi.dst v) w → Q (.panic c) a w)
    {L0 : Array Bool} (hs : sinkB md ops n L0 = true) (hc : Region.chainB md ops n = true) (hn : n < ops.size) (hin : i < n)
    (hdone : ∀ listed a w, L listed a w → ∀ j ∈ Region.ready md ops listed, n ≤ j) :
    ∀ (f : Nat) (listed : Array Bool) (a : Act) (w : World), HeadInv md ops n listed →
      (∀ j oj, ops[j]? = some oj → j ≠ i → listed.getD j true = false → (∀ e ∈ oj.after, Region.binds md e = true → e.on ≠ i) → oi.apart ops oj = true) →
      i ∈ Region.ready md ops listed → YieldsIf P ops S oi v a → S w →
      (∀ k, L0.getD k false = true → listed.getD k false = true) → wpAnyT P md ops Q S n L f (listed.setIfInBounds i true) (a.put oi.dst v) w → wpAnyT P md ops Q S n L (f + 1) listed a w := by
  intro f
  induction f with
  | zero =>
    intro listed a w inv _ hr hy hS hm H
    have hun := (mem_ready.1 hr).1
    refine ⟨fun h => (by rw [h] at hr; cases hr), fun j hj => ?_⟩
    have hjn : j < n := by
      rcases Nat.lt_or_ge j n with h | h
      · exact h
      · exact absurd hj (tail_waits' hs hc hn inv hm _ i rfl hin hun j h)
    refine ⟨hjn, ?_⟩
    by_cases hji : j = i
    · subst hji; exact hy.wpOp hi hS ⟨hS, H⟩
    · have := hdone _ _ _ H j (ready_mono hj hji)
      omega
  | succ f ih =>
    intro listed a w inv hfree hr hy hS hm H
    have hun := (mem_ready.1 hr).1
    refine ⟨fun h => (by rw [h] at hr; cases hr), fun j hj => ?_⟩
    have hjn : j < n := by
      rcases Nat.lt_or_ge j n with h | h
      · exact h
      · exact absurd hj (tail_waits' hs hc hn inv hm _ i rfl hin hun j h)
    refine ⟨hjn, ?_⟩
    by_cases hji : j = i
    · subst hji; exact hy.wpOp hi hS ⟨hS, H⟩
    · have h1 := (H.2 j (ready_mono hj hji)).2
      obtain ⟨hjun, oj, hoj, hall⟩ := mem_ready.1 hj
      have hnot : ∀ e ∈ oj.after, Region.binds md e = true → e.on ≠ i := fun e he hb heq => by
        have h1 := hall e he hb
        rw [heq, getD_both hun] at h1
        cases h1
      have h2 := wpOp_putIf hoj (hfree j oj hoj hji hjun hnot) (fun cs b => hsel i oi cs b hi) (fun cs b => hsel j oj cs b hoj) hQ hy h1
      have hfree' : ∀ k ok, ops[k]? = some ok → k ≠ i → (listed.setIfInBounds j true).getD k true = false →
          (∀ e ∈ ok.after, Region.binds md e = true → e.on ≠ i) → oi.apart ops ok = true := fun k ok hk hki hun hno => by
        refine hfree k ok hk hki ?_ hno
        by_cases hjk : j = k
        · subst hjk; exact hjun
        · rw [getD_set_ne true hjk] at hun; exact hun
      refine wpOp_mono (fun a' w' h3 => ⟨h3.2.1, ih (listed.setIfInBounds j true) a' w' (inv.set hj hjn) hfree' (ready_mono hr (Ne.symm hji)) h3.1 h3.2.1 (mono_set hm j) ?_⟩) h2
      rw [Array.setIfInBounds_comm _ _ hji]
      exact h3.2.2

/-- The order that is walked: take i: number i is taken first, it reads or reckons; one i: number i is carried out, nothing else may come up; two i j: either of two may come up. -/
inductive Ord where
  | done
  | take (i : Nat) (r : Ord)
  | one (i : Nat) (r : Ord)
  | two (i j : Nat) (r s : Ord)

def wpHeld (P : Program) (ops : Array Oper) (Q : Exit → Act → World → Prop) (S : World → Prop) (Lq : Act → World → Prop) : Ord → Act → World → Prop
  | .done, a, w => Lq a w
  | .take i r, a, w => ∃ oi v, ops[i]? = some oi ∧ YieldsIf P ops S oi v a ∧ (∀ c a w, Q (.panic c) (a.put oi.dst v) w → Q (.panic c) a w) ∧ wpHeld P ops Q S Lq r (a.put oi.dst v) w
  | .one i r, a, w => wpOp P ops Q i (fun a' w' => S w' ∧ wpHeld P ops Q S Lq r a' w') a w
  | .two i j r s, a, w => wpOp P ops Q i (fun a' w' => S w' ∧ wpHeld P ops Q S Lq r a' w') a w ∧ wpOp P ops Q j (fun a' w' => S w' ∧ wpHeld P ops Q S Lq s a' w') a w

/-- The order fits: f operations are left of the head. -/
def heldB (md : Region.Mode) (ops : Array Oper) (n g : Nat) : Nat → Ord → Array Bool → Bool
  | 0, .done, listed => Region.seqB md ops g n listed
  | f + 1, .take i r, listed => (Region.ready md ops listed).contains i && Region.free md ops listed i && decide (i < n) && heldB md ops n g f r (listed.setIfInBounds i true)
  | f + 1, .one i r, listed => decide (Region.ready md ops listed = [i]) && decide (i < n) && heldB md ops n g f r (listed.setIfInBounds i true)
  | f + 1, .two i j r s, listed => decide (Region.ready md ops listed = [i, j]) && decide (i < n) && decide (j < n) && heldB md ops n g f r (listed.setIfInBounds i true) && heldB md ops n g f s (listed.setIfInBounds j true)
  | _, _, _ => false

theorem wpAnyT_held {n g : Nat} {Lq : Act → World → Prop} {L0 : Array Bool} (hsel : Region.noSelect ops = true) (hs : sinkB md ops n L0 = true) (hc : Region.chainB md ops n = true) (hn : n < ops.size) :
    ∀ (f : Nat) (l : Ord) (listed : Array Bool) (a : Act) (w : World), HeadInv md ops n listed → (∀ k, L0.getD k false = true → listed.getD k false = true) → heldB md ops n g f l listed = true → S w → wpHeld P ops Q S Lq l a w →
    wpAnyT P md ops Q S n (fun listed' a' w' => Region.seqB md ops g n listed' = true ∧ Lq a' w') f listed a w
  | 0, .done, listed, a, w, _, _, hB, _, h => ⟨by simpa [heldB] using hB, h⟩
  | f + 1, .take i r, listed, a, w, inv, hm, hB, hS, h => by
    obtain ⟨oi, v, hi, hy, hQ, h⟩ := h
    simp only [heldB, Bool.and_eq_true, decide_eq_true_eq] at hB
    obtain ⟨⟨⟨hr, hf⟩, hin⟩, hB'⟩ := hB
    have hr' : i ∈ Region.ready md ops listed := by simpa using hr
    exact wpAnyT_first hi (Region.noSelect_spec hsel) hQ hs hc hn hin (fun listed' a' w' hL => seqB_ready hL.1) f listed a w inv (Region.free_spec hi hf) hr' hy hS hm
      (wpAnyT_held hsel hs hc hn f r _ _ w (inv.set hr' hin) (mono_set hm i) hB' hS h)
  | f + 1, .one i r, listed, a, w, inv, hm, hB, hS, h => by
    simp only [heldB, Bool.and_eq_true, decide_eq_true_eq] at hB
    obtain ⟨⟨hr, hin⟩, hB'⟩ := hB
    refine ⟨by rw [hr]; simp, fun j hj => ?_⟩
    have hji : j = i := by rw [hr] at hj; simpa using hj
    subst hji
    exact ⟨hin, wpOp_mono (fun a' w' h' => ⟨h'.1, wpAnyT_held hsel hs hc hn f r _ a' w' (inv.set hj hin) (mono_set hm j) hB' h'.1 h'.2⟩) h⟩
  | f + 1, .two i j r s, listed, a, w, inv, hm, hB, hS, h => by
    simp only [heldB, Bool.and_eq_true, decide_eq_true_eq] at hB
    obtain ⟨⟨⟨⟨hr, hin⟩, hjn⟩, hB1⟩, hB2⟩ := hB
    refine ⟨by rw [hr]; simp, fun k hk => ?_⟩
    have hki : k = i ∨ k = j := by rw [hr] at hk; simpa using hk
    rcases hki with rfl | rfl
    · exact ⟨hin, wpOp_mono (fun a' w' h' => ⟨h'.1, wpAnyT_held hsel hs hc hn f r _ a' w' (inv.set hk hin) (mono_set hm k) hB1 h'.1 h'.2⟩) h.1⟩
    · exact ⟨hjn, wpOp_mono (fun a' w' h' => ⟨h'.1, wpAnyT_held hsel hs hc hn f s _ a' w' (inv.set hk hjn) (mono_set hm k) hB2 h'.1 h'.2⟩) h.2⟩
  | 0, .take _ _, _, _, _, _, _, hB, _, _ => by simp [heldB] at hB
  | 0, .one _ _, _, _, _, _, _, hB, _, _ => by simp [heldB] at hB
  | 0, .two _ _ _ _, _, _, _, _, _, hB, _, _ => by simp [heldB] at hB
  | _ + 1, .done, _, _, _, _, _, hB, _, _ => by simp [heldB] at hB

/-- What yields in whatever world, taken ahead of all. -/
def wpFree (P : Program) (ops : Array Oper) (Q : Exit → Act → World → Prop) (next : Act → Prop) : List Nat → Act → Prop
  | [], a => next a
  | i :: r, a => ∃ oi v, ops[i]? = some oi ∧ Yields P ops oi v a ∧ (∀ c a w, Q (.panic c) (a.put oi.dst v) w → Q (.panic c) a w) ∧ wpFree P ops Q next r (a.put oi.dst v)
def freeB (md : Region.Mode) (ops : Array Oper) (n : Nat) : List Nat → Array Bool → Bool
  | [], _ => true
  | i :: r, listed => (Region.ready md ops listed).contains i && Region.free md ops listed i && decide (i < n) && freeB md ops n r (listed.setIfInBounds i true)
def listedBy (l : List Nat) (listed : Array Bool) : Array Bool := l.foldl (fun a i => a.setIfInBounds i true) listed

theorem wpAny_of_free {n g : Nat} {w : World} (hsel : Region.noSelect ops = true) : ∀ (fs : List Nat) (listed : Array Bool) (a : Act), HeadInv md ops n listed → freeB md ops n fs listed = true →
    wpFree P ops Q (fun a' => HeadInv md ops n (listedBy fs listed) → wpAny P md ops Q g (listedBy fs listed) a' w) fs a → wpAny P md ops Q (fs.length + g) listed a w
  | [], listed, a, inv, _, h => by rw [List.length_nil, Nat.zero_add]; exact h inv
  | i :: r, listed, a, inv, hB, h => by
    obtain ⟨oi, v, hi, hy, hQ, h⟩ := h
    simp only [freeB, Bool.and_eq_true, decide_eq_true_eq] at hB
    obtain ⟨⟨⟨hr, hf⟩, hin⟩, hB'⟩ := hB
    have hr' : i ∈ Region.ready md ops listed := by simpa using hr
    rw [List.length_cons, show r.length + 1 + g = (r.length + g) + 1 by omega]
    exact wpAny_take hi hsel hf hr hQ hy (wpAny_of_free hsel r _ _ (inv.set hr' hin) hB' h)

/-- All that is asked of the order, as one Bool. -/
def orderB (ops : Array Oper) (n : Nat) (fs : List Nat) (l : Ord) : Bool :=
  Region.noSelect ops && decide (n < ops.size) && decide (fs.length ≤ n) && freeB .any ops n fs (Array.replicate ops.size false) && sinkB .any ops n (listedBy fs (Array.replicate ops.size false)) && Region.chainB .any ops n &&
    heldB .any ops n (ops.size - n) (n - fs.length) l (listedBy fs (Array.replicate ops.size false))

/-- A region that draws its order: what hangs on no world (fs), then the reads and calls ahead of number n in the order l, then the rest in the text's order. -/
theorem wp_region_order {id : Nat} {a : Act} {w : World} {lo : List Oper} (n : Nat) (fs : List Nat) (l : Ord) (S : World → Prop) (hm : P.follows .mixedOrders = true) (hB : orderB lo.toArray n fs l = true)
    (hS : S w.drew) (h : wpFree P lo.toArray Q (fun a' => wpHeld P lo.toArray Q S (fun a' w' => wpList P lo.toArray Q (lo.drop n) a' w') l a' w.drew) fs a) : (Code.region id lo.toArray true).wp P Q a w := by
  simp only [orderB, Bool.and_eq_true, decide_eq_true_eq] at hB
  obtain ⟨⟨⟨⟨⟨⟨hsel, hn⟩, hfl⟩, hfB⟩, hs⟩, hc⟩, hB⟩ := hB
  have hn' : n < lo.length := by simpa using hn
  have hdl : (lo.drop n).length = lo.toArray.size - n := by simp
  have inv0 : HeadInv .any lo.toArray n (Array.replicate lo.toArray.size false) :=
    ⟨by simp, fun j oj _ hl => (by rw [getD_replicate_false] at hl; cases hl), fun t _ ht => getD_in (by simpa using ht) (getD_replicate_false _ _)⟩
  refine wp_region_any hm ?_
  have key : ∀ a', wpHeld P lo.toArray Q S (fun a' w' => wpList P lo.toArray Q (lo.drop n) a' w') l a' w.drew → HeadInv .any lo.toArray n (listedBy fs (Array.replicate lo.toArray.size false)) →
      wpAny P .any lo.toArray Q (n - fs.length + (lo.toArray.size - n)) (listedBy fs (Array.replicate lo.toArray.size false)) a' w.drew := fun a' h' inv => by
    have H := wpAnyT_held (md := .any) (g := lo.toArray.size - n) hsel hs hc hn (n - fs.length) l _ a' w.drew inv (fun _ h => h) hB hS h'
    exact wpAny_of_T (Q := Q) (g := lo.toArray.size - n) (fun listed a' w' hL => by
      have := wpAny_of_seq (md := .any) (Q' := Q) (lo.drop n) n listed a' w' (fun j => by simp [List.getElem?_drop]) (by rw [hdl]; exact hL.1) hL.2
      rwa [hdl] at this) _ _ _ _ H
  have mono : ∀ (fs' : List Nat) (a : Act), wpFree P lo.toArray Q (fun a' => wpHeld P lo.toArray Q S (fun a' w' => wpList P lo.toArray Q (lo.drop n) a' w') l a' w.drew) fs' a →
      wpFree P lo.toArray Q (fun a' => HeadInv .any lo.toArray n (listedBy fs (Array.replicate lo.toArray.size false)) → wpAny P .any lo.toArray Q (n - fs.length + (lo.toArray.size - n)) (listedBy fs (Array.replicate lo.toArray.size false)) a' w.drew) fs' a := by
    intro fs'
    induction fs' with
    | nil => exact fun a' h' => key a' h'
    | cons i r ih => exact fun a' ⟨oi, v, hi, hy, hQ, h'⟩ => ⟨oi, v, hi, hy, hQ, ih _ h'⟩
  have := wpAny_of_free (md := .any) (Q := Q) (n := n) (g := n - fs.length + (lo.toArray.size - n)) (w := w.drew) hsel fs _ a inv0 hfB (mono fs a h)
  rw [show fs.length + (n - fs.length + (lo.toArray.size - n)) = lo.toArray.size by omega] at this
  exact this

/-! ### the walk's steps -/
def nthO : List Oper → Nat → Option Oper
  | [], _ => none
  | o :: _, 0 => some o
  | _ :: l, k + 1 => nthO l k
theorem nthO_get : ∀ (l : List Oper) (i : Nat), l.toArray[i]? = nthO l i
  | [], _ => by simp [nthO]
  | o :: l, 0 => by simp [nthO]
  | o :: l, k + 1 => by have := nthO_get l k; simpa [nthO] using this

theorem wpHeld_take {Lq : Act → World → Prop} {lo : List Oper} {i : Nat} {oi : Oper} {r : Ord} {a : Act} {w : World} {v : Value} (hi : nthO lo i = some oi)
    (hw : Region.wanted oi (yielded lo.toArray a.tmps) = true) (hy : ∀ x, S x → (execOp a.eval oi).run P x = .ok (.value v) x)
    (hQ : ∀ c a w, Q (.panic c) (a.put oi.dst v) w → Q (.panic c) a w) (h : wpHeld P lo.toArray Q S Lq r (a.put oi.dst v) w) : wpHeld P lo.toArray Q S Lq (.take i r) a w :=
  ⟨oi, v, by rw [nthO_get]; exact hi, .inl ⟨hw, hy⟩, hQ, h⟩
theorem wpHeld_skip {Lq : Act → World → Prop} {lo : List Oper} {i : Nat} {oi : Oper} {r : Ord} {a : Act} {w : World} (hi : nthO lo i = some oi)
    (hw : Region.wanted oi (yielded lo.toArray a.tmps) = false) (hQ : ∀ c a w, Q (.panic c) (a.put oi.dst undef) w → Q (.panic c) a w)
    (h : wpHeld P lo.toArray Q S Lq r (a.put oi.dst undef) w) : wpHeld P lo.toArray Q S Lq (.take i r) a w :=
  ⟨oi, undef, by rw [nthO_get]; exact hi, .inr ⟨hw, rfl⟩, hQ, h⟩
theorem wpHeld_do {Lq : Act → World → Prop} {lo : List Oper} {i : Nat} {oi : Oper} {r : Ord} {a : Act} {w : World} (hi : nthO lo i = some oi)
    (hw : Region.wanted oi (yielded lo.toArray a.tmps) = true)
    (h : ∀ K : Act → World → Prop, (∀ a' w', S w' → wpHeld P lo.toArray Q S Lq r a' w' → K a' w') → Oper.wp P oi a w K Q) : wpHeld P lo.toArray Q S Lq (.one i r) a w := by
  show wpOp P lo.toArray Q i _ a w
  unfold wpOp
  simp only [nthO_get, hi, hw, if_true]
  exact .inl (h _ fun a' w' h1 h2 => ⟨h1, h2⟩)
theorem wpHeld_two {Lq : Act → World → Prop} {lo : List Oper} {i j : Nat} {oi oj : Oper} {r s : Ord} {a : Act} {w : World} (hi : nthO lo i = some oi) (hj : nthO lo j = some oj)
    (hwi : Region.wanted oi (yielded lo.toArray a.tmps) = true) (hwj : Region.wanted oj (yielded lo.toArray a.tmps) = true)
    (h1 : ∀ K : Act → World → Prop, (∀ a' w', S w' → wpHeld P lo.toArray Q S Lq r a' w' → K a' w') → Oper.wp P oi a w K Q)
    (h2 : ∀ K : Act → World → Prop, (∀ a' w', S w' → wpHeld P lo.toArray Q S Lq s a' w' → K a' w') → Oper.wp P oj a w K Q) : wpHeld P lo.toArray Q S Lq (.two i j r s) a w := by
  refine ⟨?_, ?_⟩
  · unfold wpOp
    simp only [nthO_get, hi, hwi, if_true]
    exact .inl (h1 _ fun a' w' h1 h2 => ⟨h1, h2⟩)
  · unfold wpOp
    simp only [nthO_get, hj, hwj, if_true]
    exact .inl (h2 _ fun a' w' h1 h2 => ⟨h1, h2⟩)
theorem wpFree_take {next : Act → Prop} {lo : List Oper} {i : Nat} {oi : Oper} {r : List Nat} {a : Act} {v : Value} (hi : nthO lo i = some oi)
    (hw : Region.wanted oi (yielded lo.toArray a.tmps) = true) (hy : ∀ x, (execOp a.eval oi).run P x = .ok (.value v) x)
    (hQ : ∀ c a w, Q (.panic c) (a.put oi.dst v) w → Q (.panic c) a w) (h : wpFree P lo.toArray Q next r (a.put oi.dst v)) : wpFree P lo.toArray Q next (i :: r) a :=
  ⟨oi, v, by rw [nthO_get]; exact hi, .inl ⟨hw, hy⟩, hQ, h⟩
theorem wpFree_nil {next : Act → Prop} {lo : List Oper} {a : Act} (h : next a) : wpFree P lo.toArray Q next [] a := h
theorem wpHeld_nil {Lq : Act → World → Prop} {a : Act} {w : World} (h : Lq a w) : wpHeld P ops Q S Lq .done a w := h
end
end Go.Proofs.YtkjbpkggcddnhaaDoor
