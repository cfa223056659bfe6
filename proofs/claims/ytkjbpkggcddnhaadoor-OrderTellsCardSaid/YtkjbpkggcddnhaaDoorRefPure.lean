/- Plain law: the clocks and the races are the document's. No program, no memory. -/
import Derived.Test.YtkjbpkggcddnhaaDoorTells
namespace Go.Proofs.YtkjbpkggcddnhaaDoor
set_option linter.unusedVariables false
set_option linter.unusedSimpArgs false
open Go.RowKit


/-! ### an event's clock as a list -/
def hiN : Nat := 8
def ckList (rooms : List Int) (l : List Ev) (j : Nat) : List Int := trimL ((List.range 8).map fun (h : Nat) => (ckL rooms l j h : Int))
theorem trimL_idem (l : List Int) : trimL (trimL l) = trimL l := by
  induction h : l.length generalizing l with
  | zero => rw [List.eq_nil_of_length_eq_zero h]; rfl
  | succ n ih =>
    have hne : l ≠ [] := fun e => by rw [e] at h; simp at h
    obtain ⟨t, x, rfl⟩ : ∃ t x, l = t ++ [x] := ⟨l.dropLast, l.getLast hne, (List.dropLast_concat_getLast hne).symm⟩
    rw [trimL_snoc]
    by_cases hx : x = 0
    · rw [if_pos hx]; exact ih t (by simp at h; exact h)
    · rw [if_neg hx, trimL_snoc, if_neg hx]
theorem trimL_zeros (l : List Int) (k : Nat) : trimL (l ++ List.replicate k 0) = trimL l := by
  induction k with
  | zero => simp
  | succ k ih => rw [List.replicate_succ', ← List.append_assoc, trimL_snoc, if_pos rfl, ih]
theorem trimL_mem {l : List Int} {x : Int} (h : x ∈ trimL l) : x ∈ l := by
  unfold trimL at h
  rw [List.mem_reverse] at h
  have := (List.dropWhile_sublist (· == (0 : Int)) (l := l.reverse)).subset h
  exact List.mem_reverse.1 this
theorem canon {X : List Int} (ht : trimL X = X) (h0 : ∀ x ∈ X, 0 ≤ x) {n : Nat} (hn : X.length ≤ n) : X = trimL ((List.range n).map fun (h : Nat) => getL X h) := by
  have : (List.range n).map (fun (h : Nat) => getL X h) = X ++ List.replicate (n - X.length) 0 := by
    refine List.ext_getElem? fun i => ?_
    by_cases hi : i < X.length
    · rw [List.getElem?_append_left hi]
      have : i < n := by omega
      have h1 := h0 X[i] (List.getElem_mem hi)
      simp only [List.getElem?_map, List.getElem?_range this, Option.map_some, List.getElem?_eq_getElem hi, Option.some.injEq]
      rw [getL_nat hi]
      simp [hi]
      omega
    · rw [List.getElem?_append_right (by omega)]
      by_cases hi2 : i < n
      · simp only [List.getElem?_map, List.getElem?_range hi2, Option.map_some]
        rw [getL_out (by omega), List.getElem?_replicate, if_pos (by omega)]
      · rw [List.getElem?_eq_none (by simp; omega), List.getElem?_eq_none (by simp; omega)]
  rw [this, trimL_zeros, ht]
theorem joinL_trim (a b : List Int) : trimL (joinL a b) = joinL a b := trimL_idem _
theorem joinL_nonneg (a b : List Int) : ∀ x ∈ joinL a b, 0 ≤ x := fun x hx => by
  have := trimL_mem hx
  unfold maxL at this
  obtain ⟨g, _, rfl⟩ := List.mem_map.1 this
  have := getL_nonneg a g
  omega

/-! ### how long clocks are -/
def Short (s : WS) : Prop := ∀ X, Held s X → X.length ≤ 8
theorem short_clock {rooms : List Int} {s : WS} (hs : Short s) {e : Ev} (hg : 0 ≤ e.g) (hg8 : e.g < 8) : (clockL rooms s e).length ≤ 8 := by
  have hc : (comesL rooms s e).length ≤ 8 := by
    rcases comes_cases rooms s e with h | ⟨Y, hY, h⟩
    · rw [h]; exact hs _ (.own _)
    · rw [h]; have := joinL_length (s.own e.g) Y; have := hs _ (.own e.g); have := hs _ hY; omega
  unfold clockL tickL
  have := joinL_length (comesL rooms s e) (List.replicate e.g.toNat 0 ++ [getL (comesL rooms s e) e.g + 1])
  simp at this
  omega
theorem short_step {rooms : List Int} {s : WS} (hs : Short s) {e : Ev} (hg : 0 ≤ e.g) (hg8 : e.g < 8) : Short (stepL rooms s e) := fun X hX => by
  have hc := short_clock (rooms := rooms) hs hg hg8
  rcases held_step hX with h | h | ⟨Y, hY, h⟩
  · exact hs X h
  · rw [h]; exact hc
  · have h1 := joinL_length Y (clockL rooms s e)
    have h2 : Y.length ≤ 8 := by
      rcases hY with h | h
      · exact hs Y h
      · rw [h]; exact hc
    rw [h]; omega
theorem short_state {rooms : List Int} {l : List Ev} (hl : ∀ e ∈ l, 0 ≤ e.g ∧ e.g < 8) : ∀ k, k ≤ l.length → Short (stateL rooms WS.init (l.take k))
  | 0, _ => fun X hX => by rw [List.take_zero] at hX; rw [held_init hX]; exact Nat.zero_le _
  | k + 1, hk => by
    rw [take_snoc_ev' (show k < l.length by omega), stateL_snoc]
    have h := hl _ (getD_mem (d := default) (show k < l.length by omega))
    exact short_step (short_state hl k (by omega)) h.1 h.2
/-- An event's clock is the row of counts of what happens before. -/
theorem clock_list {rooms : List Int} {l : List Ev} (hl : ∀ e ∈ l, 0 ≤ e.g ∧ e.g < 8) {j : Nat} (hj : j < l.length) : (clocksL rooms l).getD j [] = ckList rooms l j := by
  have hc := clock_counts (rooms := rooms) (fun e he => (hl e he).1) j hj
  have h1 : ∃ a b, (clocksL rooms l).getD j [] = joinL a b := by rw [clocksL_getD' rooms hj]; exact ⟨_, _, rfl⟩
  have h2 : ((clocksL rooms l).getD j []).length ≤ 8 := by
    rw [clocksL_getD' rooms hj]
    have h := hl _ (getD_mem (d := default) hj)
    exact short_clock (short_state hl j (by omega)) h.1 h.2
  generalize (clocksL rooms l).getD j [] = X at hc h1 h2
  obtain ⟨a, b, rfl⟩ := h1
  rw [canon (joinL_trim a b) (joinL_nonneg a b) h2]
  unfold ckList
  refine congrArg trimL (List.map_congr_left fun h _ => hc h)

/-! ### races as the document tells them -/
/-- Is event i a racing access ahead of event j? hb: what happens before. -/
def rival (hb : Nat → Nat → Bool) (l : List Ev) (j i : Nat) : Bool :=
  isAcc (l.getD i default) && decide ((l.getD i default).obj = (l.getD j default).obj) && !decide ((l.getD i default).g = (l.getD j default).g) && !(decide ((l.getD i default).kind = 1) && decide ((l.getD j default).kind = 1)) && !hb i j
def firstStep (hb : Nat → Nat → Bool) (l : List Ev) (j : Nat) (f : Option Nat) (i : Nat) : Option Nat :=
  if rival hb l j i then
    match f with
    | none => some i
    | some f => if decide ((l.getD i default).kind = 2) || (decide ((l.getD f default).kind = 1) && decide ((l.getD i default).g ≤ (l.getD f default).g)) then some i else some f
  else f
def firstL (hb : Nat → Nat → Bool) (l : List Ev) (j k : Nat) : Option Nat := (List.range k).foldl (firstStep hb l j) none
theorem firstL_succ (hb : Nat → Nat → Bool) (l : List Ev) (j k : Nat) : firstL hb l j (k + 1) = firstStep hb l j (firstL hb l j k) k := by
  unfold firstL; rw [List.range_succ, List.foldl_append]; rfl
/-- A race laid into a row by rising places. -/
def layR (r : RaceR) : List RaceR → List RaceR
  | [] => [r]
  | a :: t => if a.place ≤ r.place then a :: layR r t else r :: a :: t
structure RefS where
  out : List RaceR
  done : Int → Bool
def raceAt (l : List Ev) (j f : Nat) : RaceR := ⟨(l.getD j default).obj, (l.getD f default).at_, (l.getD j default).at_, decide ((l.getD f default).kind = 2), decide ((l.getD j default).kind = 2)⟩
def refStep (hb : Nat → Nat → Bool) (l : List Ev) (s : RefS) (j : Nat) : RefS :=
  if isAcc (l.getD j default) && !s.done (l.getD j default).obj then
    match firstL hb l j j with
    | none => s
    | some f => ⟨layR (raceAt l j f) s.out, upd s.done (l.getD j default).obj true⟩
  else s
def refSt (hb : Nat → Nat → Bool) (l : List Ev) (k : Nat) : RefS := (List.range k).foldl (refStep hb l) ⟨[], fun _ => false⟩
theorem refSt_succ (hb : Nat → Nat → Bool) (l : List Ev) (k : Nat) : refSt hb l (k + 1) = refStep hb l (refSt hb l k) k := by
  unfold refSt; rw [List.range_succ, List.foldl_append]; rfl
def refRacesL (hb : Nat → Nat → Bool) (l : List Ev) : List RaceR := (refSt hb l l.length).out

/-! the accesses of a place so far -/
def accsTo (l : List Ev) (p : Int) (k : Nat) : List Acc := ((List.range k).filter fun i => isAcc (l.getD i default) && decide ((l.getD i default).obj = p)).map fun i => ⟨l.getD i default, i⟩
theorem accsTo_succ (l : List Ev) (p : Int) (k : Nat) : accsTo l p (k + 1) = accsTo l p k ++ if isAcc (l.getD k default) && decide ((l.getD k default).obj = p) then [⟨l.getD k default, k⟩] else [] := by
  unfold accsTo
  rw [List.range_succ, List.filter_append, List.map_append]
  congr 1
  rw [List.filter_cons]
  split <;> simp
theorem seen_accs (l : List Ev) (L : List (List Int)) : ∀ k p, (racesSt l L k).seen p = accsTo l p k
  | 0, p => rfl
  | k + 1, p => by
    have ih := seen_accs l L k
    rw [racesSt_succ, accsTo_succ, ← ih p]
    unfold stepRace
    by_cases ha : isAcc (l.getD k default) = true
    · rw [if_pos ha, ha]
      show upd (racesSt l L k).seen (l.getD k default).obj _ p = _
      by_cases hp : p = (l.getD k default).obj
      · rw [hp, upd_same]; simp
      · rw [upd_other _ _ hp, if_neg (by simp; exact fun e => hp e.symm)]; simp
    · rw [if_neg ha, if_neg (by simp only [Bool.and_eq_true]; exact fun h => ha h.1)]; simp
/-- The rivals so far, as accesses. -/
def rivalsTo (hb : Nat → Nat → Bool) (l : List Ev) (j k : Nat) : List Acc := ((List.range k).filter (rival hb l j)).map fun i => ⟨l.getD i default, i⟩
theorem rivalsTo_succ (hb : Nat → Nat → Bool) (l : List Ev) (j k : Nat) : rivalsTo hb l j (k + 1) = rivalsTo hb l j k ++ if rival hb l j k then [⟨l.getD k default, k⟩] else [] := by
  unfold rivalsTo
  rw [List.range_succ, List.filter_append, List.map_append]
  congr 1
  rw [List.filter_cons]
  split <;> simp
def firstOf : List Acc → Option Acc
  | [] => none
  | a :: t => some (t.foldl pick a)
theorem firstOf_snoc (t : List Acc) (a : Acc) : firstOf (t ++ [a]) = some (match firstOf t with | none => a | some b => pick b a) := by
  cases t with
  | nil => rfl
  | cons b t => simp [firstOf, List.foldl_append]
theorem first_pick {hb : Nat → Nat → Bool} {l : List Ev} {j : Nat} : ∀ k, firstOf (rivalsTo hb l j k) = (firstL hb l j k).map (fun i => ⟨l.getD i default, i⟩) ∧ ∀ f, firstL hb l j k = some f → f < k ∧ isAcc (l.getD f default) = true
  | 0 => ⟨rfl, fun f h => by simp [firstL] at h⟩
  | k + 1 => by
    obtain ⟨ih1, ih2⟩ := first_pick (hb := hb) (l := l) (j := j) k
    rw [rivalsTo_succ, firstL_succ]
    unfold firstStep
    by_cases hr : rival hb l j k = true
    · rw [if_pos hr, if_pos hr, firstOf_snoc, ih1]
      have hak : isAcc (l.getD k default) = true := by unfold rival at hr; simp only [Bool.and_eq_true] at hr; exact hr.1.1.1.1
      cases hf : firstL hb l j k with
      | none => exact ⟨rfl, fun f h => by cases h; exact ⟨by omega, hak⟩⟩
      | some f =>
        obtain ⟨h1, h2⟩ := ih2 f hf
        simp only [Option.map_some]
        have hb1 : better ⟨l.getD f default, f⟩ ⟨l.getD k default, k⟩ = (decide ((l.getD k default).kind = 2) || (decide ((l.getD f default).kind = 1) && decide ((l.getD k default).g ≤ (l.getD f default).g))) := by
          unfold isAcc at hak h2
          unfold better Acc.w
          simp only [Bool.or_eq_true, decide_eq_true_eq] at hak h2
          simp only [h1, decide_true, Bool.or_true, Bool.and_true]
          rcases hak with e | e
          · rcases h2 with e2 | e2
            · rw [e, e2]; simp
            · rw [e, e2]; simp
          · rw [e]; simp
        unfold pick
        rw [hb1]
        split
        · exact ⟨rfl, fun f' h => by cases h; exact ⟨by omega, hak⟩⟩
        · exact ⟨rfl, fun f' h => by cases h; exact ⟨by omega, h2⟩⟩
    · rw [if_neg hr, if_neg hr, List.append_nil]
      exact ⟨ih1, fun f h => by have := ih2 f h; exact ⟨by omega, this.2⟩⟩
theorem racers_rivals {l : List Ev} {L : List (List Int)} {hb : Nat → Nat → Bool} {j : Nat} (hj : isAcc (l.getD j default) = true) (hh : ∀ i, i < j → aheadL l L i j = hb i j) :
    racers l L (racesSt l L j) j = rivalsTo hb l j j := by
  unfold racers rivalsTo
  rw [seen_accs]
  unfold accsTo
  rw [List.filter_map, List.filter_filter]
  refine congrArg _ (List.filter_congr fun i hi => ?_)
  have hi := List.mem_range.1 hi
  unfold rival clash Acc.w
  simp only [Function.comp]
  rw [hh i hi]
  cases ha : isAcc (l.getD i default) with
  | false => simp
  | true =>
    have e : (decide ((l.getD i default).kind = 2) || decide ((l.getD j default).kind = 2)) = !(decide ((l.getD i default).kind = 1) && decide ((l.getD j default).kind = 1)) := by
      unfold isAcc at ha hj
      simp only [Bool.or_eq_true, decide_eq_true_eq] at ha hj
      rcases ha with e | e <;> rcases hj with e2 | e2 <;> rw [e, e2] <;> rfl
    rw [e]
    cases decide ((l.getD i default).obj = (l.getD j default).obj) <;> cases h2 : decide ((l.getD i default).g = (l.getD j default).g) <;> simp_all

theorem layR_perm (r : RaceR) : ∀ l : List RaceR, (layR r l).Perm (r :: l)
  | [] => List.Perm.refl _
  | a :: t => by
    unfold layR
    split
    · exact ((layR_perm r t).cons a).trans (List.Perm.swap r a t)
    · exact List.Perm.refl _
def risingR (l : List RaceR) : Prop := l.Pairwise fun a b => a.place < b.place
theorem layR_rising {r : RaceR} : ∀ {l : List RaceR}, risingR l → (∀ a ∈ l, a.place ≠ r.place) → risingR (layR r l)
  | [], _, _ => by unfold layR risingR; simp
  | a :: t, h, hn => by
    unfold risingR at h
    rw [List.pairwise_cons] at h
    unfold layR
    split
    · rename_i hle
      have h1 := layR_rising (r := r) h.2 (fun b hb => hn b (List.mem_cons_of_mem _ hb))
      unfold risingR at h1 ⊢
      rw [List.pairwise_cons]
      refine ⟨fun b hb => ?_, h1⟩
      rcases List.mem_cons.1 ((layR_perm r t).mem_iff.1 hb) with rfl | hb
      · have := hn a (List.mem_cons_self ..); omega
      · exact h.1 b hb
    · rename_i hlt
      unfold risingR
      rw [List.pairwise_cons, List.pairwise_cons]
      refine ⟨fun b hb => ?_, h.1, h.2⟩
      rcases List.mem_cons.1 hb with rfl | hb
      · omega
      · have := h.1 b hb; omega
theorem rising_inj : ∀ {l : List RaceR}, risingR l → ∀ x ∈ l, ∀ y ∈ l, x.place = y.place → x = y
  | [], _, x, hx, _, _, _ => by cases hx
  | a :: t, h, x, hx, y, hy, e => by
    unfold risingR at h
    rw [List.pairwise_cons] at h
    rcases List.mem_cons.1 hx with h1 | h1 <;> rcases List.mem_cons.1 hy with h2 | h2
    · rw [h1, h2]
    · have := h.1 y h2; rw [h1] at e; omega
    · have := h.1 x h1; rw [h2] at e; omega
    · exact rising_inj h.2 x h1 y h2 e
theorem rising_unique : ∀ {a b : List RaceR}, risingR a → risingR b → a.Perm b → a = b := by
  intro a b ha hb hp
  refine List.Perm.eq_of_pairwise (le := fun x y => x.place ≤ y.place) (fun x y hx hy h1 h2 => ?_) (ha.imp fun h => by omega) (hb.imp fun h => by omega) hp
  exact rising_inj ha x hx y (hp.symm.mem_iff.1 hy) (by omega)
def foundR (s : RS) (p : Int) : RaceR := (s.found p).getD default
def PlaceOk (s : RS) : Prop := ∀ p r, s.found p = some r → r.place = p
theorem place_state (l : List Ev) (L : List (List Int)) : ∀ k, PlaceOk (racesSt l L k)
  | 0 => fun p r h => by simp [racesSt, RS.init] at h
  | k + 1 => by
    have ih := place_state l L k
    rw [racesSt_succ]
    intro p r h
    unfold stepRace at h
    split at h
    · dsimp only at h
      split at h
      · exact ih p r h
      · by_cases hp : p = (l.getD k default).obj
        · rw [hp, upd_same] at h
          cases h
          exact hp.symm
        · rw [upd_other _ _ hp] at h
          exact ih p r h
    · exact ih p r h
theorem racesOf_rising {s : RS} (hs : s.Ok) (hp : PlaceOk s) : risingR (racesOf s) := by
  unfold risingR racesOf
  rw [List.pairwise_map]
  have hsort := List.pairwise_mergeSort (le := leInt) (fun a b c h1 h2 => by unfold leInt at *; simp at *; omega) (fun a b => by unfold leInt; simp; omega) s.places
  have hnd : (s.places.mergeSort leInt).Nodup := (List.mergeSort_perm s.places leInt).nodup_iff.2 hs.1
  have hpl : ∀ p ∈ s.places.mergeSort leInt, ((s.found p).getD default).place = p := fun p hm => by
    rw [List.mem_mergeSort, hs.2 p] at hm
    obtain ⟨r, hr⟩ := Option.isSome_iff_exists.1 hm
    rw [hr]; exact hp p r hr
  have hboth := List.Pairwise.and hsort hnd
  refine List.Pairwise.imp_of_mem (fun {a b} ha hb h => ?_) hboth
  rw [hpl a ha, hpl b hb]
  have h1 := h.1
  unfold leInt at h1
  simp at h1
  have := h.2
  omega
theorem racesOf_perm {s : RS} {p : Int} {r : RaceR} (hn : p ∉ s.places) {seen : Int → List Acc} : (racesOf ⟨seen, upd s.found p (some r), s.places ++ [p]⟩).Perm (r :: racesOf s) := by
  unfold racesOf
  simp only
  have h1 : ((s.places ++ [p]).mergeSort leInt).Perm (p :: s.places.mergeSort leInt) :=
    (List.mergeSort_perm _ _).trans ((List.perm_append_comm).trans ((List.mergeSort_perm s.places leInt).symm.cons p))
  refine (h1.map _).trans ?_
  rw [List.map_cons, upd_same, Option.getD_some]
  refine List.Perm.of_eq (congrArg _ (List.map_congr_left fun q hq => ?_))
  rw [List.mem_mergeSort] at hq
  rw [upd_other _ _ (fun e => hn (by rw [← e]; exact hq))]
/-- The document's races are those of the walker's state. -/
theorem ref_races {l : List Ev} {L : List (List Int)} {hb : Nat → Nat → Bool} (hh : ∀ i j, i < j → j < l.length → aheadL l L i j = hb i j) :
    ∀ k, k ≤ l.length → (refSt hb l k).out = racesOf (racesSt l L k) ∧ ∀ p, (refSt hb l k).done p = ((racesSt l L k).found p).isSome
  | 0, _ => ⟨by simp [refSt, racesSt, RS.init, racesOf], fun _ => rfl⟩
  | k + 1, hk => by
    obtain ⟨ih1, ih2⟩ := ref_races hh k (by omega)
    have hok := ok_state l L k
    have hpo := place_state l L k
    have hok' := ok_state l L (k + 1)
    have hpo' := place_state l L (k + 1)
    rw [racesSt_succ] at hok' hpo'
    rw [refSt_succ, racesSt_succ]
    unfold refStep
    unfold stepRace at hok' hpo' ⊢
    by_cases ha : isAcc (l.getD k default) = true
    · rw [if_pos ha] at hok' hpo' ⊢
      rw [ha, Bool.true_and, ih2]
      have hR := racers_rivals (hb := hb) ha (fun i hi => hh i k hi (by omega))
      have hfp := (first_pick (hb := hb) (l := l) (j := k) k)
      rw [hR] at hok' hpo' ⊢
      cases hfd : ((racesSt l L k).found (l.getD k default).obj).isSome with
      | true =>
        simp only [Bool.not_true, Bool.or_true, if_true]
        exact ⟨ih1, ih2⟩
      | false =>
        rw [hfd] at hok' hpo'
        simp only [Bool.not_false, if_true, Bool.or_false]
        simp only [Bool.or_false] at hok' hpo'
        cases hf : firstL hb l k k with
        | none =>
          rw [hf] at hfp
          have hnil : rivalsTo hb l k k = [] := by
            cases hq : rivalsTo hb l k k with
            | nil => rfl
            | cons a t => rw [hq] at hfp; simp [firstOf] at hfp
          rw [hnil]
          exact ⟨ih1, ih2⟩
        | some f =>
          rw [hf] at hfp
          obtain ⟨a, t, hq⟩ : ∃ a t, rivalsTo hb l k k = a :: t := by
            cases hq : rivalsTo hb l k k with
            | nil => rw [hq] at hfp; simp [firstOf] at hfp
            | cons a t => exact ⟨a, t, rfl⟩
          have hch : chosenL (rivalsTo hb l k k) = ⟨l.getD f default, f⟩ := by
            have := hfp.1
            rw [hq] at this ⊢
            simp only [firstOf, Option.map_some, Option.some.injEq] at this
            exact this
          have hne : (rivalsTo hb l k k).isEmpty = false := by rw [hq]; rfl
          rw [hne] at hok' hpo' ⊢
          simp only [Bool.false_eq_true, if_false] at hok' hpo' ⊢
          rw [hch] at hok' hpo' ⊢
          have hmk : mkRace ⟨l.getD f default, f⟩ ⟨l.getD k default, k⟩ = raceAt l k f := rfl
          rw [hmk] at hok' hpo' ⊢
          have hni : (l.getD k default).obj ∉ (racesSt l L k).places := fun hm => by rw [(hok.2 _).1 hm] at hfd; cases hfd
          refine ⟨?_, fun p => ?_⟩
          · rw [ih1]
            have hr1 := racesOf_rising hok hpo
            refine rising_unique (layR_rising hr1 fun x hx => ?_) (racesOf_rising hok' hpo') ((layR_perm _ _).trans (racesOf_perm hni).symm)
            rw [mem_racesOf hok] at hx
            obtain ⟨q, hq⟩ := hx
            rw [hpo q x hq]
            intro e
            have e : q = (l.getD k default).obj := e
            rw [← e, hq] at hfd
            cases hfd
          · by_cases hp : p = (l.getD k default).obj
            · rw [hp, upd_same, upd_same]; rfl
            · rw [upd_other _ _ hp, upd_other _ _ hp]; exact ih2 p
    · rw [if_neg ha]
      have : isAcc (l.getD k default) = false := by simpa using ha
      rw [this]
      simp only [Bool.false_and, Bool.false_eq_true, if_false]
      exact ⟨ih1, ih2⟩
theorem ref_races_all {rooms : List Int} {l : List Ev} (hl : ∀ e ∈ l, 0 ≤ e.g) : refRacesL (hbL rooms l) l = racesL rooms l :=
  (ref_races (fun _ _ hij hj => ahead_hb hl hij hj) _ (Nat.le_refl _)).1
end Go.Proofs.YtkjbpkggcddnhaaDoor
