/- The walk of order.Races. -/
import Derived.Test.YtkjbpkggcddnhaaDoorRaceMem
import Derived.Test.YtkjbpkggcddnhaaDoorChosen
import Derived.Test.YtkjbpkggcddnhaaDoorRacesPure
import Derived.Deep.LoopGhost
import Derived.Deep.CutRange
import Derived.Deep.CutBlock
namespace Go.Proofs.YtkjbpkggcddnhaaDoor
set_option linter.unusedVariables false
set_option linter.unusedSimpArgs false
open Go.RowKit Go.Maps

def raceCells (r : RaceR) : List Value := [.int .i64 r.place, .int .i64 r.first, .int .i64 r.second, .bool r.fw, .bool r.sw]
/-- v reads as races. -/
def RacesAt (w : World) (v : Value) (rs : List RaceR) : Prop := SlAt w v 5 rs.length (rs.flatMap raceCells)
/-- What Races hands back. -/
def RacesPost (w : World) (rooms : List Int) (l : List Ev) (er : Value) (e : Ending) (w' : World) : Prop :=
  Below w.heap.size w w' ∧ (l.all evForm = false ∧ e = .returned (.tuple #[.slice none 0 0, er]) ∨ l.all evForm = true ∧ ∃ v, e = .returned (.tuple #[v, .nilIface]) ∧ RacesAt w' v (racesL rooms l))
theorem info_acc : (Tryd.prog.info? 84).map (fun i => (i.zero, i.size, i.bytes)) = some (some (.agg #[.int .i64 0, .int .i64 0, .int .i64 0, .int .i64 0, .int .i64 0]), 5, 40) := by kernel_rfl
theorem info_race : (Tryd.prog.info? 72).map (fun i => (i.zero, i.size, i.bytes)) = some (some (.agg #[.int .i64 0, .int .i64 0, .int .i64 0, .bool false, .bool false]), 5, 32) := by kernel_rfl

section
variable {l : List Ev} {L : List (List Int)} {k : Nat}
theorem step_seen (h : isAcc (l.getD k default) = true) : (racesSt l L (k + 1)).seen = upd (racesSt l L k).seen (l.getD k default).obj ((racesSt l L k).seen (l.getD k default).obj ++ [⟨l.getD k default, k⟩]) := by
  rw [racesSt_succ]; unfold stepRace; rw [if_pos h]
theorem step_found_same (hc : (racers l L (racesSt l L k) k).isEmpty = true ∨ ((racesSt l L k).found (l.getD k default).obj).isSome = true) : (racesSt l L (k + 1)).found = (racesSt l L k).found := by
  rw [racesSt_succ]
  unfold stepRace
  split
  · dsimp only
    rw [if_pos]
    rcases hc with h | h <;> rw [h] <;> simp
  · rfl
theorem step_found_new (h : isAcc (l.getD k default) = true) (h1 : (racers l L (racesSt l L k) k).isEmpty = false) (h2 : ((racesSt l L k).found (l.getD k default).obj).isSome = false) :
    (racesSt l L (k + 1)).found = upd (racesSt l L k).found (l.getD k default).obj (some (mkRace (chosenL (racers l L (racesSt l L k) k)) ⟨l.getD k default, k⟩)) := by
  rw [racesSt_succ]
  unfold stepRace
  rw [if_pos h, h1, h2]
  rfl
end
theorem place_obj (l : List Ev) (L : List (List Int)) : ∀ k, ∀ p ∈ (racesSt l L k).places, ∃ i, i < k ∧ (l.getD i default).obj = p
  | 0, p, h => by simp [racesSt, RS.init] at h
  | k + 1, p, h => by
    have ih := place_obj l L k
    rw [racesSt_succ] at h
    unfold stepRace at h
    split at h
    · dsimp only at h
      split at h
      · obtain ⟨i, hi, e⟩ := ih p h; exact ⟨i, by omega, e⟩
      · rcases List.mem_append.1 h with h | h
        · obtain ⟨i, hi, e⟩ := ih p h; exact ⟨i, by omega, e⟩
        · exact ⟨k, by omega, (List.mem_singleton.1 h).symm⟩
    · obtain ⟨i, hi, e⟩ := ih p h; exact ⟨i, by omega, e⟩
theorem RcInv.rowgt {w1 wr : World} {M : Nat} {seen : Int → List Acc} {found : Int → Option RaceR} {n : Nat} {ρ : Nat → Option Int} {f1 f2 : Int → Option Value} (h : RcInv w1 M seen found n wr ρ f1 f2) (p : Int) :
    ∀ b, ((f1 p).getD (.slice none 0 0)).ownBlock = some b → M + 1 < b := fun b hb => by
  cases hf : f1 p with
  | none => rw [hf] at hb; simp [Value.ownBlock] at hb
  | some v => rw [hf] at hb; exact ((h.som p v hf).2 b hb).2
/-- What the region that appends to a place's accesses reads. -/
def SAp (E M : Nat) (g kd ob ea : Int) (k : Nat) (sl : Value) (x : World) : Prop :=
  x.cell? ⟨E, 2, none⟩ = some (.int .i64 ob) ∧ x.cell? ⟨E + 1, 0, none⟩ = some (.int .i64 g) ∧ x.cell? ⟨E + 1, 1, none⟩ = some (.int .i64 kd) ∧ x.cell? ⟨E + 1, 2, none⟩ = some (.int .i64 ob) ∧ x.cell? ⟨E + 1, 3, none⟩ = some (.int .i64 ea) ∧
  x.cell? ⟨E + 1, 4, none⟩ = some (.int .i64 k) ∧ (Instr.lookup 81 (.map (some M)) (.int .i64 ob) false).run Tryd.prog x = .ok sl x
/-- What the region that notes a race reads. -/
def SRc (E C : Nat) (e : Ev) (k : Nat) (c : Acc) (x : World) : Prop :=
  x.cell? ⟨E, 2, none⟩ = some (.int .i64 e.obj) ∧ x.cell? ⟨E, 3, none⟩ = some (.int .i64 e.at_) ∧
  (x.cell? ⟨E + 1, 0, none⟩ = some (.int .i64 e.g) ∧ x.cell? ⟨E + 1, 1, none⟩ = some (.int .i64 e.kind) ∧ x.cell? ⟨E + 1, 2, none⟩ = some (.int .i64 e.obj) ∧ x.cell? ⟨E + 1, 3, none⟩ = some (.int .i64 e.at_) ∧ x.cell? ⟨E + 1, 4, none⟩ = some (.int .i64 k)) ∧
  (x.cell? ⟨C, 0, none⟩ = some (.int .i64 c.ev.g) ∧ x.cell? ⟨C, 1, none⟩ = some (.int .i64 c.ev.kind) ∧ x.cell? ⟨C, 2, none⟩ = some (.int .i64 c.ev.obj) ∧ x.cell? ⟨C, 3, none⟩ = some (.int .i64 c.ev.at_) ∧ x.cell? ⟨C, 4, none⟩ = some (.int .i64 c.at_))

set_option maxRecDepth 100000 in
set_option maxHeartbeats 8000000 in
theorem races_any {w : World} {vt vr : Value} {l : List Ev} {rooms : List Int} {T : TypeId} {ev0 : Value} (ht : Trace l rooms) (hev : Evs w vt l) (hr : Ints w vr rooms) (her : w.cell? ⟨0, 0, none⟩ = some (.iface T ev0)) :
    Calls Tryd.prog 15 #[vt, vr] w (RacesPost w rooms l (.iface T ev0)) := by
  have hmm := @run_makeMap Tryd.prog
  obtain ⟨at', ct, rfl⟩ := hev.shape
  have Hcall := Lib.hid (clocks_any ht hev hr her)
  have Hev := Lib.hid hev
  have hlen := ht.len
  have Ht := Lib.hid ht
  obtain ⟨ar, cr, rfl⟩ := hr.shape
  clear hev hr ht
  go_enter Tryd.func15, Tryd.ntmps15
  go_wp2_with fail
  refine Hcall.out.mono ?_
  clear Hcall
  rintro e w1 ⟨hb1, hres⟩
  have Hb1 := Lib.hid hb1
  clear hb1
  rcases hres with ⟨hf, rfl⟩ | ⟨hf, v, rfl, hck⟩
  · have Hf := Lib.hid hf
    clear hf
    go_wp2_with fail
    go_ret2
    exact ⟨Hb1.out, .inl ⟨Hf.out, rfl⟩⟩
  · have Hf := Lib.hid hf
    clear hf
    obtain ⟨ac, cc, rfl⟩ := hck.shape
    have Hck := Lib.hid hck
    clear hck
    have hL : (clocksL rooms l).length = l.length := clocksL_length rooms l
    generalize hLd : clocksL rooms l = L at hL Hck
    have HLd := Lib.hid hLd
    clear hLd
    go_wp2
    have Hstart := Lib.hid (RcInv.made w1)
    generalize hw0 : (w1.alloc (.map #[] 0)).alloc (.map #[] 0) = w0 at Hstart ⊢
    clear hw0
    obtain ⟨M, hM⟩ : ∃ M, M = w1.heap.size := ⟨_, rfl⟩
    rw [← hM] at Hstart ⊢
    have HM := Lib.hid hM
    clear hM
    go_loopg [10, 11, 12, 13, 15, 16, 17, 18, 35] (l.length) (fun gk s10 s11 s12 s13 s15 s16 s17 s18 i wr => ∃ (k : Nat) (ρ : Nat → Option Int) (f1 f2 : Int → Option Value), k ≤ l.length ∧ gk = l.length - k ∧ i = .int .i64 k ∧
      RcInv w1 M (racesSt l L k).seen (racesSt l L k).found (2 * k) wr ρ f1 f2)
    case atStart => exact ⟨0, _, _, _, Nat.zero_le _, rfl, rfl, Hstart.out⟩
    case round =>
      obtain ⟨k, ρ, f1, f2, hk, rfl, rfl, hinv⟩ := hrel
      obtain ⟨wo, rfl⟩ : ∃ x, x = wr := ⟨_, rfl⟩
      have Hinv := Lib.hid hinv
      by_cases hlt : k < l.length
      · obtain ⟨be, oe, ce, he, hbe, c0, c1, c2, c3⟩ := Hev.out.at hlt
        cases he
        have hb := (Hb1.out.trans (hinv.below.mono Hb1.out.size))
        rw [← hb.cell (World.block_lt_of_cell? w _ c0)] at c0
        rw [← hb.cell (World.block_lt_of_cell? w _ c1)] at c1
        rw [← hb.cell (World.block_lt_of_cell? w _ c2)] at c2
        rw [← hb.cell (World.block_lt_of_cell? w _ c3)] at c3
        have Hb := Lib.hid hb
        clear hb hinv
        generalize hev1 : l.getD k default = ev at c0 c1 c2 c3
        have Hev1 := Lib.hid hev1
        clear hev1
        obtain ⟨g, kd, ob, ea⟩ := ev
        simp only at c0 c1 c2 c3
        have hklt : (k : Int) < (l.length : Int) := by omega
        go_upto_region 10 with fail
        go_cut [10, 11, 12, 50] from 36 to 130 (fun s10 s11 s12 s50 wx => s10 = .int .i64 k ∧ s11 = .pointer (some ⟨wo.heap.size, 0, none⟩) ∧ s12 = .pointer (some ⟨wo.heap.size + 1, 0, none⟩) ∧ s50 = .bool (!isAcc ⟨g, kd, ob, ea⟩) ∧
          (Below wo.heap.size wo wx ∧ EvAt wx wo.heap.size ⟨g, kd, ob, ea⟩ ∧ AccAt wx (wo.heap.size + 1) ⟨⟨g, kd, ob, ea⟩, k⟩))
        case first =>
          have he := EvAt.made wo ⟨g, kd, ob, ea⟩ 38
          have ha := AccAt.made (wo.alloc (.cells #[.int .i64 g, .int .i64 kd, .int .i64 ob, .int .i64 ea] 38)) ⟨⟨g, kd, ob, ea⟩, k⟩ 84
          rw [World.size_alloc] at ha
          have hbb := bal (bal ⟨Below.refl wo.heap.size wo, Nat.le_refl _⟩ (.cells #[.int .i64 g, .int .i64 kd, .int .i64 ob, .int .i64 ea] 38)) (.cells #[.int .i64 g, .int .i64 kd, .int .i64 ob, .int .i64 ea, .int .i64 k] 84)
          have He := Lib.hid (he.alloc (.cells #[.int .i64 g, .int .i64 kd, .int .i64 ob, .int .i64 ea, .int .i64 k] 84))
          have Ha := Lib.hid ha
          have Hbb := Lib.hid hbb
          clear he ha hbb
          by_cases h1 : kd = 1
          · obtain rfl : kd = 1 := h1
            go_wp2_with fail
            go_meet
            exact ⟨rfl, rfl, rfl, rfl, Hbb.out.1, He.out, Ha.out⟩
          · have h1' : (kd == 1) = false := beq_false_of_ne h1
            by_cases h2 : kd = 2
            · obtain rfl : kd = 2 := h2
              go_wp2_with (go_at_call 43; refine (writes_any _ _ _ _ _ _).mono ?_; rintro e w' ⟨rfl, rfl⟩)
              go_meet
              exact ⟨rfl, rfl, rfl, rfl, (bal Hbb.out _).1, He.out.alloc _, Ha.out.alloc _⟩
            · have h2' : (kd == 2) = false := beq_false_of_ne h2
              have hac : isAcc ⟨g, kd, ob, ea⟩ = false := by simp [isAcc, h1, h2]
              have Hac := Lib.hid hac
              clear hac
              go_wp2_with (go_at_call 43; refine (writes_any _ _ _ _ _ _).mono ?_; rintro e w' ⟨rfl, rfl⟩)
              go_meet
              exact ⟨rfl, rfl, rfl, congrArg Value.bool (by rw [Hac.out]; simp [h1]), (bal Hbb.out _).1, He.out.alloc _, Ha.out.alloc _⟩
        case rest =>
          obtain ⟨rfl, rfl, rfl, rfl, hcut⟩ := hcut
          obtain ⟨E, hE⟩ : ∃ E, E = wo.heap.size := ⟨_, rfl⟩
          have Hinvx0 := Lib.hid (Hinv.out.new hcut.1)
          have hcut2 := hcut.2
          have hwc0 := hcut.1.size
          have hrowlt : ∀ b, ((f1 ob).getD (.slice none 0 0)).ownBlock = some b → b < wo.heap.size := fun b hb => ((Hinv.out.row ob).lt b hb).2
          have hME := Hinv.out.m2.lt
          rw [← hE] at hcut2 hwc0 hrowlt hME ⊢
          have Hcut := Lib.hid hcut2
          have Hrowlt := Lib.hid hrowlt
          clear hcut hcut2 hE hrowlt c0 c1 c2 c3
          obtain ⟨wE, rfl⟩ : ∃ x, x = wc := ⟨_, rfl⟩
          by_cases hacc : isAcc ⟨g, kd, ob, ea⟩ = true
          · rw [hacc]
            have Hacc := Lib.hid hacc
            clear hacc
            have hinvx := Hinvx0.out
            have hwf : (Lit.int .i64 ob).wf = true := by
              have h := Ht.out.obj (l.getD k default) (getD_mem hlt)
              rw [Hev1.out] at h
              exact h
            have hlook := hinvx.m1.lookup und_int Tryd.underlying81 (zero_accs _) hwf
            have hrow := hinvx.row ob
            obtain ⟨av, cv, hav⟩ := owns_shape_k hrow
            rw [hav] at hlook hrow
            have Hrow := Lib.hid hrow
            have Hav := Lib.hid hav
            have hsl := seen_length l L k ob
            have Hinvx := Lib.hid hinvx
            clear hinvx hrow hav
            have e0 := Hcut.out.1.c0
            have e1 := Hcut.out.1.c1
            have e2 := Hcut.out.1.c2
            have e3 := Hcut.out.1.c3
            simp only at e0 e1 e2 e3
            generalize hS : (racesSt l L k).seen ob = S at hlook Hrow hsl
            have HS := Lib.hid hS
            clear hS
            obtain ⟨ia, hia, iz0, iz1, iz2⟩ := info_parts info_acc
            have hE1 := Hcut.out.2.lt
            have hR : racers l L (racesSt l L k) k = S.filter (clash l L ⟨⟨g, kd, ob, ea⟩, k⟩) := by unfold racers; rw [Hev1.out, HS.out]
            have HR := Lib.hid hR
            clear hR
            go_upto_block 2 with fail
            go_cut [10, 11, 12, 13, 15] from 36 to 130 (fun s10 s11 s12 s13 s15 wx => s10 = .int .i64 k ∧ s11 = .pointer (some ⟨E, 0, none⟩) ∧ s12 = .pointer (some ⟨E + 1, 0, none⟩) ∧
              (Below wE.heap.size wE wx ∧ wx.ownsRow 0 84 5 s13 (racers l L (racesSt l L k) k).length ((racers l L (racesSt l L k) k).flatMap accCells) ∧ ∀ b, s13.ownBlock = some b → wE.heap.size ≤ b))
            case first =>
              go_wp2_with fail
              go_loopg [13, 15, 56] (S.length) (fun gk s13 s15 i wi => ∃ j : Nat, j ≤ S.length ∧ gk = S.length - j ∧ i = .int .i64 j ∧ Below wE.heap.size wE wi ∧
                wi.ownsRow 0 84 5 s13 ((S.take j).filter (clash l L ⟨⟨g, kd, ob, ea⟩, k⟩)).length (((S.take j).filter (clash l L ⟨⟨g, kd, ob, ea⟩, k⟩)).flatMap accCells) ∧ ∀ b, s13.ownBlock = some b → wE.heap.size ≤ b)
              case atStart => exact ⟨0, Nat.zero_le _, rfl, rfl, Below.refl _ _, ⟨rfl, .inl ⟨rfl, rfl⟩⟩, fun b hb => by simp [Value.ownBlock] at hb⟩
              case round =>
                obtain ⟨j, hj, rfl, rfl, hbi, howni, hgei⟩ := hrel
                by_cases hjl : j < S.length
                · have hacs : Accs wE (.slice av S.length cv) S := SlAt.of_owns Hrow.out (by omega)
                  obtain ⟨bs, os, cs, hes, hbs, _, _, hcs⟩ := hacs.at hjl
                  cases hes
                  obtain ⟨x0, x1, x2, x3, x4⟩ := hcs j hjl
                  rw [← hbi.cell (World.block_lt_of_cell? wE _ x0)] at x0
                  rw [← hbi.cell (World.block_lt_of_cell? wE _ x1)] at x1
                  rw [← hbi.cell (World.block_lt_of_cell? wE _ x2)] at x2
                  rw [← hbi.cell (World.block_lt_of_cell? wE _ x3)] at x3
                  rw [← hbi.cell (World.block_lt_of_cell? wE _ x4)] at x4
                  have hbat := Hcut.out.2.new hbi
                  have y0 := hbat.c0
                  have y1 := hbat.c1
                  have y2 := hbat.c2
                  have y3 := hbat.c3
                  have y4 := hbat.c4
                  simp only at y0 y1 y2 y3 y4
                  have hjs : (j : Int) < (S.length : Int) := by omega
                  have hE2 := hbat.lt
                  have hE3 : E + 1 < wr.heap.size + 1 := by omega
                  have hE4 : E + 1 < wr.heap.size + 1 + 1 := by omega
                  have hE5 : E + 1 < wr.heap.size + 1 + 1 + 1 := by omega
                  obtain ⟨sv, sc, rfl⟩ := owns_shape_k howni
                  have hft := filter_take_succ (p := clash l L ⟨⟨g, kd, ob, ea⟩, k⟩) hjl
                  have hso := seenOk_state l L k ob (S.getD j default) (by rw [HS.out]; exact getD_mem hjl)
                  generalize S.getD j default = a at x0 x1 x2 x3 x4 hft hso
                  obtain ⟨⟨ag, ak, ao, aa⟩, ai⟩ := a
                  simp only at x0 x1 x2 x3 x4
                  have Hft := Lib.hid hft
                  have Hso := Lib.hid hso
                  have Hown := Lib.hid howni
                  have Hgei := Lib.hid hgei
                  have Hbi := Lib.hid hbi
                  have Hbat := Lib.hid hbat
                  clear hft hso howni hgei hbat hcs hacs
                  have hread : ∀ x, Below wr.heap.size wr x → Evs x (.slice (some ⟨be, oe, none⟩) l.length ct) l ∧ ClksAt x (.slice ac l.length cc) L := fun x hx => by
                    have hck2 := Hck.out
                    rw [hL] at hck2
                    have h1 : Below w1.heap.size w1 x := (Hinvx.out.below.trans (Hbi.out.mono Hinvx.out.below.size)).trans (hx.mono (Nat.le_trans Hinvx.out.below.size Hbi.out.size))
                    exact ⟨Hev.out.new (Hb1.out.trans (h1.mono Hb1.out.size)), hck2.new h1⟩
                  have Hread := Lib.hid hread
                  clear hread
                  have hai : ai < k := Hso.out.1
                  have hai2 : ai < l.length := by omega
                  have hai3 : ai < L.length := by omega
                  have hai4 : k < L.length := by omega
                  have Hah := Lib.hid (fun x (hx : Below wr.heap.size wr x) => ahead_any (Hread.out x hx).1 (Hread.out x hx).2 hai2 hai3 hai4)
                  have hmade := AccAt.made wr ⟨⟨ag, ak, ao, aa⟩, ai⟩ 84
                  have Hmade := Lib.hid hmade
                  have hbl := bal ⟨Below.refl wr.heap.size wr, Nat.le_refl _⟩ (.cells #[.int .i64 ag, .int .i64 ak, .int .i64 ao, .int .i64 aa, .int .i64 ai] 84)
                  have Hbl := Lib.hid hbl
                  clear hmade hbl
                  go_upto_region 15 with fail
                  go_cut [13, 15, 83] from 57 to 88 (fun s13 s15 s83 wx => s13 = .slice sv ((S.take j).filter (clash l L ⟨⟨g, kd, ob, ea⟩, k⟩)).length sc ∧ s15 = .pointer (some ⟨wr.heap.size, 0, none⟩) ∧ s83 = .bool (clash l L ⟨⟨g, kd, ob, ea⟩, k⟩ ⟨⟨ag, ak, ao, aa⟩, ai⟩) ∧
                    (Below wr.heap.size wr wx ∧ AccAt wx wr.heap.size ⟨⟨ag, ak, ao, aa⟩, ai⟩))
                  case first =>
                    have hcl : clash l L ⟨⟨g, kd, ob, ea⟩, k⟩ ⟨⟨ag, ak, ao, aa⟩, ai⟩ = (decide (ag ≠ g) && (decide (ak = 2) || decide (kd = 2)) && !aheadL l L ai k) := rfl
                    have Hcl := Lib.hid hcl
                    clear hcl
                    by_cases h1 : ag = g
                    · obtain rfl : ag = g := h1
                      go_wp2_with fail
                      go_meet
                      exact ⟨rfl, rfl, congrArg Value.bool (by rw [Hcl.out]; simp), Hbl.out.1, Hmade.out⟩
                    · have h1' : (ag == g) = false := beq_false_of_ne h1
                      by_cases h2 : ak = 2
                      · obtain rfl : ak = 2 := h2
                        go_wp2_with (first | (go_at_call 43; refine (writes_any _ _ _ _ _ _).mono ?_; rintro e w' ⟨rfl, rfl⟩) | (go_at_call 44; refine (Hah.out _ (bal Hbl.out _).1).mono ?_; rintro e w' ⟨rfl, hb'⟩))
                        go_meet
                        exact ⟨rfl, rfl, congrArg Value.bool (by rw [Hcl.out]; simp [h1]), (bal Hbl.out _).1.trans (hb'.mono (bal Hbl.out _).2), (Hmade.out.alloc _).new hb'⟩
                      · have h2' : (ak == 2) = false := beq_false_of_ne h2
                        by_cases h3 : kd = 2
                        · obtain rfl : kd = 2 := h3
                          go_wp2_with (first | (go_at_call 43; refine (writes_any _ _ _ _ _ _).mono ?_; rintro e w' ⟨rfl, rfl⟩) | (go_at_call 44; refine (Hah.out _ (bal (bal Hbl.out _) _).1).mono ?_; rintro e w' ⟨rfl, hb'⟩))
                          go_meet
                          exact ⟨rfl, rfl, congrArg Value.bool (by rw [Hcl.out]; simp [h1]), (bal (bal Hbl.out _) _).1.trans (hb'.mono (bal (bal Hbl.out _) _).2), ((Hmade.out.alloc _).alloc _).new hb'⟩
                        · have h3' : (kd == 2) = false := beq_false_of_ne h3
                          go_wp2_with (go_at_call 43; refine (writes_any _ _ _ _ _ _).mono ?_; rintro e w' ⟨rfl, rfl⟩)
                          go_meet
                          exact ⟨rfl, rfl, congrArg Value.bool (by rw [Hcl.out]; simp [h2, h3]), (bal (bal Hbl.out _) _).1, (Hmade.out.alloc _).alloc _⟩
                  case rest =>
                    obtain ⟨rfl, rfl, rfl, hbc, hac⟩ := hcut
                    have Hbc := Lib.hid (Hbi.out.trans (hbc.mono Hbi.out.size))
                    have Hbc2 := Lib.hid hbc
                    have hown1 := ownsRow_chg Hown.out (Chg.of_new (S := fun _ => False) hbc) (fun _ _ h => h)
                    have k0 := hac.c0
                    have k1 := hac.c1
                    have k2 := hac.c2
                    have k3 := hac.c3
                    have k4 := hac.c4
                    simp only at k0 k1 k2 k3 k4
                    have hblk : ∀ q, (Value.slice sv ((S.take j).filter (clash l L ⟨⟨g, kd, ob, ea⟩, k⟩)).length sc).ownBlock = some q → _ ≤ q := Hgei.out
                    have Hblk := Lib.hid hblk
                    have hjlen : ((S.take j).filter (clash l L ⟨⟨g, kd, ob, ea⟩, k⟩)).length ≤ 100000 := by
                      have h1 := List.length_filter_le (clash l L ⟨⟨g, kd, ob, ea⟩, k⟩) (S.take j)
                      have h2 : (S.take j).length ≤ S.length := by rw [List.length_take]; omega
                      omega
                    clear hbc hac hblk
                    by_cases hcl : clash l L ⟨⟨g, kd, ob, ea⟩, k⟩ ⟨⟨ag, ak, ao, aa⟩, ai⟩ = true
                    · have hft := Hft.out
                      rw [hcl, if_pos rfl] at hft
                      have Hft2 := Lib.hid hft
                      rw [hcl]
                      clear hft hcl
                      generalize hF : (S.take j).filter (clash l L ⟨⟨g, kd, ob, ea⟩, k⟩) = F at hown1 hjlen Hblk ⊢
                      have HF := Lib.hid hF
                      clear hF
                      have hown2 := ownsRow_chg hown1 (Chg.alloc (fun _ => False) wc (.cells #[.int .i64 ag, .int .i64 ak, .int .i64 ao, .int .i64 aa, .int .i64 ai] 84)) (fun _ _ h => h)
                      have hcells := new_cells wc [.int .i64 ag, .int .i64 ak, .int .i64 ao, .int .i64 aa, .int .i64 ai] 84
                      have hone : ∀ u ∈ [Value.int .i64 ag, .int .i64 ak, .int .i64 ao, .int .i64 aa, .int .i64 ai], u.oneCell' = true := by
                        intro u hu
                        simp at hu
                        rcases hu with rfl | rfl | rfl | rfl | rfl <;> rfl
                      have Hcells := Lib.hid hcells
                      have Hone := Lib.hid hone
                      clear hcells hone
                      go_wp2_with (at_builtin; refine wpList_append_k rfl _ _ 85 (by rfl) 84 ia _ 5 40 Tryd.underlying85 hia iz0 iz1 iz2 rfl (by decide) _ _ _ (by rfl) hown2 wc.heap.size 1 [.int .i64 ag, .int .i64 ak, .int .i64 ao, .int .i64 aa, .int .i64 ai] (by rfl) rfl Hcells.out Hone.out hjlen (by omega) ?_)
                      rintro vo' w4 hown4 hg4 hl4 q4 cp4 rfl
                      have hsz4 := Hbc.out.size
                      have hbel := (bal ⟨Hbc.out, hsz4⟩ (.cells #[.int .i64 ag, .int .i64 ak, .int .i64 ao, .int .i64 aa, .int .i64 ai] 84))
                      have hb4 := hbel.1.grown hg4 hbel.2 (fun q hq => Hblk.out q hq)
                      have hge4 : ∀ q, (Value.slice (some ⟨q4, 0, none⟩) (F.length + 1) cp4).ownBlock = some q → _ ≤ q := fun q hq => by
                        rcases hl4 with e | ⟨q', e, hq'⟩
                        · rw [e] at hq; exact Hblk.out q hq
                        · rw [e] at hq
                          obtain rfl := Option.some.inj hq
                          exact Nat.le_trans hbel.2 hq'
                      have Hown4 := Lib.hid hown4
                      have Hb4 := Lib.hid hb4
                      have Hge4 := Lib.hid hge4
                      clear hown4 hb4 hge4 hg4 hl4 hbel hown2 hown1
                      go_wp2
                      go_roundg (S.length - (j + 1))
                      case measure => omega
                      case rel =>
                        refine ⟨j + 1, by omega, rfl, by go_num, Hb4.out, ?_, Hge4.out⟩
                        rw [Hft2.out, HF.out, List.length_append, List.flatMap_append]
                        have h := Hown4.out
                        simpa [accCells] using h
                    · have hclf : clash l L ⟨⟨g, kd, ob, ea⟩, k⟩ ⟨⟨ag, ak, ao, aa⟩, ai⟩ = false := by simpa using hcl
                      have hft := Hft.out
                      rw [hclf] at hft
                      have Hft2 := Lib.hid hft
                      have Hown1 := Lib.hid hown1
                      rw [hclf]
                      clear hft hcl hclf hown1
                      go_wp2_with fail
                      go_roundg (S.length - (j + 1))
                      case measure => omega
                      case rel =>
                        refine ⟨j + 1, by omega, rfl, by go_num, Hbc.out, ?_, Hblk.out⟩
                        rw [Hft2.out]
                        simpa using Hown1.out
                · obtain rfl : j = S.length := by omega
                  rw [List.take_length, ← HR.out] at howni
                  obtain ⟨al, cl, rfl⟩ := owns_shape_k howni
                  have Hown := Lib.hid howni
                  clear howni
                  go_wp2_with fail
                  go_meet
                  exact ⟨rfl, rfl, rfl, hbi, Hown.out, hgei⟩
            case rest =>
              obtain ⟨rfl, rfl, rfl, hbx, hownx, hgex⟩ := hcut
              obtain ⟨wx, rfl⟩ : ∃ x, x = wc := ⟨_, rfl⟩
              obtain ⟨al, cl, rfl⟩ := owns_shape_k hownx
              have hinv2 := Hinvx.out.new hbx
              have he2 := Hcut.out.1.new hbx
              have ha2 := Hcut.out.2.new hbx
              have hrow2 := hinv2.row ob
              have hgt2 := hinv2.rowgt ob
              rw [Hav.out, HS.out] at hrow2 hgt2
              have hrl : ∀ b, (Value.slice av S.length cv).ownBlock = some b → b < E := fun b hb => by
                have h := Hrowlt.out b
                rw [Hav.out, HS.out] at h
                exact Nat.lt_of_lt_of_le (h hb) (Nat.le_refl _)
              have hSx : ∀ x, Chg (fun b => (Value.slice av S.length cv).ownBlock = some b) wx x → SAp E M g kd ob ea k (.slice av S.length cv) x := fun x hx => by
                have q1 : ¬ (Value.slice av S.length cv).ownBlock = some E := fun e => by have := hrl E e; omega
                have q2 : ¬ (Value.slice av S.length cv).ownBlock = some (E + 1) := fun e => by have := hrl (E + 1) e; omega
                have q3 : ¬ (Value.slice av S.length cv).ownBlock = some M := fun e => by have := hgt2 M e; omega
                have h := (hinv2.m1.kept hx q3).lookup und_int Tryd.underlying81 (zero_accs _) hwf
                rw [Hav.out, HS.out] at h
                exact ⟨hx.cell he2.c2 q1, hx.cell ha2.c0 q2, hx.cell ha2.c1 q2, hx.cell ha2.c2 q2, hx.cell ha2.c3 q2, hx.cell ha2.c4 q2, h⟩
              have Hownx := Lib.hid hownx
              have Hgex := Lib.hid hgex
              have Hinv2 := Lib.hid hinv2
              have He2 := Lib.hid he2
              have Ha2 := Lib.hid ha2
              have HSx := Lib.hid hSx
              have Hbx := Lib.hid hbx
              have Hrow2 := Lib.hid hrow2
              clear hownx hgex hinv2 he2 ha2 hSx hbx hlook hrow2 hgt2 hrl e0 e1 e2 e3
              go_upto_region 18 with fail
              refine wp_region_order 10 [] (.take 0 (.take 1 (.take 2 (.take 3 (.take 4 (.take 5 (.take 6 (.take 7 (.one 8 (.one 9 (.done))))))))))) (fun x => SAp E M g kd ob ea k (.slice av S.length cv) x) (by kernel_rfl) (by kernel_rfl) (HSx.out _ (Chg.drew _ _)) ?_
              refine wpFree_nil ?_
              repeat (first | (refine wpHeld_take (v := ?_) (by rfl) (by rfl) (fun x hx => ?_) (by exact fun _ _ _ h => h) ?_; rotate_left; (obtain ⟨h1, h2, h3, h4, h5, h6, h7⟩ := hx; (first | (go_simp; done) | (go_simp; with_reducible rfl))); simp only [Act.put, List.setIfInBounds_toArray, List.set_cons_zero, List.set_cons_succ]))
              refine wpHeld_do (by rfl) (by rfl) (fun K hK => ?_)
              go_simp
              refine hK _ _ (HSx.out _ ((Chg.drew _ _).trans (Chg.alloc _ _ _))) ?_
              clear hK K
              try simp only [Act.put, List.setIfInBounds_toArray, List.set_cons_zero, List.set_cons_succ]
              have hcells := new_cells wx.drew [.int .i64 g, .int .i64 kd, .int .i64 ob, .int .i64 ea, .int .i64 k] 84
              have hone : ∀ u ∈ [Value.int .i64 g, .int .i64 kd, .int .i64 ob, .int .i64 ea, .int .i64 k], u.oneCell' = true := by
                intro u hu
                simp at hu
                rcases hu with rfl | rfl | rfl | rfl | rfl <;> rfl
              have hrow3 := ownsRow_chg Hrow2.out ((Chg.drew (fun _ => False) wx).trans (Chg.alloc (fun _ => False) wx.drew (.cells #[.int .i64 g, .int .i64 kd, .int .i64 ob, .int .i64 ea, .int .i64 k] 84))) (fun _ _ h => h)
              refine wpHeld_do (by rfl) (by rfl) (fun K hK => ?_)
              refine wp_append_k (.tmp 95) (.tmp 97) 85 rfl 84 ia _ 5 40 Tryd.underlying85 hia iz0 iz1 iz2 rfl (by decide) _ _ _ (by rfl) hrow3 wx.heap.size 1 [.int .i64 g, .int .i64 kd, .int .i64 ob, .int .i64 ea, .int .i64 k] (by rfl) rfl hcells hone (by omega) (by omega) ?_
              rintro vo' w4 hown4 hg4 hl4 ⟨q4, cp4, rfl⟩
              refine hK _ _ (HSx.out _ (((Chg.drew _ _).trans (Chg.alloc _ _ _)).trans (Chg.grown hg4 (fun q hq => hq)))) ?_
              clear hK K
              try simp only [Act.put, List.setIfInBounds_toArray, List.set_cons_zero, List.set_cons_succ]
              refine wpHeld_nil ?_
              dsimp only [List.drop]
              clear hcells hone hrow3
              have hinv3 := Hinv2.out.new (((Below.refl wx.heap.size wx).drew).alloc (Nat.le_refl _) (.cells #[.int .i64 g, .int .i64 kd, .int .i64 ob, .int .i64 ea, .int .i64 k] 84))
              have hM4 : RMap w4 Tryd.prog 3 M (2 * k) f1 := hinv3.m1.kept (Chg.grown hg4 (fun q hq => hq)) (fun e => by
                have h := hinv3.rowgt ob
                rw [Hav.out, HS.out] at h
                have := h M e
                omega)
              go_wp2_with (at_mapUpdate; refine wpList_mapUpdate_raw _ rfl _ _ _ 81 rfl 3 85 und_int Tryd.underlying81 M (2 * k) f1 rfl hM4 (by unfold maxLen; omega) ob _ rfl rfl hwf ?_)
              intro wc hm hgc
              have hpush := hinv3.push (p := ob) (a := ⟨⟨g, kd, ob, ea⟩, k⟩) (v' := .slice (some ⟨q4, 0, none⟩) (S.length + 1) cp4) (wb := w4) (wc := wc) (by rw [HS.out]; exact hown4) (by rw [Hav.out, HS.out]; exact hg4) (by rw [Hav.out, HS.out]; exact hl4) hm hgc
              obtain ⟨ρ', hinv4⟩ := hpush
              have hch : Chg (fun b => (Value.slice av S.length cv).ownBlock = some b ∨ b = M) wx wc := (((Chg.drew _ _).trans (Chg.alloc _ _ _)).trans (Chg.grown hg4 (fun q hq => .inl hq))).trans (Chg.grown hgc (fun q hq => by cases hq; exact .inr rfl))
              have hrl : ∀ b, (Value.slice av S.length cv).ownBlock = some b → b < E := fun b hb => by
                have h := Hrowlt.out b
                rw [Hav.out, HS.out] at h
                exact h hb
              have hq1 : ∀ b, E ≤ b → ¬ ((Value.slice av S.length cv).ownBlock = some b ∨ b = M) := fun b hb e => by
                rcases e with e | e
                · have := hrl b e; omega
                · omega
              have he4 := He2.out.kept hch (hq1 E (Nat.le_refl _))
              have ha4 := Ha2.out.kept hch (hq1 (E + 1) (Nat.le_succ _))
              have hownR := ownsRow_chg Hownx.out hch (fun b hb => hq1 b (by have := Hgex.out b hb; omega))
              have hwxc := hch.size
              have hlookF := hinv4.m2.lookup_ok und_int Tryd.underlying82 (zero_race _) hwf
              rw [hinv4.fnd ob] at hlookF
              have hRl : (racers l L (racesSt l L k) k).length ≤ 100000 := by
                rw [HR.out]
                have := List.length_filter_le (clash l L ⟨⟨g, kd, ob, ea⟩, k⟩) S
                omega
              have hseen := step_seen (l := l) (L := L) (k := k) (by rw [Hev1.out]; exact Hacc.out)
              rw [Hev1.out] at hseen
              have hinv5 := hinv4
              simp only at hseen
              rw [← hseen] at hinv5
              have Hinv5 := Lib.hid hinv5
              have He4 := Lib.hid he4
              have Ha4 := Lib.hid ha4
              have HownR := Lib.hid hownR
              clear hinv5 hinv4 he4 ha4 hownR hseen hq1 hrl hch hown4 hg4 hl4 hm hgc hM4 hinv3
              have hstep2 : 2 * k + 1 ≤ 2 * (k + 1) := by omega
              have z2 := He4.out.c2
              simp only at z2
              have hEw : E + 1 < wc.heap.size := by have := Hbx.out.size; omega
              cases hfo : (racesSt l L k).found ob with
              | some r =>
                rw [hfo] at hlookF
                have Hst := Lib.hid (step_found_same (l := l) (L := L) (k := k) (.inr (by rw [Hev1.out]; simp only; rw [hfo]; rfl)))
                obtain ⟨rp, rf, rs, rfw, rsw⟩ := r
                simp only [Option.map_some, Option.getD_some, Option.isSome_some, raceV] at hlookF
                clear hfo
                by_cases hR0 : (racers l L (racesSt l L k) k).length = 0
                · rw [hR0]
                  clear hR0
                  go_wp2_with fail
                  go_roundg (l.length - (k + 1))
                  case measure => omega
                  case rel => exact ⟨k + 1, ρ', _, f2, by omega, rfl, by go_num, by rw [Hst.out]; exact (Hinv5.out.new ((Below.refl _ wc).alloc (Nat.le_refl _) _)).mono hstep2⟩
                · have hR1 : 0 < (racers l L (racesSt l L k) k).length := by omega
                  clear hR0
                  go_wp2_with fail
                  go_roundg (l.length - (k + 1))
                  case measure => omega
                  case rel => exact ⟨k + 1, ρ', _, f2, by omega, rfl, by go_num, by rw [Hst.out]; exact (Hinv5.out.new ((Below.refl _ wc).alloc (Nat.le_refl _) _)).mono hstep2⟩
              | none =>
                rw [hfo] at hlookF
                simp only [Option.map_none, Option.getD_none, Option.isSome_none, raceV] at hlookF
                by_cases hR0 : (racers l L (racesSt l L k) k).length = 0
                · have Hst := Lib.hid (step_found_same (l := l) (L := L) (k := k) (.inl (by rw [List.isEmpty_iff]; exact List.eq_nil_of_length_eq_zero hR0)))
                  rw [hR0]
                  clear hR0 hfo
                  go_wp2_with fail
                  go_roundg (l.length - (k + 1))
                  case measure => omega
                  case rel => exact ⟨k + 1, ρ', _, f2, by omega, rfl, by go_num, by rw [Hst.out]; exact (Hinv5.out.new ((Below.refl _ wc).alloc (Nat.le_refl _) _)).mono hstep2⟩
                · have hR1 : 0 < (racers l L (racesSt l L k) k).length := by omega
                  have hstn := step_found_new (l := l) (L := L) (k := k) (by rw [Hev1.out]; exact Hacc.out) (by cases hq : (racers l L (racesSt l L k) k) with | nil => rw [hq] at hR1; simp at hR1 | cons a t => rfl) (by rw [Hev1.out]; simp only; rw [hfo]; rfl)
                  rw [Hev1.out] at hstn
                  simp only at hstn
                  have Hst := Lib.hid hstn
                  clear hR0 hfo hstn
                  have haccs : Accs wc (.slice al (racers l L (racesSt l L k) k).length cl) (racers l L (racesSt l L k) k) := SlAt.of_owns HownR.out (by omega)
                  have Hch := Lib.hid (fun x (hx : Below wc.heap.size wc x) => chosen_any (haccs.new hx) hR1)
                  clear haccs
                  generalize hch : chosenL (racers l L (racesSt l L k) k) = c at Hst Hch
                  clear hch
                  obtain ⟨⟨cg, ck, co, ca⟩, ci⟩ := c
                  go_wp2_with (go_at_call 45; refine (Hch.out _ ((Below.refl _ wc).alloc (Nat.le_refl _) _)).mono ?_; rintro e w5 ⟨he5, hb5⟩; simp only [accV] at he5; subst he5)
                  have hC := AccAt.made w5 ⟨⟨cg, ck, co, ca⟩, ci⟩ 84
                  have hbel6 : Below wc.heap.size wc (w5.alloc (.cells #[.int .i64 cg, .int .i64 ck, .int .i64 co, .int .i64 ca, .int .i64 ci] 84)) :=
                    ((((Below.refl _ wc).alloc (Nat.le_refl _) _).trans (hb5.mono (by simp))).alloc (by have := hb5.size; simp at this; omega) _)
                  obtain ⟨C, hCd⟩ : ∃ C, C = w5.heap.size := ⟨_, rfl⟩
                  rw [← hCd] at hC ⊢
                  generalize w5.alloc (.cells #[.int .i64 cg, .int .i64 ck, .int .i64 co, .int .i64 ca, .int .i64 ci] 84) = w6 at hC hbel6 ⊢
                  have hSr : ∀ x, Below w6.heap.size w6 x → SRc E C ⟨g, kd, ob, ea⟩ k ⟨⟨cg, ck, co, ca⟩, ci⟩ x := fun x hx => by
                    have h1 := (He4.out.new hbel6).new hx
                    have h2 := (Ha4.out.new hbel6).new hx
                    have h3 := hC.new hx
                    exact ⟨h1.c2, h1.c3, ⟨h2.c0, h2.c1, h2.c2, h2.c3, h2.c4⟩, ⟨h3.c0, h3.c1, h3.c2, h3.c3, h3.c4⟩⟩
                  have Hsr := Lib.hid hSr
                  have Hbel6 := Lib.hid hbel6
                  clear hSr hbel6 hC hCd hb5 hlookF z2
                  refine wp_region_order 15 [] (.take 0 (.take 1 (.take 2 (.take 3 (.take 4 (.take 5 (.take 6 (.take 7 (.take 8 (.take 9 (.take 10 (.take 12 (.one 11 (.one 13 (.one 14 (.done)))))))))))))))) (fun x => SRc E C ⟨g, kd, ob, ea⟩ k ⟨⟨cg, ck, co, ca⟩, ci⟩ x) (by kernel_rfl) (by kernel_rfl) (Hsr.out _ ((Below.refl _ _).drew)) ?_
                  refine wpFree_nil ?_
                  repeat (first | (refine wpHeld_take (v := ?_) (by rfl) (by rfl) (fun x hx => ?_) (by exact fun _ _ _ h => h) ?_; rotate_left; (obtain ⟨h1, h2, ⟨h3, h4, h5, h6, h7⟩, ⟨h8, h9, h10, h11, h12⟩⟩ := hx; (first | (go_simp; done) | (go_simp; with_reducible rfl))); simp only [Act.put, List.setIfInBounds_toArray, List.set_cons_zero, List.set_cons_succ]))
                  refine wpHeld_do (by rfl) (by rfl) (fun K hK => ?_)
                  go_simp
                  refine (writes_any _ _ _ _ _ _).mono ?_
                  rintro e w' ⟨rfl, rfl⟩
                  refine hK _ _ (Hsr.out _ ((Below.refl _ w6).drew.alloc (Nat.le_refl _) _)) ?_
                  clear hK K
                  try simp only [Act.put, List.setIfInBounds_toArray, List.set_cons_zero, List.set_cons_succ]
                  refine wpHeld_do (by rfl) (by rfl) (fun K hK => ?_)
                  go_simp
                  refine (writes_any _ _ _ _ _ _).mono ?_
                  rintro e w' ⟨rfl, rfl⟩
                  refine hK _ _ (Hsr.out _ (((Below.refl _ w6).drew.alloc (Nat.le_refl _) _).alloc (by simp) _)) ?_
                  clear hK K
                  try simp only [Act.put, List.setIfInBounds_toArray, List.set_cons_zero, List.set_cons_succ]
                  refine wpHeld_do (by rfl) (by rfl) (fun K hK => ?_)
                  go_simp
                  refine hK _ _ (Hsr.out _ (((Below.refl _ w6).drew.alloc (Nat.le_refl _) _).alloc (by simp) _)) ?_
                  clear hK K
                  try simp only [Act.put, List.setIfInBounds_toArray, List.set_cons_zero, List.set_cons_succ]
                  refine wpHeld_nil ?_
                  dsimp only [List.drop]
                  have hinv7 := (Hinv5.out.new Hbel6.out).new (((Below.refl _ w6).drew.alloc (Nat.le_refl _) (.cells #[.int .i64 cg, .int .i64 ck, .int .i64 co, .int .i64 ca, .int .i64 ci] 84)).alloc (by simp) (.cells #[.int .i64 g, .int .i64 kd, .int .i64 ob, .int .i64 ea, .int .i64 k] 84))
                  have hm7 := hinv7.m2
                  have Hinv7 := Lib.hid hinv7
                  clear hinv7
                  go_wp2_with (at_mapUpdate; refine wpList_mapUpdate_raw _ rfl _ _ _ 82 rfl 3 72 und_int Tryd.underlying82 (M + 1) (2 * k + 1) f2 rfl hm7 (by unfold maxLen; omega) ob (raceV (mkRace ⟨⟨cg, ck, co, ca⟩, ci⟩ ⟨⟨g, kd, ob, ea⟩, k⟩)) rfl rfl hwf ?_)
                  intro w9 hm9 hg9
                  have hinv9 := Hinv7.out.put hm9 hg9
                  rw [← Hst.out] at hinv9
                  have Hinv9 := Lib.hid hinv9
                  clear hinv9 hm9 hg9 hm7
                  go_wp2_with fail
                  go_roundg (l.length - (k + 1))
                  case measure => omega
                  case rel => exact ⟨k + 1, ρ', _, _, by omega, rfl, by go_num, Hinv9.out⟩
          · have hacc' : isAcc ⟨g, kd, ob, ea⟩ = false := by simpa using hacc
            have hst : racesSt l L (k + 1) = racesSt l L k := by
              rw [racesSt_succ]; unfold stepRace; rw [Hev1.out, if_neg (by rw [hacc']; simp)]
            have Hst := Lib.hid hst
            rw [hacc']
            clear hst hacc hacc'
            go_wp2_with fail
            go_roundg (l.length - (k + 1))
            case measure => omega
            case rel => exact ⟨k + 1, ρ, f1, f2, by omega, rfl, by go_num, by rw [Hst.out]; exact (Hinvx0.out).mono (by omega)⟩
      · obtain rfl : k = l.length := by omega
        have hok := ok_state l L l.length
        have hpl := places_length l L l.length
        have hRl : racesL rooms l = racesOf (racesSt l L l.length) := by unfold racesL; rw [HLd.out]
        have hfnd := hinv.fnd
        obtain ⟨D, hown, hsz, hss⟩ := hinv.m2.sorted und_int hok.1 (fun x => by rw [hok.2 x, hfnd x]; simp)
        have hmem := hok.2
        have hm2 := hinv.m2
        have hbw := hinv.below
        have hobj := place_obj l L l.length
        generalize racesSt l L l.length = st at hpl hRl hfnd hsz hss hmem hobj
        obtain ⟨rs, hrs⟩ : ∃ rs, rs = racesOf st := ⟨_, rfl⟩
        obtain ⟨ks, hks⟩ : ∃ ks, ks = st.places.mergeSort leI := ⟨_, rfl⟩
        have hkl : ks.length = st.places.length := by rw [hks]; exact (List.mergeSort_perm _ _).length_eq
        have hrk : rs = ks.map fun p => (st.found p).getD default := by rw [hrs, hks]; rfl
        have hrl : rs.length = ks.length := by rw [hrk, List.length_map]
        have hkm : ∀ j, j < ks.length → f2 (ks.getD j 0) = some (raceV (rs.getD j default)) := fun j hj => by
          have h1 : ks.getD j 0 ∈ st.places := by
            have := getD_mem (d := 0) hj
            rw [hks] at this ⊢
            exact List.mem_mergeSort.1 this
          rw [hmem] at h1
          obtain ⟨r, hr⟩ := Option.isSome_iff_exists.1 h1
          rw [hfnd, hr, hrk]
          simp only [List.getD_eq_getElem?_getD, List.getElem?_map, List.getElem?_eq_getElem hj, Option.map_some, Option.getD_some] at hr ⊢
          rw [hr]
          rfl
        have hss' : ∀ ss : List Int, ss.Perm (intKeys D) → ss.length = ks.length ∧ ss.mergeSort leI = ks := fun ss h => by rw [hkl, hks]; exact hss ss h
        have hlook : ∀ j, j < ks.length → ∀ x, Below wo.heap.size wo x → (Instr.lookup 82 (.map (some (M + 1))) (.int .i64 (ks.getD j 0)) false).run Tryd.prog x = .ok (raceV (rs.getD j default)) x := fun j hj x hx => by
          have hwf : (Lit.int .i64 (ks.getD j 0)).wf = true := by
            have h1 : ks.getD j 0 ∈ st.places := by
              have := getD_mem (d := 0) hj
              rw [hks] at this ⊢
              exact List.mem_mergeSort.1 this
            obtain ⟨i, hi, he⟩ := hobj _ h1
            rw [← he]
            exact Ht.out.obj _ (getD_mem hi)
          have h := (hm2.kept (S := fun _ => False) (Chg.of_new hx) id).lookup und_int Tryd.underlying82 (zero_race _) hwf
          rw [hkm j hj] at h
          exact h
        have hownA : ((wo.alloc (.cells #[.map (some (M + 1))] 82)).ownsMap Tryd.prog 3 rawR (M + 1) (2 * l.length) D) := by
          have hlt1 := hown.lt
          obtain ⟨es, clock, hb, F, hz, hD⟩ := hown
          exact ⟨es, clock, (Below.heap_alloc _ _ _ hlt1).trans hb, F, hz, hD⟩
        have hcA : (wo.alloc (.cells #[.map (some (M + 1))] 82)).cell? ⟨wo.heap.size, 0, none⟩ = some (.map (some (M + 1))) := new_cells wo [.map (some (M + 1))] 82 0 _ rfl
        have hszle : Maps.size D ≤ 3000 := by rw [hsz]; omega
        have HownA := Lib.hid hownA
        have HcA := Lib.hid hcA
        have Hlook := Lib.hid hlook
        have Hss := Lib.hid hss'
        have HRl := Lib.hid hRl
        have Hrs := Lib.hid hrs
        have Hrl := Lib.hid hrl
        have Hbw := Lib.hid hbw
        have hks3 : ks.length ≤ 3000 := by omega
        obtain ⟨ir, hir, jz0, jz1, jz2⟩ := info_parts info_race
        clear hok hpl hRl hfnd hobj hown hsz hss hmem hm2 hbw hrs hks hkl hrk hrl hkm hss' hlook hownA hcA hinv
        go_wp2_with (first | (go_at_call 47; refine (Tryd.keys_any _ _).mono ?_; rintro e w' ⟨rfl, rfl⟩) | (go_at_call 46; refine (Tryd.sorted_any _ (M + 1) _ D rawR _ HcA.out HownA.out (by unfold maxLen; omega) (by omega)).mono ?_; rintro e w2 ⟨v, ss, rfl, hp, hrow, hb2⟩; obtain ⟨hsl, hsk⟩ := Hss.out ss hp; rw [hsk, hsl] at hrow; obtain ⟨av, cv, rfl⟩ := owns_shape_k hrow; have Hrow := Lib.hid hrow; have Hb2 := Lib.hid hb2; clear hrow hb2 hsl hsk hp))
        go_loopg [19, 21, 135] (ks.length) (fun gk s19 s21 i wi => ∃ j : Nat, j ≤ ks.length ∧ gk = ks.length - j ∧ i = .int .i64 j ∧ Below w2.heap.size w2 wi ∧
          wi.ownsRow 0 72 5 s19 j ((rs.take j).flatMap raceCells) ∧ ∀ b, s19.ownBlock = some b → w2.heap.size ≤ b)
        case atStart => exact ⟨0, Nat.zero_le _, rfl, rfl, Below.refl _ _, ⟨rfl, .inl ⟨rfl, rfl⟩⟩, fun b hb => by simp [Value.ownBlock] at hb⟩
        case round =>
          obtain ⟨j, hj, rfl, rfl, hbi, howni, hgei⟩ := hrel
          by_cases hjl : j < ks.length
          · have hints : Ints w2 (.slice av ks.length cv) ks := SlAt.of_owns Hrow.out (by omega)
            rcases hints.cases with ⟨_, h0⟩ | ⟨bk, ok, ck, hek, hbk, _, _, hck⟩
            · rw [h0] at hjl; simp at hjl
            cases hek
            have x0 := hck j hjl
            rw [← hbi.cell (World.block_lt_of_cell? w2 _ x0)] at x0
            have hjs : (j : Int) < (ks.length : Int) := by omega
            obtain ⟨sv, sc, rfl⟩ := owns_shape_k howni
            have hb0 : Below wo.heap.size wo wr := (((Below.refl _ wo).alloc (Nat.le_refl _) _).trans (Hb2.out.mono (by simp))).trans (hbi.mono (by have := Hb2.out.size; simp at this; omega))
            have hl1 := Hlook.out j hjl wr hb0
            have htk : (rs.take (j + 1)).flatMap raceCells = (rs.take j).flatMap raceCells ++ raceCells (rs.getD j default) := by
              have h : j < rs.length := by rw [Hrl.out]; exact hjl
              rw [List.take_succ_eq_append_getElem h, List.flatMap_append]
              simp [h]
            have Htk := Lib.hid htk
            have Hgei := Lib.hid hgei
            have Hbi := Lib.hid hbi
            have hown2 := ownsRow_chg howni (Chg.alloc (fun _ => False) wr (.cells (raceCells (rs.getD j default)).toArray 72)) (fun _ _ h => h)
            have hcells := new_cells wr (raceCells (rs.getD j default)) 72
            generalize rs.getD j default = r at hl1 Htk hown2 hcells
            obtain ⟨rp, rf, rss, rfw, rsw⟩ := r
            simp only [raceV] at hl1
            simp only [raceCells] at hown2 hcells
            have hone : ∀ u ∈ [Value.int .i64 rp, .int .i64 rf, .int .i64 rss, .bool rfw, .bool rsw], u.oneCell' = true := by
              intro u hu
              simp at hu
              rcases hu with rfl | rfl | rfl | rfl | rfl <;> rfl
            have Hcells := Lib.hid hcells
            have Hone := Lib.hid hone
            clear hcells hone htk hgei hbi hck hints howni hb0
            generalize ks.getD j 0 = key at x0 hl1
            go_wp2_with (at_builtin; refine wpList_append_k rfl _ _ 32 (by rfl) 72 ir _ 5 32 Tryd.underlying32 hir jz0 jz1 jz2 rfl (by decide) _ _ _ (by rfl) hown2 wr.heap.size 1 [.int .i64 rp, .int .i64 rf, .int .i64 rss, .bool rfw, .bool rsw] (by rfl) rfl Hcells.out Hone.out (by omega) (by omega) ?_)
            rintro vo' w4 hown4 hg4 hl4 q4 cp4 rfl
            have hbel := (bal ⟨Hbi.out, Hbi.out.size⟩ (.cells #[.int .i64 rp, .int .i64 rf, .int .i64 rss, .bool rfw, .bool rsw] 72))
            have hb4 := hbel.1.grown hg4 hbel.2 (fun q hq => Hgei.out q hq)
            have hge4 : ∀ q, (Value.slice (some ⟨q4, 0, none⟩) (j + 1) cp4).ownBlock = some q → _ ≤ q := fun q hq => by
              rcases hl4 with e | ⟨q', e, hq'⟩
              · rw [e] at hq; exact Hgei.out q hq
              · rw [e] at hq
                obtain rfl := Option.some.inj hq
                exact Nat.le_trans hbel.2 hq'
            have Hown4 := Lib.hid hown4
            have Hb4 := Lib.hid hb4
            have Hge4 := Lib.hid hge4
            clear hown4 hb4 hge4 hg4 hl4 hbel hown2
            go_wp2
            go_roundg (ks.length - (j + 1))
            case measure => omega
            case rel => exact ⟨j + 1, by omega, rfl, by go_num, Hb4.out, by rw [Htk.out]; exact Hown4.out, Hge4.out⟩
          · obtain rfl : j = ks.length := by omega
            obtain ⟨sv, sc, rfl⟩ := owns_shape_k howni
            have Hown := Lib.hid howni
            have Hbi := Lib.hid hbi
            clear howni hbi hgei
            go_wp2_with fail
            go_ret2
            have hbo : Below wo.heap.size wo wr := (((Below.refl _ wo).alloc (Nat.le_refl _) _).trans (Hb2.out.mono (by simp))).trans (Hbi.out.mono (by have := Hb2.out.size; simp at this; omega))
            refine ⟨Hb1.out.trans ((Hbw.out.trans (hbo.mono Hbw.out.size)).mono Hb1.out.size), .inr ⟨Hf.out, _, rfl, ?_⟩⟩
            have hrsl : (racesL rooms l).length = ks.length := by rw [← Hrl.out, Hrs.out, HRl.out]
            unfold RacesAt
            rw [hrsl]
            have := SlAt.of_owns Hown.out (by omega)
            rw [← Hrl.out, List.take_length, Hrs.out, ← HRl.out] at this
            rw [← hrsl]
            exact this
end Go.Proofs.YtkjbpkggcddnhaaDoor
