/- slices.Sorted(maps.Keys(m)) at maps of races by ints: the shelf's contracts laid here; what the keys are in the words of XMaps. -/
import Derived.Shelf.SlIterI.Nil
import Derived.Shelf.SortM.Plain
import Derived.Shelf.SortM.SortNone
import Derived.Ground.GgzProg
import Derived.Ground.SlgmProg
import Derived.Test.YtkjbpkggcddnhaaDoorProg
import Derived.Test.YtkjbpkggcddnhaaDoorMaps
namespace Go.Proofs
set_option linter.unusedVariables false
set_option linter.unusedSimpArgs false
open Go.RowKit Go.Maps Go.Sort Go.Shelf

def Tryd.keysA_ren : Go.Shelf.Ren := ⟨fun | 7 => 47 | 10 => 68 | n => n, fun | 23 => 82 | 26 => 3 | 3 => 72 | 28 => 91 | 0 => 0 | 27 => 90 | 33 => 135 | 4 => 4 | n => n, fun | n => n⟩
theorem Tryd.keysA : Go.Proofs.SlLaysZI.n7 Tryd.prog Tryd.keysA_ren := {
  mixed := by kernel_rfl
  f7 := ⟨Tryd.f47.name, by decide, Tryd.func47.trans (congrArg some (by kernel_rfl))⟩
  f10 := ⟨Tryd.f68.name, by decide, Tryd.func68.trans (congrArg some (by kernel_rfl))⟩
  t0 := Tryd.underlying0
  a0 := Tryd.isAgg0
  z0 := Tryd.sizeOf0
  v0 := Tryd.zeroValue0
  t4 := Tryd.underlying4
  a4 := Tryd.isAgg4
  z4 := Tryd.sizeOf4
  v4 := Tryd.zeroValue4
  t23 := Tryd.underlying82
  a23 := Tryd.isAgg82
  z23 := Tryd.sizeOf82
  v23 := Tryd.zeroValue82
  t26 := Tryd.underlying3
  a26 := Tryd.isAgg3
  z26 := Tryd.sizeOf3
  v26 := Tryd.zeroValue3
  t27 := Tryd.underlying90
  a27 := Tryd.isAgg90
  z27 := Tryd.sizeOf90
  v27 := Tryd.zeroValue90
  t28 := Tryd.underlying91
  a28 := Tryd.isAgg91
  z28 := Tryd.sizeOf91
  v28 := Tryd.zeroValue91
  t33 := Tryd.underlying135
  a33 := Tryd.isAgg135
  z33 := Tryd.sizeOf135
  v33 := Tryd.zeroValue135 }
def Tryd.sortedA_ren : Go.Shelf.Ren := ⟨fun | 6 => 46 | 8 => 66 | 9 => 67 | 11 => 92 | 13 => 94 | 12 => 93 | 23 => 110 | 24 => 111 | 14 => 101 | 15 => 102 | 16 => 103 | 17 => 104 | 18 => 105 | 19 => 106 | 20 => 107 | 21 => 108 | 22 => 109 | 25 => 124 | 26 => 125 | 27 => 126 | 28 => 127 | 29 => 128 | 30 => 88 | 31 => 132 | n => n, fun | 26 => 3 | 28 => 91 | 24 => 23 | 0 => 0 | 3 => 3 | 37 => 25 | 48 => 186 | 50 => 188 | 4 => 4 | 40 => 179 | 39 => 178 | 45 => 125 | 5 => 5 | 9 => 9 | 51 => 200 | 55 => 189 | 57 => 209 | 58 => 210 | 33 => 135 | n => n, fun | n => n⟩
theorem Tryd.sortedA : Go.Proofs.SlLaysZI.n6 Tryd.prog Tryd.sortedA_ren := {
  mixed := by kernel_rfl
  f6 := ⟨Tryd.f46.name, by decide, Tryd.func46.trans (congrArg some (by kernel_rfl))⟩
  f8 := ⟨Tryd.f66.name, by decide, Tryd.func66.trans (congrArg some (by kernel_rfl))⟩
  f11 := ⟨Tryd.f92.name, by decide, Tryd.func92.trans (congrArg some (by kernel_rfl))⟩
  t0 := Tryd.underlying0
  a0 := Tryd.isAgg0
  z0 := Tryd.sizeOf0
  v0 := Tryd.zeroValue0
  t24 := Tryd.underlying23
  a24 := Tryd.isAgg23
  z24 := Tryd.sizeOf23
  v24 := Tryd.zeroValue23
  t26 := Tryd.underlying3
  a26 := Tryd.isAgg3
  z26 := Tryd.sizeOf3
  v26 := Tryd.zeroValue3
  t28 := Tryd.underlying91
  a28 := Tryd.isAgg91
  z28 := Tryd.sizeOf91
  v28 := Tryd.zeroValue91
  i26 := by kernel_rfl }
def Tryd.sortA_ren : Go.Shelf.Ren := ⟨fun | 5 => 67 | 8 => 94 | 7 => 93 | 19 => 110 | 20 => 111 | 10 => 101 | 11 => 102 | 12 => 103 | 13 => 104 | 14 => 105 | 15 => 106 | 16 => 107 | 17 => 108 | 18 => 109 | 30 => 124 | 31 => 125 | 32 => 126 | 33 => 127 | 34 => 128 | 35 => 88 | 40 => 132 | n => n, fun | 23 => 23 | 25 => 3 | 3 => 3 | 32 => 25 | 22 => 23 | 0 => 0 | 44 => 186 | 46 => 188 | 4 => 4 | 36 => 179 | 35 => 178 | 41 => 125 | 5 => 5 | 9 => 9 | 53 => 200 | 57 => 189 | 63 => 209 | 64 => 210 | n => n, fun | n => n⟩
theorem Tryd.sortA : Go.Proofs.SlLaysM.n5 Tryd.prog Tryd.sortA_ren := {
  mixed := by kernel_rfl
  f5 := ⟨Tryd.f67.name, by decide, Tryd.func67.trans (congrArg some (by kernel_rfl))⟩
  f7 := ⟨Tryd.f93.name, by decide, Tryd.func93.trans (congrArg some (by kernel_rfl))⟩
  f8 := Tryd.func94.trans (congrArg some (by kernel_rfl))
  f10 := ⟨Tryd.f101.name, by decide, Tryd.func101.trans (congrArg some (by kernel_rfl))⟩
  f11 := ⟨Tryd.f102.name, by decide, Tryd.func102.trans (congrArg some (by kernel_rfl))⟩
  f12 := ⟨Tryd.f103.name, by decide, Tryd.func103.trans (congrArg some (by kernel_rfl))⟩
  f13 := ⟨Tryd.f104.name, by decide, Tryd.func104.trans (congrArg some (by kernel_rfl))⟩
  f14 := ⟨Tryd.f105.name, by decide, Tryd.func105.trans (congrArg some (by kernel_rfl))⟩
  f15 := ⟨Tryd.f106.name, by decide, Tryd.func106.trans (congrArg some (by kernel_rfl))⟩
  f16 := ⟨Tryd.f107.name, by decide, Tryd.func107.trans (congrArg some (by kernel_rfl))⟩
  f17 := ⟨Tryd.f108.name, by decide, Tryd.func108.trans (congrArg some (by kernel_rfl))⟩
  f18 := ⟨Tryd.f109.name, by decide, Tryd.func109.trans (congrArg some (by kernel_rfl))⟩
  f19 := Tryd.func110.trans (congrArg some (by kernel_rfl))
  f20 := Tryd.func111.trans (congrArg some (by kernel_rfl))
  f30 := ⟨Tryd.f124.name, by decide, Tryd.func124.trans (congrArg some (by kernel_rfl))⟩
  f31 := Tryd.func125.trans (congrArg some (by kernel_rfl))
  f32 := Tryd.func126.trans (congrArg some (by kernel_rfl))
  f33 := ⟨Tryd.f127.name, by decide, Tryd.func127.trans (congrArg some (by kernel_rfl))⟩
  f34 := ⟨Tryd.f128.name, by decide, Tryd.func128.trans (congrArg some (by kernel_rfl))⟩
  f35 := ⟨Tryd.f88.name, by decide, Tryd.func88.trans (congrArg some (by kernel_rfl))⟩
  f40 := ⟨Tryd.f132.name, by decide, Tryd.func132.trans (congrArg some (by kernel_rfl))⟩
  t0 := Tryd.underlying0
  a0 := Tryd.isAgg0
  z0 := Tryd.sizeOf0
  v0 := Tryd.zeroValue0
  t3 := Tryd.underlying3
  a3 := Tryd.isAgg3
  z3 := Tryd.sizeOf3
  v3 := Tryd.zeroValue3
  t4 := Tryd.underlying4
  a4 := Tryd.isAgg4
  z4 := Tryd.sizeOf4
  v4 := Tryd.zeroValue4
  t5 := Tryd.underlying5
  a5 := Tryd.isAgg5
  z5 := Tryd.sizeOf5
  v5 := Tryd.zeroValue5
  t9 := Tryd.underlying9
  a9 := Tryd.isAgg9
  z9 := Tryd.sizeOf9
  v9 := Tryd.zeroValue9
  t22 := Tryd.underlying23
  a22 := Tryd.isAgg23
  z22 := Tryd.sizeOf23
  v22 := Tryd.zeroValue23
  t23 := Tryd.underlying23
  a23 := Tryd.isAgg23
  z23 := Tryd.sizeOf23
  v23 := Tryd.zeroValue23
  t25 := Tryd.underlying3
  a25 := Tryd.isAgg3
  z25 := Tryd.sizeOf3
  v25 := Tryd.zeroValue3
  t32 := Tryd.underlying25
  a32 := Tryd.isAgg25
  z32 := Tryd.sizeOf25
  v32 := Tryd.zeroValue25
  t35 := Tryd.underlying178
  a35 := Tryd.isAgg178
  z35 := Tryd.sizeOf178
  v35 := Tryd.zeroValue178
  t36 := Tryd.underlying179
  a36 := Tryd.isAgg179
  z36 := Tryd.sizeOf179
  v36 := Tryd.zeroValue179
  t41 := Tryd.underlying125
  a41 := Tryd.isAgg125
  z41 := Tryd.sizeOf125
  v41 := Tryd.zeroValue125
  t44 := Tryd.underlying186
  a44 := Tryd.isAgg186
  z44 := Tryd.sizeOf186
  v44 := Tryd.zeroValue186
  t46 := Tryd.underlying188
  a46 := Tryd.isAgg188
  z46 := Tryd.sizeOf188
  v46 := Tryd.zeroValue188
  t53 := Tryd.underlying200
  a53 := Tryd.isAgg200
  z53 := Tryd.sizeOf200
  v53 := Tryd.zeroValue200
  t57 := Tryd.underlying189
  a57 := Tryd.isAgg189
  z57 := Tryd.sizeOf189
  v57 := Tryd.zeroValue189
  t63 := Tryd.underlying209
  a63 := Tryd.isAgg209
  z63 := Tryd.sizeOf209
  v63 := Tryd.zeroValue209
  t64 := Tryd.underlying210
  a64 := Tryd.isAgg210
  z64 := Tryd.sizeOf210
  v64 := Tryd.zeroValue210 }

theorem Tryd.sortsA (m : Nat) : AnyZI.SortsIn Tryd.prog Tryd.sortedA_ren Fence.wide m :=
  ⟨fun blk off cap ss W hH hblk hsz => callsIn_wide.2 (AnyM.slices_Sort_int Tryd.sortA blk off cap ss W hH hblk hsz),
   fun p cap W => callsIn_wide.2 (AnyM.slices_Sort_int_none Tryd.sortA p cap W)⟩

theorem Tryd.keys_any (mb : Option Nat) (W : World) : Calls Tryd.prog 47 #[.map mb] W fun e w' => e = .returned (.func (.func 68) #[] #[.pointer (some ⟨W.heap.size, 0, none⟩)]) ∧ w' = W.alloc (.cells #[.map mb] 82) :=
  (callsIn_wide (n := 5)).1 (AnyZI.keys_in Tryd.keysA Fence.wide 5 trivial rfl mb W)

theorem Tryd.sorted_any {H : Type} (B b nn : Nat) (D0 : DataW H) (R : Value → Option (DataW H × List MemPlace)) (w : World) (hc : w.cell? ⟨B, 0, none⟩ = some (.map (some b))) (hown : w.ownsMap Tryd.prog 3 R b nn D0) (hmax : Maps.size D0 ≤ maxLen) (hbytes : Maps.size D0 * 8 ≤ 140737488355328) :
    Calls Tryd.prog 46 #[.func (.func 68) #[] #[.pointer (some ⟨B, 0, none⟩)]] w fun e w' => ∃ (v : Value) (ss : List Int), e = .returned v ∧ ss.Perm (intKeys D0) ∧
      w'.ownsRow w.heap.size 3 1 v ss.length ((ss.mergeSort leI).map encZ) ∧ Below w.heap.size w w' := by
  refine (callsIn_wide (n := 5)).1 ?_
  have hseq : SeqGives Fence.wide 2 Tryd.prog 68 #[.pointer (some ⟨B, 0, none⟩)] encZ (fun ss => ss.Perm (intKeys D0)) (Maps.size D0) w :=
    AnyZI.keys_gives (ρ := Tryd.keysA_ren) { Tryd.keysA with } Fence.wide _ trivial rfl (by omega) B b nn D0 w (World.block_lt_of_cell? w _ hc) hc hown
  have cS := AnyZI.sorted_in Tryd.sortedA Fence.wide 5 trivial trivial trivial trivial rfl (by omega) (Tryd.sortsA _) (enters_of Tryd.func67 (by kernel_rfl) rfl) 68 #[.pointer (some ⟨B, 0, none⟩)] trivial (enters_of Tryd.func68 (by kernel_rfl) rfl) _ _ hmax hbytes _ hseq
  refine cS.mono ?_
  rintro e w' ⟨v, ss, he, hS, hrow, _, hb⟩
  exact ⟨v, ss, he, hS, hrow, hb⟩
end Go.Proofs
