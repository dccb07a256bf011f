/-
  maps.Keys of the tallies, and slices.Sorted, at this program.
-/
import Derived.Test.YtgogbpkcceadbaaGreatDoorSrtT
import Derived.Test.YtgogbpkcceadbaaGreatDoorItr
import Derived.Test.YtgogbpkcceadbaaGreatDoorVecM
namespace Go.Proofs.YtgogbpkcceadbaaGreatDoor.Srt
open Go.RowKit Go.Maps Go.Sort Go.Shelf
set_option linter.unusedVariables false

def keysA_ren : Go.Shelf.Ren := ⟨fun | 7 => 21 | 10 => 44 | n => n, fun | 23 => 57 | 26 => 23 | 3 => 60 | 28 => 65 | 0 => 0 | 27 => 64 | 33 => 91 | 4 => 4 | n => n, fun | n => n⟩
theorem keysA : KeyL Tryz.prog keysA_ren := {
  mixed := by kernel_rfl
  f7 := ⟨Tryz.f21.name, by decide, Tryz.func21.trans (congrArg some (by kernel_rfl))⟩
  f10 := ⟨Tryz.f44.name, by decide, Tryz.func44.trans (congrArg some (by kernel_rfl))⟩
  t0 := Tryz.underlying0
  a0 := Tryz.isAgg0
  z0 := Tryz.sizeOf0
  v0 := Tryz.zeroValue0
  t4 := Tryz.underlying4
  a4 := Tryz.isAgg4
  z4 := Tryz.sizeOf4
  v4 := Tryz.zeroValue4
  t23 := Tryz.underlying57
  a23 := Tryz.isAgg57
  z23 := Tryz.sizeOf57
  v23 := Tryz.zeroValue57
  t26 := Tryz.underlying23
  a26 := Tryz.isAgg23
  z26 := Tryz.sizeOf23
  v26 := Tryz.zeroValue23
  t27 := Tryz.underlying64
  a27 := Tryz.isAgg64
  z27 := Tryz.sizeOf64
  v27 := Tryz.zeroValue64
  t28 := Tryz.underlying65
  a28 := Tryz.isAgg65
  z28 := Tryz.sizeOf65
  v28 := Tryz.zeroValue65
  t33 := Tryz.underlying91
  a33 := Tryz.isAgg91
  z33 := Tryz.sizeOf91
  v33 := Tryz.zeroValue91 }
def sortedA_ren : Go.Shelf.Ren := ⟨fun | 6 => 20 | 8 => 42 | 9 => 43 | 11 => 70 | 13 => 72 | 12 => 71 | 23 => 94 | 24 => 95 | 14 => 85 | 15 => 86 | 16 => 87 | 17 => 88 | 18 => 89 | 19 => 90 | 20 => 91 | 21 => 92 | 22 => 93 | 25 => 98 | 26 => 99 | 27 => 100 | 28 => 101 | 29 => 102 | 30 => 103 | 31 => 104 | n => n, fun | 26 => 23 | 28 => 65 | 24 => 62 | 0 => 0 | 3 => 3 | 37 => 120 | 48 => 28 | 50 => 72 | 4 => 4 | 40 => 143 | 39 => 142 | 45 => 148 | 5 => 5 | 9 => 9 | 51 => 155 | 55 => 159 | 57 => 161 | 58 => 162 | 33 => 91 | n => n, fun | n => n⟩
theorem sortedA : ItrL Tryz.prog sortedA_ren := {
  mixed := by kernel_rfl
  f6 := ⟨Tryz.f20.name, by decide, Tryz.func20.trans (congrArg some (by kernel_rfl))⟩
  f8 := ⟨Tryz.f42.name, by decide, Tryz.func42.trans (congrArg some (by kernel_rfl))⟩
  f11 := ⟨Tryz.f70.name, by decide, Tryz.func70.trans (congrArg some (by kernel_rfl))⟩
  t0 := Tryz.underlying0
  a0 := Tryz.isAgg0
  z0 := Tryz.sizeOf0
  v0 := Tryz.zeroValue0
  t24 := Tryz.underlying62
  a24 := Tryz.isAgg62
  z24 := Tryz.sizeOf62
  v24 := Tryz.zeroValue62
  t26 := Tryz.underlying23
  a26 := Tryz.isAgg23
  z26 := Tryz.sizeOf23
  v26 := Tryz.zeroValue23
  t28 := Tryz.underlying65
  a28 := Tryz.isAgg65
  z28 := Tryz.sizeOf65
  v28 := Tryz.zeroValue65
  i26 := by kernel_rfl }
def sortA_ren : Go.Shelf.Ren := ⟨fun | 5 => 43 | 8 => 72 | 7 => 71 | 19 => 94 | 20 => 95 | 10 => 85 | 11 => 86 | 12 => 87 | 13 => 88 | 14 => 89 | 15 => 90 | 16 => 91 | 17 => 92 | 18 => 93 | 30 => 98 | 31 => 99 | 32 => 100 | 33 => 101 | 34 => 102 | 35 => 103 | 40 => 104 | n => n, fun | 23 => 62 | 25 => 23 | 3 => 3 | 32 => 120 | 22 => 62 | 0 => 0 | 44 => 28 | 46 => 72 | 4 => 4 | 36 => 143 | 35 => 142 | 41 => 148 | 5 => 5 | 9 => 9 | 53 => 155 | 57 => 159 | 63 => 161 | 64 => 162 | n => n, fun | n => n⟩
theorem sortA : SrtL Tryz.prog sortA_ren := {
  mixed := by kernel_rfl
  f5 := ⟨Tryz.f43.name, by decide, Tryz.func43.trans (congrArg some (by kernel_rfl))⟩
  f7 := ⟨Tryz.f71.name, by decide, Tryz.func71.trans (congrArg some (by kernel_rfl))⟩
  f8 := Tryz.func72.trans (congrArg some (by kernel_rfl))
  f10 := ⟨Tryz.f85.name, by decide, Tryz.func85.trans (congrArg some (by kernel_rfl))⟩
  f11 := ⟨Tryz.f86.name, by decide, Tryz.func86.trans (congrArg some (by kernel_rfl))⟩
  f12 := ⟨Tryz.f87.name, by decide, Tryz.func87.trans (congrArg some (by kernel_rfl))⟩
  f13 := ⟨Tryz.f88.name, by decide, Tryz.func88.trans (congrArg some (by kernel_rfl))⟩
  f14 := ⟨Tryz.f89.name, by decide, Tryz.func89.trans (congrArg some (by kernel_rfl))⟩
  f15 := ⟨Tryz.f90.name, by decide, Tryz.func90.trans (congrArg some (by kernel_rfl))⟩
  f16 := ⟨Tryz.f91.name, by decide, Tryz.func91.trans (congrArg some (by kernel_rfl))⟩
  f17 := ⟨Tryz.f92.name, by decide, Tryz.func92.trans (congrArg some (by kernel_rfl))⟩
  f18 := ⟨Tryz.f93.name, by decide, Tryz.func93.trans (congrArg some (by kernel_rfl))⟩
  f19 := Tryz.func94.trans (congrArg some (by kernel_rfl))
  f20 := Tryz.func95.trans (congrArg some (by kernel_rfl))
  f30 := ⟨Tryz.f98.name, by decide, Tryz.func98.trans (congrArg some (by kernel_rfl))⟩
  f31 := Tryz.func99.trans (congrArg some (by kernel_rfl))
  f32 := Tryz.func100.trans (congrArg some (by kernel_rfl))
  f33 := ⟨Tryz.f101.name, by decide, Tryz.func101.trans (congrArg some (by kernel_rfl))⟩
  f34 := ⟨Tryz.f102.name, by decide, Tryz.func102.trans (congrArg some (by kernel_rfl))⟩
  f35 := ⟨Tryz.f103.name, by decide, Tryz.func103.trans (congrArg some (by kernel_rfl))⟩
  f40 := ⟨Tryz.f104.name, by decide, Tryz.func104.trans (congrArg some (by kernel_rfl))⟩
  t0 := Tryz.underlying0
  a0 := Tryz.isAgg0
  z0 := Tryz.sizeOf0
  v0 := Tryz.zeroValue0
  t3 := Tryz.underlying3
  a3 := Tryz.isAgg3
  z3 := Tryz.sizeOf3
  v3 := Tryz.zeroValue3
  t4 := Tryz.underlying4
  a4 := Tryz.isAgg4
  z4 := Tryz.sizeOf4
  v4 := Tryz.zeroValue4
  t5 := Tryz.underlying5
  a5 := Tryz.isAgg5
  z5 := Tryz.sizeOf5
  v5 := Tryz.zeroValue5
  t9 := Tryz.underlying9
  a9 := Tryz.isAgg9
  z9 := Tryz.sizeOf9
  v9 := Tryz.zeroValue9
  t22 := Tryz.underlying62
  a22 := Tryz.isAgg62
  z22 := Tryz.sizeOf62
  v22 := Tryz.zeroValue62
  t23 := Tryz.underlying62
  a23 := Tryz.isAgg62
  z23 := Tryz.sizeOf62
  v23 := Tryz.zeroValue62
  t25 := Tryz.underlying23
  a25 := Tryz.isAgg23
  z25 := Tryz.sizeOf23
  v25 := Tryz.zeroValue23
  t32 := Tryz.underlying120
  a32 := Tryz.isAgg120
  z32 := Tryz.sizeOf120
  v32 := Tryz.zeroValue120
  t35 := Tryz.underlying142
  a35 := Tryz.isAgg142
  z35 := Tryz.sizeOf142
  v35 := Tryz.zeroValue142
  t36 := Tryz.underlying143
  a36 := Tryz.isAgg143
  z36 := Tryz.sizeOf143
  v36 := Tryz.zeroValue143
  t41 := Tryz.underlying148
  a41 := Tryz.isAgg148
  z41 := Tryz.sizeOf148
  v41 := Tryz.zeroValue148
  t44 := Tryz.underlying28
  a44 := Tryz.isAgg28
  z44 := Tryz.sizeOf28
  v44 := Tryz.zeroValue28
  t46 := Tryz.underlying72
  a46 := Tryz.isAgg72
  z46 := Tryz.sizeOf72
  v46 := Tryz.zeroValue72
  t53 := Tryz.underlying155
  a53 := Tryz.isAgg155
  z53 := Tryz.sizeOf155
  v53 := Tryz.zeroValue155
  t57 := Tryz.underlying159
  a57 := Tryz.isAgg159
  z57 := Tryz.sizeOf159
  v57 := Tryz.zeroValue159
  t63 := Tryz.underlying161
  a63 := Tryz.isAgg161
  z63 := Tryz.sizeOf161
  v63 := Tryz.zeroValue161
  t64 := Tryz.underlying162
  a64 := Tryz.isAgg162
  z64 := Tryz.sizeOf162
  v64 := Tryz.zeroValue162 }
theorem sortsA (m : Nat) : AnyZI.SortsIn Tryz.prog sortedA_ren Fence.wide m :=
  ⟨fun blk off cap ss W hH hblk hsz => callsIn_wide.2 (calls_of_every_depth fun D => AnySM.slices_Sort_int_in sortA D blk off cap ss W hH hblk hsz),
   fun p cap W => callsIn_wide.2 (AnyM.slices_Sort_int_none sortA p cap W)⟩
/-- maps.Keys boxes the map. -/
theorem keys_any (mb : Option Nat) (w : World) : Calls Tryz.prog 21 #[.map mb] w fun e w' =>
    e = .returned (.func (.func 44) #[] #[.pointer (some ⟨w.heap.size, 0, none⟩)]) ∧ w' = w.alloc (.cells #[.map mb] 57) :=
  (callsIn_wide (n := 6)).1 (AnyZI.keys_in keysA Fence.wide 6 trivial rfl mb w)
/-- slices.Sorted of what it hands back: the keys, ascending, in a new slice. -/
theorem sorted_any {H : Type} (b nn Bm : Nat) (D0 : DataW H) (R : Value → Option (DataW H × List MemPlace)) (w : World) (hown : w.ownsMap Tryz.prog 23 R b nn D0) (hm : w.cell? ⟨Bm, 0, none⟩ = some (.map (some b))) (hsz : Maps.size D0 ≤ 1000) :
    Calls Tryz.prog 20 #[.func (.func 44) #[] #[.pointer (some ⟨Bm, 0, none⟩)]] w fun e w' => ∃ v, e = .returned v ∧
      w'.ownsRow w.heap.size 23 1 v (intKeys D0).length (((intKeys D0).mergeSort leI).map encU) ∧ Below w.heap.size w w' := by
  have hBm : Bm < w.heap.size := World.block_lt_of_cell? w _ hm
  have hseq : SeqGives Fence.wide 2 Tryz.prog 44 #[.pointer (some ⟨Bm, 0, none⟩)] encU (fun ss => ss.Perm (intKeys D0)) (Maps.size D0) w :=
    AnyZI.keys_gives (ρ := keysA_ren) { keysA with } Fence.wide _ trivial rfl (by omega) Bm b nn D0 _ hBm hm hown
  have cS := AnyZI.sorted_in sortedA Fence.wide 5 trivial trivial trivial trivial rfl (by omega) (sortsA _) (enters_of Tryz.func43 (by kernel_rfl) rfl) 44 #[.pointer (some ⟨Bm, 0, none⟩)] trivial (enters_of Tryz.func44 (by kernel_rfl) rfl) _ _ (by unfold maxLen; omega) (by omega) _ hseq
  refine ((callsIn_wide (n := 5)).1 cS).mono ?_
  rintro e w' ⟨v, ss, rfl, hS, hrow, hnil, hb⟩
  refine ⟨v, rfl, ?_, hb⟩
  rw [← hS.length_eq, ← mergeSort_of_perm_i hS]
  exact hrow
end Go.Proofs.YtgogbpkcceadbaaGreatDoor.Srt
