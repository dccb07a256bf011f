/-
  maps.Keys of the tallies, and slices.Sorted, at this program.
-/
import Derived.Test.YtgogbpkcceadbaaGreatDoorSrtT
import Derived.Test.YtgogbpkcceadbaaGreatDoorItr
import Derived.Ground.GgzProg
import Derived.Ground.SlgmProg
import Derived.Shelf.Lay
import Derived.Test.YtgogbpkcceadbaaGreatDoorVecM
namespace Go.Proofs.YtgogbpkcceadbaaGreatDoor.Srt
open Go.RowKit Go.Maps Go.Sort Go.Shelf
set_option linter.unusedVariables false

shelf_lay_g KeyL Ggz 7 at Tryz 21 as keysA
shelf_lay_g ItrL Ggz 6 at Tryz 20 as sortedA
shelf_lay_g SrtL Slgm 5 at Tryz 43 as sortA
theorem sortsA (m : Nat) : AnyZI.SortsIn Tryz.prog sortedA_ren Fence.wide m :=
  ⟨fun blk off cap ss W hH hblk hsz => callsIn_wide.2 (calls_of_every_depth fun D => AnySM.slices_Sort_int_in sortA D blk off cap ss W hH hblk hsz),
   fun p cap W => callsIn_wide.2 (AnyM.slices_Sort_int_none sortA p cap W)⟩
/-- maps.Keys boxes the map. -/
theorem keys_any (mb : Option Nat) (w : World) : Calls Tryz.prog 21 #[.map mb] w fun e w' =>
    e = .returned (.func (.func 44) #[] #[.pointer (some ⟨w.heap.size, 0, none⟩)]) ∧ w' = w.alloc (.cells #[.map mb] 57) :=
  (callsIn_wide (n := 6)).1 (AnyZI.keys_in keysA Fence.wide 6 trivial rfl mb w)
/-- slices.Sorted of what it hands back: the keys, ascending, in a new slice. -/
theorem sorted_any {H : Type} (b nn Bm : Nat) (D0 : DataW H) (R : Value → Option (DataW H × List MemPlace)) (w : World) (hown : w.ownsMap Tryz.prog 23 R b nn D0) (hm : w.cell? ⟨Bm, 0, none⟩ = some (.map (some b))) (hsz : Maps.size D0 ≤ 1000) :
    Calls Tryz.prog 20 #[.func (.func 44) #[] #[.pointer (some ⟨Bm, 0, none⟩)]] w fun e w' => ∃ v, e = .returned v ∧
      w'.ownsRow w.heap.size 23 1 v (intKeys D0).length (((intKeys D0).mergeSort leI).map encU) ∧ Below w.heap.size w w' := by
  have hBm : Bm < w.heap.size := World.block_lt_of_cell? w _ hm
  have hseq : SeqGives Fence.wide 2 Tryz.prog 44 #[.pointer (some ⟨Bm, 0, none⟩)] encU (fun ss => ss.Perm (intKeys D0)) (Maps.size D0) w :=
    AnyZI.keys_gives (ρ := keysA_ren) { keysA with } Fence.wide _ trivial rfl (by omega) Bm b nn D0 _ hBm hm hown
  have cS := AnyZI.sorted_in sortedA Fence.wide 5 trivial trivial trivial trivial rfl (by omega) (sortsA _) (enters_of Tryz.func43 (by kernel_rfl) rfl) 44 #[.pointer (some ⟨Bm, 0, none⟩)] trivial (enters_of Tryz.func44 (by kernel_rfl) rfl) _ _ (by unfold maxLen; omega) (by omega) _ hseq
  refine ((callsIn_wide (n := 5)).1 cS).mono ?_
  rintro e w' ⟨v, ss, rfl, hS, hrow, hnil, hb⟩
  refine ⟨v, rfl, ?_, hb⟩
  rw [← hS.length_eq, ← mergeSort_of_perm_i hS]
  exact hrow
end Go.Proofs.YtgogbpkcceadbaaGreatDoor.Srt
