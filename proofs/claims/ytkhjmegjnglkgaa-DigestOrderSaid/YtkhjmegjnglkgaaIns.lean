/-
  The library's insertion sort, laid at this program's operations.
-/
import Derived.Test.YtkhjmegjnglkgaaVec
import Derived.Shelf.SlSortCmp.InsertionK
namespace Go.Proofs.Ytkhjmegjnglkgaa.Ins
open Go.Shelf Go.Proofs
def insL_ren : Go.Shelf.Ren := ⟨fun | 20 => 41 | n => n, fun | 24 => 54 | 22 => 40 | 3 => 3 | 25 => 61 | 4 => 4 | 0 => 0 | n => n, fun | n => n⟩
theorem insL : SlLaysF0.n20 Try.prog insL_ren := {
  mixed := by kernel_rfl
  f20 := ⟨Try.f41.name, by decide, Try.func41.trans (congrArg some (by kernel_rfl))⟩
  t0 := Try.underlying0
  a0 := Try.isAgg0
  z0 := Try.sizeOf0
  v0 := Try.zeroValue0
  t3 := Try.underlying3
  a3 := Try.isAgg3
  z3 := Try.sizeOf3
  v3 := Try.zeroValue3
  t4 := Try.underlying4
  a4 := Try.isAgg4
  z4 := Try.sizeOf4
  v4 := Try.zeroValue4
  t22 := Try.underlying40
  a22 := Try.isAgg40
  z22 := Try.sizeOf40
  v22 := Try.zeroValue40
  t25 := Try.underlying61
  a25 := Try.isAgg61
  z25 := Try.sizeOf61
  v25 := Try.zeroValue61 }
end Go.Proofs.Ytkhjmegjnglkgaa.Ins
