/-
  The library's insertion sort, laid at this program's operations.
-/
import Derived.Test.YtkhjmegjnglkgaaVec
import Derived.Shelf.SlSortCmp.InsertionK
import Derived.Shelf.SlGeneric
import Derived.Ground.SlsfProg
namespace Go.Proofs.Ytkhjmegjnglkgaa.Ins
open Go.Shelf Go.Proofs
shelf_lay_g SlLaysF0.n20 Slsf 20 at Try 41 as insL
end Go.Proofs.Ytkhjmegjnglkgaa.Ins
