/-
  Words on memory that name no type.
-/
import Derived.Test.YtkhjmegjnglkgaaRows
import Derived.WalkKit
import Derived.Below
import Derived.Laws.OwnMore
import Derived.Deep.AppendLies
import Derived.Deep.Draws
import Derived.Laws.BitsAll
import Derived.Maps.AppendAt
import Derived.OwnWalk
import Derived.KernelRfl
import Derived.Laws.BytesString
import Derived.Laws.Cells
import Derived.Laws.Strings
import Derived.RegionTactic
import Derived.Deep.OwnRows
import Derived.Deep.RegionHeld3
import Derived.Deep.QuietTactic
import Derived.BigQuiet
import Derived.Lib.Hide
import Derived.IntWalk
namespace Go.Proofs.Ytkhjmegjnglkgaa.Wd
open Go.RowKit

theorem getD_le {xs : List Nat} {top : Nat} (h : ∀ x ∈ xs, x ≤ top) (j : Nat) : xs.getD j 0 ≤ top := by
  by_cases hj : j < xs.length
  · rw [List.getD_eq_getElem?_getD, List.getElem?_eq_getElem hj]; exact h _ (List.getElem_mem hj)
  · rw [List.getD_eq_getElem?_getD, List.getElem?_eq_none (by omega)]; exact Nat.zero_le _
theorem drewN_below {B : Nat} {a w : World} (h : Below B a w) (n : Nat) : Below B a (w.drewN n) := ⟨h.os, h.tape, h.output, h.size, h.block⟩
theorem own_base {w : World} {b b' : Nat} {e : TypeId} {size n : Nat} {v : Value} {xs : List Value} (h : w.ownsRow b e size v n xs) (hb : b' ≤ b) : w.ownsRow b' e size v n xs := by
  refine ⟨h.1, ?_⟩
  rcases h.2 with h2 | ⟨g, cap, cur, h1, h2, h3⟩
  · exact .inl h2
  · exact .inr ⟨g, cap, cur, h1, by omega, h3⟩
theorem grown_none {w w' : World} (h : Below w.heap.size w w') : w.grownBy w' none := ⟨h.os, h.tape, h.output, h.size, fun i hi _ => h.block i hi⟩
theorem add_of_add (a : Addr) (i j : Nat) : (a.add i).add j = a.add (i + j) := by
  unfold Addr.add
  by_cases hi : i = 0 <;> by_cases hj : j = 0 <;> simp [hi, hj, Nat.add_assoc]
theorem add_block (ad : Addr) (j : Nat) : (ad.add j).block = ad.block := by
  unfold Addr.add
  split <;> rfl
theorem add_zero_ (ad : Addr) : ad.add 0 = ad := by
  cases ad
  simp [Addr.add]
end Go.Proofs.Ytkhjmegjnglkgaa.Wd
namespace Go.Proofs.Ytkhjmegjnglkgaa
/-- A load, kept whole: a walk takes it by a fact of its own. -/
def ldK (t : TypeId) (a : Addr) : Sem Value := loadVar t a
/-- A store, kept whole. -/
def stK (t : TypeId) (a : Addr) (v : Value) : Sem Unit := storeVar t a v
theorem ldKx (t : TypeId) (a : Addr) : loadVar t a = ldK t a := rfl
theorem stKx (t : TypeId) (a : Addr) (v : Value) : storeVar t a v = stK t a v := rfl
end Go.Proofs.Ytkhjmegjnglkgaa
