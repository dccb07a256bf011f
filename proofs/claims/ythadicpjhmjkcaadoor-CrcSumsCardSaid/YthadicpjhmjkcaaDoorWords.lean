/-
  Words on memory for this seat's walks: a slice of bytes that reads as a list of numbers; nothing of the program's functions.
-/
import Derived.Test.YthadicpjhmjkcaaDoorRows
import Derived.WalkKit
import Derived.Below
import Derived.Laws.OwnMore
import Derived.Deep.AppendLies
import Derived.Deep.Draws
import Derived.Laws.BitsAll
namespace Go.Proofs.YthadicpjhmjkcaaDoor.Wd
open Go.RowKit

/-- The slice value '.slice A n c' reads as the bytes xs; nil, empty and other slices alike. -/
structure RdB (w : World) (A : Option Addr) (n : Nat) (xs : List Nat) : Prop where
  len : xs.length = n
  fits : n ≤ 9223372036854775807
  small : ∀ x ∈ xs, x < 256
  cell : 0 < n → ∃ ad, A = some ad ∧ ∀ j, j < n → w.cell? (ad.add j) = some (.int .u8 ((xs.getD j 0 : Nat) : Int))

theorem getD_lt {xs : List Nat} (h : ∀ x ∈ xs, x < 256) (j : Nat) : xs.getD j 0 < 256 := by
  by_cases hj : j < xs.length
  · rw [List.getD_eq_getElem?_getD, List.getElem?_eq_getElem hj]; exact h _ (List.getElem_mem hj)
  · rw [List.getD_eq_getElem?_getD, List.getElem?_eq_none (by omega)]; decide
theorem RdB.at_ {w : World} {A : Option Addr} {n : Nat} {xs : List Nat} (h : RdB w A n xs) {k : Nat} (hk : k < n) :
    ∃ ad, A = some ad ∧ w.cell? (ad.add k) = some (.int .u8 ((xs.getD k 0 : Nat) : Int)) ∧ xs.getD k 0 < 256 := by
  obtain ⟨ad, e, hc⟩ := h.cell (by omega)
  exact ⟨ad, e, hc k hk, getD_lt h.small k⟩
theorem RdB.below {w w1 : World} {A : Option Addr} {n : Nat} {xs : List Nat} (h : RdB w A n xs) (hb : Below w.heap.size w w1) : RdB w1 A n xs :=
  ⟨h.len, h.fits, h.small, fun hn => by
    obtain ⟨ad, e, hc⟩ := h.cell hn
    exact ⟨ad, e, fun j hj => (hb.cell (World.block_lt_of_cell? w _ (hc j hj))).trans (hc j hj)⟩⟩
theorem take_snoc {xs : List Nat} {k : Nat} (h : k < xs.length) : xs.take (k + 1) = xs.take k ++ [xs.getD k 0] := by
  rw [List.take_succ_eq_append_getElem h, List.getD_eq_getElem?_getD, List.getElem?_eq_getElem h]; rfl
/-- Bytes as a row of cells. -/
def byteVals (xs : List Nat) : Array Value := (xs.map fun x => Value.int .u8 ((x : Nat) : Int)).toArray
theorem RdB.new (w : World) (e : TypeId) (fr : Nat × Nat) (xs : List Nat) (h : ∀ x ∈ xs, x < 256) (hl : xs.length ≤ 9223372036854775807) :
    RdB (w.alloc (.cells (byteVals xs) e fr)) (some ⟨w.heap.size, 0, none⟩) xs.length xs :=
  ⟨rfl, hl, h, fun _ => ⟨_, rfl, fun j hj => by
    have hb : (w.alloc (.cells (byteVals xs) e fr)).heap[w.heap.size]? = some (.cells (byteVals xs) e fr) := by
      show (w.heap.push _)[w.heap.size]? = _
      simp
    have hadd : (⟨w.heap.size, 0, none⟩ : Addr).add j = ⟨w.heap.size, j, none⟩ := by unfold Addr.add; split <;> simp_all
    rw [hadd, cell_of_row _ _ j _ _ _ hb]
    simp [byteVals, List.getD_eq_getElem?_getD, List.getElem?_eq_getElem hj]⟩⟩
theorem RdB.nil_ (w : World) : RdB w none 0 [] := ⟨rfl, by decide, by simp, fun h => absurd h (by decide)⟩
end Go.Proofs.YthadicpjhmjkcaaDoor.Wd
