/-
  How an argument of rows of bytes is opened.
-/
import Derived.Test.YtchncgniiohgdaaDoorOpen
import Derived.Test.YtchncgniiohgdaaDoorBRows
import Derived.Deep.Matrix
namespace Go.Proofs.YtchncgniiohgdaaDoor.Opn
open Go.ChangeShapes Go.WideShapes Go.ChangeAt Go.RowKit Go.Proofs.YtchncgniiohgdaaDoor.Wd

theorem open_rows {H : Type} {enc : TypeId × Value → H} {W : World} {a : Option Addr} {len cap : Nat} {d : DataW H} {ps : List MemPlace}
    (h : DataW.Trod enc Tryd.prog W 0 (fun _ => true) true 34 (.slice a len cap) d ps) : ∃ l, RdL W a len l ∧ len ≤ cap := by
  obtain ⟨fuel, hf⟩ := h
  rcases Deep.open_int_rows Tryd.underlying34 Tryd.underlying22 Tryd.underlying5 (by kernel_rfl) (by kernel_rfl) hf with ⟨hcs, _⟩ | ⟨x, l, c, A, L, C, Z, hcs, _, hl, hm, _, hr⟩
  · simp [Value.cells] at hcs
    obtain ⟨rfl, rfl, rfl⟩ := hcs
    exact ⟨[], ⟨rfl, by decide, fun h => absurd h (by decide)⟩, Nat.le_refl _⟩
  · simp [Value.cells] at hcs
    obtain ⟨rfl, rfl, rfl⟩ := hcs
    refine ⟨(List.range len).map fun r => ((Z r).take (L r)).map Int.toNat, ⟨by simp, by unfold maxLen at hm; omega, fun _ => ⟨x, rfl, fun j hj => ?_⟩⟩, hl⟩
    obtain ⟨r0, r1, r2, r3, r4, r5, r6⟩ := hr j (by omega)
    have e : ((List.range len).map fun r => ((Z r).take (L r)).map Int.toNat).getD j [] = ((Z j).take (L j)).map Int.toNat := by
      rw [List.getD_eq_getElem?_getD, List.getElem?_map, List.getElem?_range hj]
      rfl
    have el : (((Z j).take (L j)).map Int.toNat).length = L j := by simp; omega
    rw [e, el]
    refine ⟨A j, C j, r0, r1, ?_⟩
    cases hA : A j with
    | none =>
      have h0 := r5 hA
      have hz : L j = 0 := by omega
      rw [hz]
      exact ⟨by simp, by decide, by simp, fun h => absurd h (by decide)⟩
    | some y => exact rdB_of r1 r2 r3 (fun i hi => (r6 y hA).2 i (by omega)) r4
end Go.Proofs.YtchncgniiohgdaaDoor.Opn
