/-
  What the reference's Join comes to.
-/
import Derived.Test.YtkhjmegjnglkgaaOpW
namespace Go.Proofs.Ytkhjmegjnglkgaa.Vc
open Go.RowKit Go.Proofs.Ytkhjmegjnglkgaa.Wd
set_option linter.unusedVariables false

/-- The join of the first k replicas; the others as they are. -/
def joinTo (a b : List Nat) (k : Nat) : List Nat := (List.range 16).map fun i => if i < k then max (a.getD i 0) (b.getD i 0) else a.getD i 0
theorem joinTo_get {a b : List Nat} {k j : Nat} (h : j < 16) : (joinTo a b k).getD j 0 = if j < k then max (a.getD j 0) (b.getD j 0) else a.getD j 0 := by
  unfold joinTo
  rw [List.getD_eq_getElem?_getD, List.getElem?_map, List.getElem?_range h]
  rfl
theorem joinTo_vec {a b : List Nat} (ha : IsVec a) (hb : IsVec b) (k : Nat) : IsVec (joinTo a b k) := by
  refine ⟨by simp [joinTo], fun x hx => ?_⟩
  unfold joinTo at hx
  obtain ⟨i, hi, rfl⟩ := List.mem_map.1 hx
  have h1 := ha.at_ i
  have h2 := hb.at_ i
  split <;> omega
theorem joinTo_zero {a b : List Nat} (ha : IsVec a) : joinTo a b 0 = a := by
  apply List.ext_getElem (by simp [joinTo, ha.len])
  intro i h1 h2
  have h16 : i < 16 := by rw [ha.len] at h2; exact h2
  have h := joinTo_get (a := a) (b := b) (k := 0) h16
  rw [if_neg (by omega), List.getD_eq_getElem?_getD, List.getElem?_eq_getElem h1, List.getD_eq_getElem?_getD, List.getElem?_eq_getElem h2] at h
  exact h
theorem joinTo_set {a b : List Nat} (ha : IsVec a) {k : Nat} (hk : k < 16) : (joinTo a b k).set k (max (a.getD k 0) (b.getD k 0)) = joinTo a b (k + 1) := by
  apply List.ext_getElem (by simp [joinTo])
  intro i h1 h2
  have h16 : i < 16 := by simpa [joinTo] using h2
  have e1 := joinTo_get (a := a) (b := b) (k := k) h16
  have e2 := joinTo_get (a := a) (b := b) (k := k + 1) h16
  rw [List.getD_eq_getElem?_getD, List.getElem?_eq_getElem (by simpa [joinTo] using h16)] at e1
  rw [List.getD_eq_getElem?_getD, List.getElem?_eq_getElem h2] at e2
  simp only [Option.getD_some] at e1 e2
  rw [List.getElem_set, e2]
  by_cases h : k = i
  · subst h
    rw [if_pos rfl, if_pos (by omega)]
  · rw [if_neg h, e1]
    by_cases h3 : i < k
    · rw [if_pos h3, if_pos (by omega)]
    · rw [if_neg h3, if_neg (by omega)]
/-- What the join means more is what is missing. -/
theorem vsum_range (f : Nat → Nat) : ∀ n, vsum ((List.range n).map f) = (List.range n).foldl (fun s i => s + f i) 0
  | 0 => rfl
  | n + 1 => by
    rw [List.range_succ, List.map_append, vsum_append, vsum_range f n, List.foldl_append]
    simp [vsum]
theorem VecAt.set {w : World} {g : Nat} {xs : List Nat} (h : VecAt w g xs) {k x : Nat} (hx : x ≤ 4294967295) : VecAt (w.setCell ⟨g, k, none⟩ (.int .u32 (x : Int))) g (xs.set k x) := by
  refine ⟨⟨by simp [h.vec.len], fun y hy => ?_⟩, ?_⟩
  · rcases List.mem_or_eq_of_mem_set hy with h2 | rfl
    · exact h.vec.small y h2
    · exact hx
  · rw [setCell_eq_setRow w g k _ _ _ _ h.row, setRow_heap w g _ _ _ _ h.row]
    congr 2
    unfold vecA
    rw [List.map_set]
    simp
end Go.Proofs.Ytkhjmegjnglkgaa.Vc
