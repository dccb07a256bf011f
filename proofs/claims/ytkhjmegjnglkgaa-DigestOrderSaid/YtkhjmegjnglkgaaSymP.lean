/-
  Plain laws of the stable sort: what is merged in place stays in order and keeps the order of equals.
-/
import Derived.Test.YtkhjmegjnglkgaaRows
import Derived.Sort.LotA
namespace Go.Proofs.Ytkhjmegjnglkgaa.Sym
open Go.Sort
set_option linter.unusedVariables false
variable {α : Type} [Inhabited α] {lt : α → α → Bool}

/-- Neither is less. -/
def eqv (lt : α → α → Bool) (x y : α) : Bool := !lt x y && !lt y x
/-- The places of a part are permuted among themselves, and equals keep their order. -/
structure Mrg (lt : α → α → Bool) (a b : Nat) (d d' : Array α) : Prop where
  perm : PermIn a b d d'
  stab : ∀ x, d'.toList.filter (eqv lt x) = d.toList.filter (eqv lt x)
theorem Mrg.refl (a b : Nat) (d : Array α) : Mrg lt a b d d := ⟨permIn_refl d a b, fun _ => rfl⟩
theorem Mrg.trans {a b : Nat} {d e f : Array α} (h : Mrg lt a b d e) (h' : Mrg lt a b e f) : Mrg lt a b d f := ⟨permIn_trans _ _ _ a b h.perm h'.perm, fun x => (h'.stab x).trans (h.stab x)⟩
theorem Mrg.mono {a b a' b' : Nat} {d e : Array α} (h : Mrg lt a b d e) (ha : a' ≤ a) (hb : b ≤ b') (hs : b' ≤ d.size) : Mrg lt a' b' d e := ⟨permIn_mono _ _ _ _ _ _ ha hb hs h.perm, h.stab⟩
theorem Mrg.size {a b : Nat} {d e : Array α} (h : Mrg lt a b d e) : e.size = d.size := h.perm.1
theorem Mrg.out {a b : Nat} {d e : Array α} (h : Mrg lt a b d e) {i : Nat} (hi : i < a ∨ b ≤ i) : e[i]! = d[i]! := h.perm.2.1 i hi
theorem Mrg.all {a b : Nat} {d e : Array α} (h : Mrg lt a b d e) (hb : b ≤ d.size) {p : α → Prop} (hp : ∀ i, a ≤ i → i < b → p d[i]!) : ∀ i, a ≤ i → i < b → p e[i]! := permIn_all _ _ a b p hb h.perm hp

theorem toList_get (d : Array α) {i : Nat} (h : i < d.size) : d.toList[i]? = some d[i]! := by
  rw [Array.getElem?_toList, Array.getElem?_eq_getElem h, getElem!_pos d i h]
theorem get_of_list {d : Array α} {A : List α} {x : α} {B : List α} (h : d.toList = A ++ x :: B) {k : Nat} (hk : k = A.length) : d[k]! = x := by
  subst hk
  have hs : A.length < d.size := by
    have := congrArg List.length h
    simp at this
    omega
  have e := toList_get d hs
  rw [h] at e
  simpa using e.symm
theorem split2 (d : Array α) {k : Nat} (h : k + 1 < d.size) : ∃ A B, A.length = k ∧ d.toList = A ++ d[k]! :: d[k + 1]! :: B := by
  refine ⟨d.toList.take k, d.toList.drop (k + 2), by simp; omega, ?_⟩
  apply List.ext_getElem?
  intro i
  by_cases h1 : i < k
  · rw [List.getElem?_append_left (by simp; omega), List.getElem?_take_of_lt h1]
  · rw [List.getElem?_append_right (by simp; omega)]
    have hl : (d.toList.take k).length = k := by simp; omega
    rw [hl]
    rcases (show i = k ∨ i = k + 1 ∨ k + 2 ≤ i by omega) with rfl | rfl | h2
    · simp [toList_get d (show i < d.size by omega)]
    · rw [show k + 1 - k = 1 by omega]
      simp [toList_get d h]
    · rw [show i - k = (i - k - 2) + 2 by omega]
      simp only [List.getElem?_cons_succ, List.getElem?_drop]
      congr 1
      omega
theorem swp_list {d : Array α} {A M B : List α} {x y : α} (h : d.toList = A ++ x :: (M ++ y :: B)) {i j : Nat} (hi : i = A.length) (hj : j = A.length + 1 + M.length) : (swp d i j).toList = A ++ y :: (M ++ x :: B) := by
  have ex : d[i]! = x := get_of_list h hi
  have ey : d[j]! = y := get_of_list (A := A ++ x :: M) (B := B) (by rw [h]; simp) (by simp; omega)
  unfold swp
  rw [ex, ey, Array.toList_setIfInBounds, Array.toList_setIfInBounds, h, hi, hj]
  rw [List.set_append_right _ _ (Nat.le_refl _), Nat.sub_self, List.set_cons_zero, List.set_append_right _ _ (by omega), show A.length + 1 + M.length - A.length = M.length + 1 by omega, List.set_cons_succ, List.set_append_right _ _ (Nat.le_refl _), Nat.sub_self, List.set_cons_zero]
theorem swp_comm (d : Array α) (i j : Nat) (hi : i < d.size) (hj : j < d.size) : swp d i j = swp d j i := by
  apply Array.ext (by simp [swp])
  intro k h1 h2
  have g1 := swp_get d hi hj k
  have g2 := swp_get d hj hi k
  rw [← getElem!_pos _ k h1, ← getElem!_pos _ k h2, g1, g2]
  by_cases h3 : k = i
  · by_cases h4 : k = j
    · rw [if_pos h4, if_pos h3, ← h3, ← h4]
    · rw [if_neg h4, if_pos h3, if_pos h3]
  · by_cases h4 : k = j
    · rw [if_pos h4, if_neg h3, if_pos h4]
    · rw [if_neg h4, if_neg h3, if_neg h3, if_neg h4]
/-- Two neighbours out of order, exchanged. -/
theorem Mrg.adj (hS : SWO lt) (d : Array α) (k : Nat) (h : k + 1 < d.size) (hl : lt d[k + 1]! d[k]! = true) : Mrg lt k (k + 2) d (swp d k (k + 1)) := by
  refine ⟨swp_permIn d k (k + 2) k (k + 1) (Nat.le_refl _) (by omega) (by omega) (by omega) (by omega), fun x => ?_⟩
  obtain ⟨A, B, hA, e⟩ := split2 d h
  rw [swp_list (M := []) e hA.symm (by rw [hA]; rfl), e]
  simp only [List.nil_append, List.filter_append, List.filter_cons]
  by_cases h1 : eqv lt x d[k]! = true
  · by_cases h2 : eqv lt x d[k + 1]! = true
    · unfold eqv at h1 h2
      simp only [Bool.and_eq_true, Bool.not_eq_true'] at h1 h2
      have := hS.ntrans _ _ _ h2.2 h1.1
      rw [hl] at this
      cases this
    · simp [h1, h2]
  · by_cases h2 : eqv lt x d[k + 1]! = true <;> simp [h1, h2]
theorem Mrg.adj' (hS : SWO lt) (d : Array α) (k : Nat) (h : k + 1 < d.size) (hl : lt d[k + 1]! d[k]! = true) : Mrg lt k (k + 2) d (swp d (k + 1) k) := by
  rw [swp_comm d (k + 1) k h (by omega)]
  exact Mrg.adj hS d k h hl

/-! ### Insertion -/
theorem insInner_mrg (hS : SWO lt) (a b i : Nat) (hib : i < b) : ∀ (j : Nat) (d : Array α), a ≤ j → j ≤ i → b ≤ d.size → Mrg lt a b d (insInner lt a j d)
  | 0, d, _, _, _ => by
    unfold insInner
    exact Mrg.refl a b d
  | j + 1, d, haj, hji, hb => by
    unfold insInner
    split
    · rename_i hc
      simp only [Bool.and_eq_true, decide_eq_true_eq] at hc
      have h1 := (Mrg.adj' hS d j (by omega) hc.2).mono (a' := a) (b' := b) (by omega) (by omega) hb
      exact h1.trans (insInner_mrg hS a b i hib j _ (by omega) (by omega) (by rw [size_swp]; exact hb))
    · exact Mrg.refl a b d
theorem insOuter_mrg (hS : SWO lt) (a b : Nat) : ∀ (n i : Nat) (d : Array α), b - i = n → a < i → b ≤ d.size → Mrg lt a b d (insOuter lt a b i d)
  | 0, i, d, hn, _, _ => by
    rw [insOuter, if_neg (by omega)]
    exact Mrg.refl a b d
  | n + 1, i, d, hn, hai, hb => by
    rw [insOuter, if_pos (by omega)]
    have h1 := insInner_mrg hS a b i (by omega) i d (by omega) (Nat.le_refl _) hb
    exact h1.trans (insOuter_mrg hS a b n (i + 1) _ (by omega) (by omega) (by rw [h1.size]; exact hb))
theorem ins_mrg (hS : SWO lt) (d : Array α) (a b : Nat) (hab : a ≤ b) (hb : b ≤ d.size) : Mrg lt a b d (Sort.insertionSort lt d a b) ∧ SortedIn lt a b (Sort.insertionSort lt d a b) :=
  ⟨insOuter_mrg hS a b _ (a + 1) d rfl (by omega) hb, (insertionSort_holds hS d a b hab hb).2⟩

/-! ### Rotation -/
def swapR (d : Array α) (a b : Nat) : Nat → Array α
  | 0 => d
  | i + 1 => swp (swapR d a b i) (a + i) (b + i)
theorem swapR_size (d : Array α) (a b : Nat) : ∀ n, (swapR d a b n).size = d.size
  | 0 => rfl
  | n + 1 => by rw [swapR, size_swp, swapR_size d a b n]
theorem swapR_to {d : Array α} {A X M Y B : List α} (h : d.toList = A ++ (X ++ (M ++ (Y ++ B)))) (hl : X.length = Y.length) {a b : Nat} (ha : a = A.length) (hb : b = A.length + X.length + M.length) :
    ∀ i, i ≤ X.length → (swapR d a b i).toList = A ++ (Y.take i ++ (X.drop i ++ (M ++ (X.take i ++ (Y.drop i ++ B)))))
  | 0, _ => by simp [swapR, h]
  | i + 1, hi => by
    have ih := swapR_to h hl ha hb i (by omega)
    have hx : i < X.length := by omega
    have hy : i < Y.length := by omega
    rw [List.drop_eq_getElem_cons hx, List.drop_eq_getElem_cons hy] at ih
    have ih2 : (swapR d a b i).toList = (A ++ Y.take i) ++ X[i] :: ((X.drop (i + 1) ++ M ++ X.take i) ++ Y[i] :: (Y.drop (i + 1) ++ B)) := by rw [ih]; simp only [List.append_assoc, List.cons_append]
    rw [swapR, swp_list ih2 (by simp; omega) (by simp; omega), List.take_succ_eq_append_getElem hx, List.take_succ_eq_append_getElem hy]
    simp only [List.append_assoc, List.cons_append, List.nil_append]
theorem swapR_list {d : Array α} {A X M Y B : List α} (h : d.toList = A ++ (X ++ (M ++ (Y ++ B)))) (hl : X.length = Y.length) {a b n : Nat} (ha : a = A.length) (hb : b = A.length + X.length + M.length) (hn : n = X.length) :
    (swapR d a b n).toList = A ++ (Y ++ (M ++ (X ++ B))) := by
  have := swapR_to h hl ha hb n (by omega)
  rw [this, List.take_of_length_le (by omega), List.take_of_length_le (by omega), List.drop_of_length_le (by omega), List.drop_of_length_le (by omega)]
  simp
omit [Inhabited α] in
theorem split4 (d : Array α) {a m b : Nat} (h1 : a ≤ m) (h2 : m ≤ b) (h3 : b ≤ d.size) : ∃ A U V B, d.toList = A ++ (U ++ (V ++ B)) ∧ A.length = a ∧ U.length = m - a ∧ V.length = b - m := by
  refine ⟨d.toList.take a, (d.toList.drop a).take (m - a), (d.toList.drop m).take (b - m), d.toList.drop b, ?_, by simp; omega, by simp; omega, by simp; omega⟩
  have e1 := (List.take_append_drop a d.toList).symm
  have e2 := (List.take_append_drop (m - a) (d.toList.drop a)).symm
  have e3 := (List.take_append_drop (b - m) (d.toList.drop m)).symm
  rw [List.drop_drop, show a + (m - a) = m by omega] at e2
  rw [List.drop_drop, show m + (b - m) = b by omega] at e3
  rw [← e3, ← e2, ← e1]
theorem get_at {d : Array α} {A U B : List α} (h : d.toList = A ++ (U ++ B)) {i : Nat} (hi : i < U.length) : d[A.length + i]! = U[i] := by
  refine get_of_list (A := A ++ U.take i) (B := U.drop (i + 1) ++ B) ?_ (by simp; omega)
  rw [h, List.append_assoc]
  congr 1
  rw [← List.cons_append, ← List.append_assoc, ← List.drop_eq_getElem_cons hi, List.take_append_drop]
theorem get_after {d : Array α} {A U V B : List α} (h : d.toList = A ++ (U ++ (V ++ B))) {i : Nat} (hi : i < V.length) : d[A.length + U.length + i]! = V[i] := by
  have := get_at (A := A ++ U) (U := V) (B := B) (by rw [h]; simp) hi
  rwa [List.length_append] at this
/-- The rotation of two blocks, all of the second less than all of the first. -/
theorem Mrg.rot (hS : SWO lt) {d d' : Array α} {A U V B : List α} (h : d.toList = A ++ (U ++ (V ++ B))) (h' : d'.toList = A ++ (V ++ (U ++ B))) (hl : ∀ u ∈ U, ∀ v ∈ V, lt v u = true) {a b : Nat} (ha : a = A.length) (hb : b = A.length + U.length + V.length) : Mrg lt a b d d' := by
  have hsz : d'.size = d.size := by
    have e1 := congrArg List.length h
    have e2 := congrArg List.length h'
    simp at e1 e2
    omega
  have hds : d.size = A.length + U.length + V.length + B.length := by
    have e1 := congrArg List.length h
    simp at e1
    omega
  have hx : ∀ (e : Array α) (L : List α), e.toList = A ++ (L ++ B) → L.length = U.length + V.length → (e.extract a b).toList = L := fun e L he hL => by
    rw [Array.toList_extract, he]
    simp only [List.extract]
    rw [ha, List.drop_left, List.take_left' (by omega)]
  refine ⟨⟨hsz, fun i hi => ?_, ?_⟩, fun x => ?_⟩
  · by_cases h1 : i < d.size
    · have e1 := toList_get d h1
      have e2 := toList_get d' (show i < d'.size by omega)
      rw [h] at e1
      rw [h'] at e2
      rcases hi with hi | hi
      · rw [List.getElem?_append_left (by omega)] at e1 e2
        rw [e1] at e2
        exact (Option.some.inj e2).symm
      · rw [List.getElem?_append_right (by omega), List.getElem?_append_right (by omega), List.getElem?_append_right (by omega)] at e1 e2
        rw [show i - A.length - V.length - U.length = i - A.length - U.length - V.length by omega, e1] at e2
        exact (Option.some.inj e2).symm
    · rw [getElem!_neg _ i (by omega), getElem!_neg _ i (by omega)]
  · rw [hx d' (V ++ U) (by rw [h']; simp) (by simp; omega), hx d (U ++ V) (by rw [h]; simp) (by simp)]
    exact List.perm_append_comm
  · rw [h, h']
    simp only [List.filter_append]
    congr 1
    rw [← List.append_assoc, ← List.append_assoc]
    congr 1
    by_cases hu : U.filter (eqv lt x) = []
    · rw [hu]; simp
    · obtain ⟨u, hu2⟩ := List.exists_mem_of_ne_nil _ hu
      obtain ⟨hu3, hu4⟩ := List.mem_filter.1 hu2
      have hv : V.filter (eqv lt x) = [] := by
        rw [List.filter_eq_nil_iff]
        intro v hv hv2
        have h1 := hl u hu3 v hv
        unfold eqv at hu4 hv2
        simp only [Bool.and_eq_true, Bool.not_eq_true'] at hu4 hv2
        rw [hS.ntrans _ _ _ hv2.2 hu4.1] at h1
        cases h1
      rw [hv]; simp
end Go.Proofs.Ytkhjmegjnglkgaa.Sym
