/-
  Plain laws: the stable order is what is picked by taking the first least one, again and again.
-/
import Derived.Test.YtkhjmegjnglkgaaSymQ
namespace Go.Proofs.Ytkhjmegjnglkgaa.Sym
open Go.Sort
set_option linter.unusedVariables false
variable {α : Type} [Inhabited α] {lt : α → α → Bool}

/-- The first least one's place among the first k + 1. -/
def bst (lt : α → α → Bool) (l : List α) : Nat → Nat
  | 0 => 0
  | k + 1 => if lt l[k + 1]! l[bst lt l k]! then k + 1 else bst lt l k
theorem bst_le (l : List α) : ∀ k, bst lt l k ≤ k
  | 0 => Nat.le_refl _
  | k + 1 => by
    have := bst_le l k
    unfold bst
    split <;> omega
theorem bst_spec (hS : SWO lt) (l : List α) : ∀ k, (∀ j, j ≤ k → lt l[j]! l[bst lt l k]! = false) ∧ ∀ j, j < bst lt l k → lt l[bst lt l k]! l[j]! = true
  | 0 => ⟨fun j hj => by rw [show j = 0 by omega]; exact hS.irrefl _, fun j hj => absurd hj (Nat.not_lt_zero _)⟩
  | k + 1 => by
    obtain ⟨h1, h2⟩ := bst_spec hS l k
    have hle := bst_le (lt := lt) l k
    unfold bst
    cases h : lt l[k + 1]! l[bst lt l k]! with
    | true =>
      simp only [if_true]
      have h3 : ∀ j, j ≤ k → lt l[k + 1]! l[j]! = true := fun j hj => lt_le hS h (h1 j hj)
      refine ⟨fun j hj => ?_, fun j hj => h3 j (by omega)⟩
      by_cases e : j = k + 1
      · rw [e]; exact hS.irrefl _
      · exact asym hS (h3 j (by omega))
    | false =>
      simp only [Bool.false_eq_true, if_false]
      refine ⟨fun j hj => ?_, h2⟩
      by_cases e : j = k + 1
      · rw [e]; exact h
      · exact h1 j (by omega)
/-- The place of the first least one. -/
def bestI (lt : α → α → Bool) (l : List α) : Nat := bst lt l (l.length - 1)
theorem bestI_lt (l : List α) (h : l ≠ []) : bestI lt l < l.length := by
  have := bst_le (lt := lt) l (l.length - 1)
  have h2 : 0 < l.length := List.length_pos_iff.2 h
  unfold bestI
  omega
/-- So many of the first least ones. -/
def selN (lt : α → α → Bool) : Nat → List α → List α
  | 0, _ => []
  | n + 1, l => if l.isEmpty then [] else l[bestI lt l]! :: selN lt n (l.eraseIdx (bestI lt l))
theorem selN_nil (n : Nat) : selN lt n ([] : List α) = [] := by cases n <;> rfl
theorem selN_cons {n : Nat} {l : List α} (h : l ≠ []) : selN lt (n + 1) l = l[bestI lt l]! :: selN lt n (l.eraseIdx (bestI lt l)) := by
  rw [selN, if_neg (by simpa using h)]
theorem selN_length : ∀ (n : Nat) (l : List α), (selN lt n l).length = min n l.length
  | 0, l => by simp [selN]
  | n + 1, l => by
    by_cases h : l = []
    · subst h; simp [selN]
    · have hb := bestI_lt (lt := lt) l h
      rw [selN_cons h, List.length_cons, selN_length n, List.length_eraseIdx, if_pos hb]
      omega
theorem selN_mem : ∀ (n : Nat) (l : List α), ∀ x ∈ selN lt n l, x ∈ l
  | 0, l, x, hx => by simp [selN] at hx
  | n + 1, l, x, hx => by
    by_cases h : l = []
    · subst h; simp [selN] at hx
    · have hb := bestI_lt (lt := lt) l h
      rw [selN_cons h] at hx
      rcases List.mem_cons.1 hx with rfl | hx
      · rw [getElem!_pos l _ hb]; exact List.getElem_mem hb
      · exact List.mem_of_mem_eraseIdx (selN_mem n _ x hx)
theorem filter_erase {p : α → Bool} {l : List α} {b : Nat} (hb : b < l.length) (hbefore : p l[b]! = true → ∀ j, j < b → p l[j]! = false) : l.filter p = if p l[b]! then l[b]! :: (l.eraseIdx b).filter p else (l.eraseIdx b).filter p := by
  have e1 : l = l.take b ++ l[b] :: l.drop (b + 1) := by rw [← List.drop_eq_getElem_cons hb, List.take_append_drop]
  have e2 : l.eraseIdx b = l.take b ++ l.drop (b + 1) := List.eraseIdx_eq_take_drop_succ l b
  have e3 : l[b]! = l[b] := getElem!_pos l b hb
  rw [e2, e3]
  conv => lhs; rw [e1]
  rw [List.filter_append, List.filter_cons, List.filter_append]
  rw [e3] at hbefore
  cases h : p l[b] with
  | false => simp
  | true =>
    have hn : (l.take b).filter p = [] := by
      rw [List.filter_eq_nil_iff]
      intro y hy
      obtain ⟨i, hi, rfl⟩ := List.getElem_of_mem hy
      have hi2 : i < b := by simp at hi; omega
      have := hbefore h i hi2
      rw [getElem!_pos l i (by omega)] at this
      rw [List.getElem_take]
      simp [this]
    simp [hn]
omit [Inhabited α] in
theorem eqv_refl (hS : SWO lt) (x : α) : eqv lt x x = true := by simp [eqv, hS.irrefl]
/-- THE LAW: what is in order, and keeps the order of equals, is what is picked. -/
theorem sel_uniq (hS : SWO lt) : ∀ (n : Nat) (l d : List α), l.length ≤ n → d.Pairwise (fun x y => lt y x = false) → (∀ x, d.filter (eqv lt x) = l.filter (eqv lt x)) → d = selN lt n l
  | n, [], d, _, _, hf => by
    rw [selN_nil]
    cases d with
    | nil => rfl
    | cons y d =>
      have := hf y
      rw [List.filter_cons, if_pos (eqv_refl hS y)] at this
      simp at this
  | 0, z :: l, d, hn, _, _ => by simp at hn
  | n + 1, z :: l0, d, hn, hp, hf => by
    obtain ⟨l, hl⟩ : ∃ l, l = z :: l0 := ⟨_, rfl⟩
    rw [← hl] at hn hf ⊢
    have hne : l ≠ [] := by rw [hl]; simp
    have hb := bestI_lt (lt := lt) l hne
    obtain ⟨s1, s2⟩ := bst_spec hS l (l.length - 1)
    obtain ⟨b, hbb⟩ : ∃ b, b = bestI lt l := ⟨_, rfl⟩
    have s1' : ∀ j, j < l.length → lt l[j]! l[b]! = false := fun j hj => by rw [hbb]; exact s1 j (by omega)
    have s2' : ∀ j, j < b → lt l[b]! l[j]! = true := fun j hj => by rw [hbb] at hj ⊢; exact s2 j hj
    rw [selN_cons hne, ← hbb]
    rw [← hbb] at hb
    have hbe : ∀ x, eqv lt x l[b]! = true → ∀ j, j < b → eqv lt x l[j]! = false := fun x hx j hj => by
      cases h : eqv lt x l[j]! with
      | false => rfl
      | true =>
        unfold eqv at hx h
        simp only [Bool.and_eq_true, Bool.not_eq_true'] at hx h
        have := hS.ntrans _ _ _ hx.2 h.1
        rw [s2' j hj] at this
        cases this
    have hfl := fun x => filter_erase (p := eqv lt x) hb (hbe x)
    cases d with
    | nil =>
      have := hf l[b]!
      rw [hfl, if_pos (eqv_refl hS _)] at this
      simp at this
    | cons y d =>
      have hy : y ∈ l := by
        have h1 : y ∈ (y :: d).filter (eqv lt y) := by simp [eqv_refl hS y]
        rw [hf y] at h1
        exact (List.mem_filter.1 h1).1
      obtain ⟨i, hi, rfl⟩ := List.getElem_of_mem hy
      have hyb : lt l[i] l[b]! = false := by
        have := s1' i hi
        rwa [getElem!_pos l i hi] at this
      have hbd : l[b]! ∈ l[i] :: d := by
        have h1 : l[b]! ∈ l.filter (eqv lt l[b]!) := List.mem_filter.2 ⟨by rw [getElem!_pos l b hb]; exact List.getElem_mem hb, eqv_refl hS _⟩
        rw [← hf] at h1
        exact (List.mem_filter.1 h1).1
      have hby : lt l[b]! l[i] = false := by
        rcases List.mem_cons.1 hbd with e | e
        · rw [e]; exact hS.irrefl _
        · exact (List.pairwise_cons.1 hp).1 _ e
      have he : eqv lt l[b]! l[i] = true := by unfold eqv; rw [hyb, hby]; rfl
      have h0 := hf l[b]!
      rw [hfl, if_pos (eqv_refl hS _), List.filter_cons, if_pos he] at h0
      injection h0 with h1 h2
      rw [h1] at hf ⊢
      congr 1
      refine sel_uniq hS n _ d ?_ (List.pairwise_cons.1 hp).2 (fun x => ?_)
      · rw [List.length_eraseIdx, if_pos hb]; omega
      · have h3 := hf x
        rw [hfl x, List.filter_cons] at h3
        cases hx : eqv lt x l[b]! with
        | true =>
          rw [if_pos hx, if_pos hx] at h3
          injection h3
        | false =>
          rw [if_neg (by rw [hx]; exact Bool.false_ne_true), if_neg (by rw [hx]; exact Bool.false_ne_true)] at h3
          exact h3
/-- More room: but more is picked. -/
theorem selN_take : ∀ (k n : Nat) (l : List α), k ≤ n → selN lt k l = (selN lt n l).take k
  | 0, n, l, _ => by simp [selN]
  | k + 1, n, l, h => by
    obtain ⟨m, rfl⟩ : ∃ m, n = m + 1 := ⟨n - 1, by omega⟩
    by_cases e : l = []
    · subst e; rw [selN_nil, selN_nil]; rfl
    · rw [selN_cons e, selN_cons e, List.take_succ_cons, selN_take k m _ (by omega)]
theorem sorted_pairwise {d : Array α} {N : Nat} (h : SortedIn lt 0 N d) (hs : d.size = N) : d.toList.Pairwise (fun x y => lt y x = false) := by
  rw [List.pairwise_iff_getElem]
  intro i j hi hj hij
  have := h i j (Nat.zero_le _) hij (by simpa [hs] using hj)
  rw [getElem!_pos d j (by simpa using hj), getElem!_pos d i (by simpa using hi)] at this
  simpa using this
/-- What is picked is in order. -/
theorem selN_sorted (hS : SWO lt) : ∀ (n : Nat) (l : List α), (selN lt n l).Pairwise (fun x y => lt y x = false)
  | 0, l => by simp [selN]
  | n + 1, l => by
    by_cases e : l = []
    · subst e; rw [selN_nil]; exact List.Pairwise.nil
    · have hb := bestI_lt (lt := lt) l e
      rw [selN_cons e, List.pairwise_cons]
      refine ⟨fun y hy => ?_, selN_sorted hS n _⟩
      have hm := List.mem_of_mem_eraseIdx (selN_mem n _ y hy)
      obtain ⟨i, hi, rfl⟩ := List.getElem_of_mem hm
      have := (bst_spec hS l (l.length - 1)).1 i (by omega)
      rwa [getElem!_pos l i hi] at this
end Go.Proofs.Ytkhjmegjnglkgaa.Sym
