/-
  Plain laws of what the laws 'FrameBack' and 'FrameJoin' keep of their rows.
-/
import Derived.Test.YtchncgniiohgdaaDoorFramePlain
namespace Go.Proofs.YtchncgniiohgdaaDoor.FrameP

def kept (l : List (List Nat)) : List (List Nat) := l.filter fun b => decide (b.length ≤ 300)
theorem take_snocL {l : List (List Nat)} {k : Nat} (h : k < l.length) : l.take (k + 1) = l.take k ++ [l.getD k []] := by
  rw [List.take_add_one, List.getElem?_eq_getElem h, List.getD_eq_getElem?_getD, List.getElem?_eq_getElem h]
  rfl
theorem kept_in {l : List (List Nat)} {k : Nat} (h : k < l.length) (hb : (l.getD k []).length ≤ 300) : kept (l.take (k + 1)) = kept (l.take k) ++ [l.getD k []] := by
  unfold kept
  rw [take_snocL h, List.filter_append, List.filter_cons_of_pos (by simpa using hb), List.filter_nil]
theorem kept_out {l : List (List Nat)} {k : Nat} (h : k < l.length) (hb : ¬ (l.getD k []).length ≤ 300) : kept (l.take (k + 1)) = kept (l.take k) := by
  unfold kept
  rw [take_snocL h, List.filter_append, List.filter_cons_of_neg (by simpa using hb), List.filter_nil, List.append_nil]
theorem kept_mem {l : List (List Nat)} {b : List Nat} (h : b ∈ kept l) : b ∈ l ∧ b.length ≤ 300 := by
  unfold kept at h
  rw [List.mem_filter] at h
  simpa using h
theorem kept_length (l : List (List Nat)) (k : Nat) : (kept (l.take k)).length ≤ k := by
  unfold kept
  have := List.length_filter_le (fun b : List Nat => decide (b.length ≤ 300)) (l.take k)
  have := List.length_take_le k l
  omega
theorem frames_le : ∀ {l : List (List Nat)}, (∀ b ∈ l, b.length ≤ 300) → (frames l).length ≤ 314 * l.length
  | [], _ => by simp [frames]
  | b :: l, h => by
    have ih := frames_le (l := l) fun c hc => h c (List.mem_cons_of_mem b hc)
    have hb := h b (by simp)
    have he := (VintP.enc_length b.length).2
    rw [frames, List.length_append, wrap_length, List.length_cons]
    omega
theorem frames_snoc (l : List (List Nat)) (b : List Nat) : frames (l ++ [b]) = frames l ++ wrap b := by
  rw [frames_append]
  simp [frames]
theorem within_snoc : ∀ (l : List (List Nat)) (b : List Nat) (k : Nat), within (l ++ [b]) k = if (frames (l ++ [b])).length ≤ k then l ++ [b] else within l k
  | [], b, k => by
    simp [within, frames]
  | c :: l, b, k => by
    have ih := within_snoc l b (k - (wrap c).length)
    rw [List.cons_append, within, within, frames, List.length_append]
    by_cases h : (wrap c).length ≤ k
    · rw [if_pos h, if_pos h, ih]
      by_cases h2 : (frames (l ++ [b])).length ≤ k - (wrap c).length
      · rw [if_pos h2, if_pos (by omega)]
      · rw [if_neg h2, if_neg (by omega)]
    · rw [if_neg h, if_neg h, if_neg (by omega)]
theorem within_all : ∀ (l : List (List Nat)) (k : Nat), (frames l).length ≤ k → within l k = l
  | [], k, _ => rfl
  | c :: l, k, h => by
    rw [frames, List.length_append] at h
    rw [within, if_pos (by omega), within_all l _ (by omega)]
theorem within_take : ∀ (l : List (List Nat)) (k : Nat), within l k = l.take (within l k).length
  | [], k => rfl
  | c :: l, k => by
    have ih := within_take l (k - (wrap c).length)
    rw [within]
    by_cases h : (wrap c).length ≤ k
    · rw [if_pos h, List.length_cons, List.take_succ_cons, ← ih]
    · rw [if_neg h]
      rfl
theorem within_get {l : List (List Nat)} {k j : Nat} (h : j < (within l k).length) : (within l k).getD j [] = l.getD j [] := by
  rw [within_take l k, List.getD_eq_getElem?_getD, List.getElem?_take_of_lt h, ← List.getD_eq_getElem?_getD]
theorem within_le (l : List (List Nat)) (k : Nat) : (within l k).length ≤ l.length := by
  rw [within_take l k, List.length_take]
  omega
theorem scan_le : ∀ (m : Nat) (b : List Nat), b.length ≤ m → (∀ x ∈ b, x < 256) → (scan b).2 ≤ b.length ∧ (scan b).1.length ≤ b.length
  | 0, b, h, _ => by
    have : b = [] := List.eq_nil_of_length_eq_zero (by omega)
    subst this
    simp [scan_nil]
  | m + 1, b, h, hs => by
    by_cases h0 : (first b).2.2 = 0
    · have hf : first b = ((first b).1, (first b).2.1, 0) := Prod.ext rfl (Prod.ext rfl h0)
      have hk := first_ok hs hf
      have ih := scan_le m (b.drop (first b).2.1) (by rw [List.length_drop]; omega) (fun x hx => hs x (List.mem_of_mem_drop hx))
      rw [List.length_drop] at ih
      rw [scan_step hs hf]
      simp only [List.length_cons]
      omega
    · rw [scan_stop h0]
      simp
end Go.Proofs.YtchncgniiohgdaaDoor.FrameP
