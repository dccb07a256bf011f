/-
  Plain laws of frames over numbers and lists: no program in sight.
-/
import Derived.Test.YtchncgniiohgdaaDoorCrcPlain
import Derived.Test.YtchncgniiohgdaaDoorVintPlain
namespace Go.Proofs.YtchncgniiohgdaaDoor.FrameP
open Go.Proofs.YtchncgniiohgdaaDoor.VintP

/-- A word's four bytes, the low one first. -/
def le4 (s : Nat) : List Nat := [s % 256, s / 256 % 256, s / 65536 % 256, s / 16777216 % 256]
theorem le4_length (s : Nat) : (le4 s).length = 4 := rfl
theorem le4_lt (s : Nat) : ∀ x ∈ le4 s, x < 256 := by
  intro x hx
  simp [le4] at hx
  omega
/-- What stands in a frame ahead of its sum. -/
def head (b : List Nat) : List Nat := enc b.length ++ b
def wrap (b : List Nat) : List Nat := head b ++ le4 (CrcP.sum (head b))
theorem head_lt {b : List Nat} (hb : ∀ x ∈ b, x < 256) (hl : b.length ≤ 4096) : ∀ x ∈ head b, x < 256 := by
  intro x hx
  rcases List.mem_append.1 hx with h | h
  · exact enc_lt (by omega) x h
  · exact hb x h
theorem wrap_lt {b : List Nat} (hb : ∀ x ∈ b, x < 256) (hl : b.length ≤ 4096) : ∀ x ∈ wrap b, x < 256 := by
  intro x hx
  rcases List.mem_append.1 hx with h | h
  · exact head_lt hb hl x h
  · exact le4_lt _ x h
theorem wrap_length (b : List Nat) : (wrap b).length = (enc b.length).length + b.length + 4 := by
  simp [wrap, head, le4]
  omega

/-- The frame at the beginning: what stands in it, its size, and the error. -/
def first (b : List Nat) : List Nat × Nat × Nat :=
  let r := get 0 0 b
  if r.2.2 ≠ 0 then ([], 0, r.2.2) else if 4096 < r.1 then ([], 0, 5) else if b.length < r.2.1 + r.1 + 4 then ([], 0, 4)
  else if le4 (CrcP.sum (b.take (r.2.1 + r.1))) ≠ (b.drop (r.2.1 + r.1)).take 4 then ([], 0, 6)
  else ((b.drop r.2.1).take r.1, r.2.1 + r.1 + 4, 0)

/-! ### What a reading that went well tells -/
theorem get_bound : ∀ (l : List Nat) (i N : Nat), get i N l = (0, 0, 4) ∨ get i N l = (0, 0, 5) ∨ ∃ n k, get i N l = (n, k, 0) ∧ i < k ∧ k ≤ i + l.length ∧ k ≤ 10
  | [], i, N => .inl rfl
  | c :: r, i, N => by
    rw [VintP.get]
    by_cases h1 : 9 < i ∨ i = 9 ∧ 1 < c
    · rw [if_pos h1]; exact .inr (.inl rfl)
    · rw [if_neg h1]
      by_cases h2 : 128 ≤ c
      · rw [if_pos h2]
        rcases get_bound r (i + 1) (N + c % 128 * 128 ^ i) with h | h | ⟨n, k, h, hk⟩
        · exact .inl h
        · exact .inr (.inl h)
        · refine .inr (.inr ⟨n, k, h, by omega, ?_, hk.2.2⟩)
          simp only [List.length_cons]
          omega
      · rw [if_neg h2]
        by_cases h3 : c = 0 ∧ 0 < i
        · rw [if_pos h3]; exact .inr (.inl rfl)
        · rw [if_neg h3]
          refine .inr (.inr ⟨_, _, rfl, by omega, ?_, by omega⟩)
          simp only [List.length_cons]
          omega
theorem get_err (b : List Nat) : (get 0 0 b).2.2 = 0 ∨ (get 0 0 b).2.2 = 4 ∨ (get 0 0 b).2.2 = 5 := by
  rcases get_bound b 0 0 with h | h | ⟨n, k, h, _⟩ <;> rw [h] <;> simp
theorem get_ok_aux : ∀ (l pre : List Nat) (N n k : Nat), (∀ x ∈ pre, 128 ≤ x) → (∀ x ∈ pre ++ l, x < 256) → N = val pre → N < 128 ^ pre.length → get pre.length N l = (n, k, 0) →
    enc n = (pre ++ l).take k ∧ n < 18446744073709551616 ∧ n = val ((pre ++ l).take k)
  | [], pre, N, n, k, _, _, _, _, h => by simp [VintP.get] at h
  | c :: r, pre, N, n, k, hp, hs, hN, hlt, h => by
    rw [VintP.get] at h
    by_cases h1 : 9 < pre.length ∨ pre.length = 9 ∧ 1 < c
    · rw [if_pos h1] at h; simp at h
    · rw [if_neg h1] at h
      have hc : c < 256 := hs c (by simp)
      have hst : N + c % 128 * 128 ^ pre.length < 128 ^ (pre.length + 1) := by
        rw [Nat.pow_succ]
        generalize 128 ^ pre.length = p at *
        have : c % 128 * p ≤ 127 * p := Nat.mul_le_mul_right _ (by omega)
        omega
      have hv : N + c % 128 * 128 ^ pre.length = val (pre ++ [c]) := by
        rw [val_append, ← hN]
        simp only [val]
        rw [Nat.mul_zero, Nat.add_zero, Nat.mul_comm]
      by_cases h2 : 128 ≤ c
      · rw [if_pos h2] at h
        have e : pre ++ c :: r = (pre ++ [c]) ++ r := by simp
        have h' : get (pre ++ [c]).length (N + c % 128 * 128 ^ pre.length) r = (n, k, 0) := by rw [List.length_append]; exact h
        have := get_ok_aux r (pre ++ [c]) (N + c % 128 * 128 ^ pre.length) n k (fun x hx => by
          rcases List.mem_append.1 hx with hx | hx
          · exact hp x hx
          · rw [List.mem_singleton.1 hx]; exact h2) (by rw [← e]; exact hs) hv (by rw [List.length_append]; exact hst) h'
        rw [e]
        exact this
      · rw [if_neg h2] at h
        by_cases h3 : c = 0 ∧ 0 < pre.length
        · rw [if_pos h3] at h; simp at h
        · rw [if_neg h3] at h
          simp only [Prod.mk.injEq, and_true] at h
          obtain ⟨rfl, rfl⟩ := h
          have et : (pre ++ c :: r).take (pre.length + 1) = pre ++ [c] := by
            rw [show pre ++ c :: r = (pre ++ [c]) ++ r by simp, show pre.length + 1 = (pre ++ [c]).length by simp, List.take_left]
          rw [et]
          have hle : N + c % 128 * 128 ^ pre.length < 18446744073709551616 := by
            by_cases h9 : pre.length = 9
            · rw [h9] at hlt ⊢
              have h4 : (128 : Nat) ^ 9 = 9223372036854775808 := by decide
              rw [h4] at hlt ⊢
              have : c % 128 ≤ 1 := by omega
              omega
            · have h5 : (128 : Nat) ^ (pre.length + 1) ≤ 128 ^ 9 := Nat.pow_le_pow_right (by decide) (by omega)
              have h4 : (128 : Nat) ^ 9 = 9223372036854775808 := by decide
              omega
          refine ⟨?_, hle, hv⟩
          rw [hv]
          refine encF_val 9 pre c (by omega) (fun x hx => ⟨hp x hx, hs x (by simp [hx])⟩) (by omega) ?_
          by_cases h6 : pre = []
          · exact .inl h6
          · have : 0 < pre.length := List.length_pos_iff.2 h6
            exact .inr (by omega)
theorem get_ok {b : List Nat} (hb : ∀ x ∈ b, x < 256) {n k : Nat} (h : get 0 0 b = (n, k, 0)) : enc n = b.take k ∧ n < 18446744073709551616 ∧ 1 ≤ k ∧ k ≤ b.length ∧ k ≤ 10 := by
  have h1 := get_ok_aux b [] 0 n k (by simp) (by simpa using hb) rfl (by simp) h
  rcases get_bound b 0 0 with h2 | h2 | ⟨n', k', h2, h3⟩
  · rw [h2] at h; simp at h
  · rw [h2] at h; simp at h
  · rw [h2] at h
    simp only [Prod.mk.injEq, and_true] at h
    obtain ⟨rfl, rfl⟩ := h
    exact ⟨h1.1, h1.2.1, by omega, by omega, h3.2.2⟩

/-- The frame at the beginning of its bytes is found. -/
theorem first_wrap {b : List Nat} (hl : b.length ≤ 4096) (rest : List Nat) : first (wrap b ++ rest) = (b, (wrap b).length, 0) := by
  have hg : get 0 0 (wrap b ++ rest) = (b.length, (enc b.length).length, 0) := by
    rw [show wrap b ++ rest = enc b.length ++ (b ++ le4 (CrcP.sum (head b)) ++ rest) by simp [wrap, head]]
    exact get_enc (by omega) _
  have e1 : (wrap b ++ rest).take ((enc b.length).length + b.length) = head b := by
    rw [show wrap b ++ rest = head b ++ (le4 (CrcP.sum (head b)) ++ rest) by simp [wrap], show (enc b.length).length + b.length = (head b).length by simp [head], List.take_left]
  have e2 : ((wrap b ++ rest).drop ((enc b.length).length + b.length)).take 4 = le4 (CrcP.sum (head b)) := by
    rw [show wrap b ++ rest = head b ++ (le4 (CrcP.sum (head b)) ++ rest) by simp [wrap], show (enc b.length).length + b.length = (head b).length by simp [head], List.drop_left, ← le4_length (CrcP.sum (head b)), List.take_left]
  have e3 : ((wrap b ++ rest).drop (enc b.length).length).take b.length = b := by
    rw [show wrap b ++ rest = enc b.length ++ (b ++ (le4 (CrcP.sum (head b)) ++ rest)) by simp [wrap, head], List.drop_left, List.take_left]
  unfold first
  rw [hg]
  simp only
  rw [if_neg (by simp), if_neg (by omega), if_neg (by rw [List.length_append, wrap_length]; omega), if_neg (by rw [e1, e2]; simp), e3, wrap_length]
/-- A proper beginning of a frame is too short. -/
theorem first_short {b : List Nat} (hl : b.length ≤ 4096) {k : Nat} (hk : k < (wrap b).length) : first ((wrap b).take k) = ([], 0, 4) := by
  rw [wrap_length] at hk
  by_cases hc : k < (enc b.length).length
  · have e : (wrap b).take k = (enc b.length).take k := by
      rw [show wrap b = enc b.length ++ (b ++ le4 (CrcP.sum (head b))) by simp [wrap, head], List.take_append_of_le_length (by omega)]
    unfold first
    rw [e, get_prefix (by omega) hc]
    simp
  · have e : (wrap b).take k = enc b.length ++ (b ++ le4 (CrcP.sum (head b))).take (k - (enc b.length).length) := by
      rw [show wrap b = enc b.length ++ (b ++ le4 (CrcP.sum (head b))) by simp [wrap, head], List.take_append, List.take_of_length_le (by omega)]
    unfold first
    rw [e, get_enc (by omega)]
    simp only
    rw [if_neg (by simp), if_neg (by omega), if_pos (by
      rw [List.length_append, List.length_take, List.length_append, le4_length]
      omega)]
theorem first_nil : first [] = ([], 0, 4) := rfl
/-- What goes well takes at least one byte, and no more than there are. -/
theorem first_ok {b : List Nat} (hb : ∀ x ∈ b, x < 256) {c : List Nat} {k : Nat} (h : first b = (c, k, 0)) : 1 ≤ k ∧ k ≤ b.length ∧ c.length ≤ 4096 ∧ ∀ x ∈ c, x < 256 := by
  unfold first at h
  rcases get_bound b 0 0 with h2 | h2 | ⟨n, j, h2, h3⟩
  · rw [h2] at h; simp at h
  · rw [h2] at h; simp at h
  · rw [h2] at h
    simp only at h
    rw [if_neg (by simp)] at h
    by_cases h4 : 4096 < n
    · rw [if_pos h4] at h; simp at h
    rw [if_neg h4] at h
    by_cases h5 : b.length < j + n + 4
    · rw [if_pos h5] at h; simp at h
    rw [if_neg h5] at h
    by_cases h6 : le4 (CrcP.sum (b.take (j + n))) ≠ (b.drop (j + n)).take 4
    · rw [if_pos h6] at h; simp at h
    rw [if_neg h6] at h
    simp only [Prod.mk.injEq, and_true] at h
    obtain ⟨rfl, rfl⟩ := h
    refine ⟨by omega, by omega, by rw [List.length_take]; omega, fun x hx => hb x (List.mem_of_mem_drop (List.mem_of_mem_take hx))⟩
theorem first_err_zero {b : List Nat} (h : (first b).2.2 ≠ 0) : (first b).1 = [] ∧ (first b).2.1 = 0 := by
  unfold first at h ⊢
  rcases get_bound b 0 0 with h2 | h2 | ⟨n, j, h2, h3⟩
  · rw [h2] at h ⊢; simp
  · rw [h2] at h ⊢; simp
  · rw [h2] at h ⊢
    simp only at h ⊢
    rw [if_neg (by simp)] at h ⊢
    by_cases h4 : 4096 < n
    · rw [if_pos h4]; simp
    rw [if_neg h4] at h ⊢
    by_cases h5 : b.length < j + n + 4
    · rw [if_pos h5]; simp
    rw [if_neg h5] at h ⊢
    by_cases h6 : le4 (CrcP.sum (b.take (j + n))) ≠ (b.drop (j + n)).take 4
    · rw [if_pos h6]; simp
    rw [if_neg h6] at h
    simp at h
/-- The reference holds the frame of what stands within against the bytes: the same. -/
theorem first_ref {b : List Nat} (hb : ∀ x ∈ b, x < 256) {n k : Nat} (h : get 0 0 b = (n, k, 0)) (h5 : k + n + 4 ≤ b.length) :
    (wrap ((b.drop k).take n) = b.take (k + n + 4) ↔ le4 (CrcP.sum (b.take (k + n))) = (b.drop (k + n)).take 4) := by
  obtain ⟨e, _, h1, h2, _⟩ := get_ok hb h
  have hlen : ((b.drop k).take n).length = n := by rw [List.length_take, List.length_drop]; omega
  have hh : head ((b.drop k).take n) = b.take (k + n) := by
    unfold head
    rw [hlen, e, List.take_add]
  have ht : b.take (k + n + 4) = b.take (k + n) ++ (b.drop (k + n)).take 4 := by rw [List.take_add]
  unfold wrap
  rw [hh, ht]
  exact List.append_right_inj _

/-! ### All frames at the beginning -/
def scanF : Nat → List Nat → List (List Nat) × Nat
  | 0, _ => ([], 0)
  | f + 1, b => if b = [] then ([], 0) else if (first b).2.2 ≠ 0 then ([], 0) else
      let r := scanF f (b.drop (first b).2.1)
      ((first b).1 :: r.1, (first b).2.1 + r.2)
theorem scanF_succ (f : Nat) (b : List Nat) : scanF (f + 1) b = if b = [] then ([], 0) else if (first b).2.2 ≠ 0 then ([], 0) else
    ((first b).1 :: (scanF f (b.drop (first b).2.1)).1, (first b).2.1 + (scanF f (b.drop (first b).2.1)).2) := rfl
def scan (b : List Nat) : List (List Nat) × Nat := scanF b.length b
theorem scanF_more : ∀ (f : Nat) (b : List Nat), (∀ x ∈ b, x < 256) → b.length ≤ f → scanF (f + 1) b = scanF f b
  | 0, b, _, h => by
    have : b = [] := List.eq_nil_of_length_eq_zero (by omega)
    subst this
    simp [scanF]
  | f + 1, b, hb, h => by
    rw [scanF_succ (f + 1) b, scanF_succ f b]
    by_cases h0 : b = []
    · rw [if_pos h0, if_pos h0]
    · rw [if_neg h0, if_neg h0]
      by_cases h1 : (first b).2.2 ≠ 0
      · rw [if_pos h1, if_pos h1]
      · rw [if_neg h1, if_neg h1]
        have hk := first_ok hb (c := (first b).1) (k := (first b).2.1) (by
          have : (first b).2.2 = 0 := by omega
          rw [← this])
        rw [scanF_more f _ (fun x hx => hb x (List.mem_of_mem_drop hx)) (by rw [List.length_drop]; omega)]
theorem scanF_len {f : Nat} {b : List Nat} (hb : ∀ x ∈ b, x < 256) (h : b.length ≤ f) : scanF f b = scan b := by
  unfold scan
  obtain ⟨d, hd⟩ : ∃ d, f = b.length + d := ⟨f - b.length, by omega⟩
  subst hd
  clear h
  induction d with
  | zero => rfl
  | succ d ih => rw [← Nat.add_assoc, scanF_more _ _ hb (by omega), ih]
theorem scan_nil : scan [] = ([], 0) := rfl
theorem scan_stop {b : List Nat} (h : (first b).2.2 ≠ 0) : scan b = ([], 0) := by
  unfold scan
  cases hl : b.length with
  | zero => rfl
  | succ f =>
    rw [scanF_succ, if_neg (by intro e; rw [e] at hl; simp at hl), if_pos h]
theorem scan_step {b c : List Nat} {k : Nat} (hb : ∀ x ∈ b, x < 256) (h : first b = (c, k, 0)) : scan b = (c :: (scan (b.drop k)).1, k + (scan (b.drop k)).2) := by
  have hk := first_ok hb h
  conv => lhs; unfold scan
  cases hl : b.length with
  | zero => omega
  | succ f =>
    rw [scanF_succ, if_neg (by intro e; rw [e] at hl; simp at hl), h]
    simp only
    rw [if_neg (by simp), scanF_len (fun x hx => hb x (List.mem_of_mem_drop hx)) (by rw [List.length_drop]; omega)]
/-- Frames one behind the other. -/
def frames : List (List Nat) → List Nat
  | [] => []
  | b :: l => wrap b ++ frames l
theorem frames_append (a b : List (List Nat)) : frames (a ++ b) = frames a ++ frames b := by
  induction a with
  | nil => rfl
  | cons x a ih => simp only [List.cons_append, frames, ih, List.append_assoc]
theorem frames_lt {l : List (List Nat)} (h : ∀ b ∈ l, b.length ≤ 4096 ∧ ∀ x ∈ b, x < 256) : ∀ x ∈ frames l, x < 256 := by
  induction l with
  | nil => simp [frames]
  | cons b l ih =>
    intro x hx
    rcases List.mem_append.1 hx with hx | hx
    · exact wrap_lt (h b (by simp)).2 (h b (by simp)).1 x hx
    · exact ih (fun c hc => h c (by simp [hc])) x hx
/-- Behind bytes that are all frames what stands behind is scanned as by itself. -/
theorem scan_frames {l : List (List Nat)} (h : ∀ b ∈ l, b.length ≤ 4096 ∧ ∀ x ∈ b, x < 256) {rest : List Nat} (hr : ∀ x ∈ rest, x < 256) :
    scan (frames l ++ rest) = (l ++ (scan rest).1, (frames l).length + (scan rest).2) := by
  induction l with
  | nil => simp [frames]
  | cons b l ih =>
    have hb := h b (by simp)
    have hl := fun c hc => h c (List.mem_cons_of_mem b hc)
    have hs : ∀ x ∈ wrap b ++ (frames l ++ rest), x < 256 := by
      intro x hx
      rcases List.mem_append.1 hx with hx | hx
      · exact wrap_lt hb.2 hb.1 x hx
      · rcases List.mem_append.1 hx with hx | hx
        · exact frames_lt hl x hx
        · exact hr x hx
    rw [show frames (b :: l) ++ rest = wrap b ++ (frames l ++ rest) by simp [frames]]
    rw [scan_step hs (first_wrap hb.1 _), List.drop_left, ih hl]
    simp only [frames, List.cons_append, List.length_append, Prod.mk.injEq, true_and]
    omega
/-- The ends of frames that lie within so many bytes. -/
def within : List (List Nat) → Nat → List (List Nat)
  | [], _ => []
  | b :: l, k => if (wrap b).length ≤ k then b :: within l (k - (wrap b).length) else []
theorem scan_prefix : ∀ (l : List (List Nat)) (k : Nat), (∀ b ∈ l, b.length ≤ 4096 ∧ ∀ x ∈ b, x < 256) → k ≤ (frames l).length →
    scan ((frames l).take k) = (within l k, (frames (within l k)).length)
  | [], k, _, hk => by simp [frames, within, scan_nil]
  | b :: l, k, h, hk => by
    have hb := h b (by simp)
    have hl := fun c hc => h c (List.mem_cons_of_mem b hc)
    by_cases hw : (wrap b).length ≤ k
    · have e : (frames (b :: l)).take k = wrap b ++ (frames l).take (k - (wrap b).length) := by
        rw [frames, List.take_append, List.take_of_length_le hw]
      have hs : ∀ x ∈ wrap b ++ (frames l).take (k - (wrap b).length), x < 256 := by
        intro x hx
        rcases List.mem_append.1 hx with hx | hx
        · exact wrap_lt hb.2 hb.1 x hx
        · exact frames_lt hl x (List.mem_of_mem_take hx)
      have hk2 : k - (wrap b).length ≤ (frames l).length := by
        rw [frames, List.length_append] at hk
        omega
      rw [e, scan_step hs (first_wrap hb.1 _), List.drop_left, scan_prefix l _ hl hk2, within, if_pos hw]
      simp only [frames, List.length_append]
    · have e : (frames (b :: l)).take k = (wrap b).take k := by
        rw [frames, List.take_append_of_le_length (by omega)]
      rw [e, within, if_neg hw]
      by_cases h0 : k = 0
      · subst h0; rfl
      · rw [scan_stop (by rw [first_short hb.1 (by omega)]; simp)]
        rfl
end Go.Proofs.YtchncgniiohgdaaDoor.FrameP
