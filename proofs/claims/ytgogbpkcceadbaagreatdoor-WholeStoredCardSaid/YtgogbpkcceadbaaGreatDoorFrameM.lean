/-
  Plain laws of frames over numbers and lists: no program in sight.
  What frame.sum and frame.Wrap come to, and the reference's Wrap.
  '==' between two arrays of whole numbers, in the model's own words.
  What frame.First comes to, for every bytes.
-/
import Derived.Test.YtgogbpkcceadbaaGreatDoorCrcM
import Derived.Test.YtgogbpkcceadbaaGreatDoorVintM
import Derived.Test.YtgogbpkcceadbaaGreatDoorRows
import Derived.Laws.StructEq
import Derived.ChangeKeysEq
import Derived.KernelRfl
import Derived.WalkSpells
import Derived.Laws.Cover3
import Derived.Lib.SliceRun
namespace Go.Proofs.YtgogbpkcceadbaaGreatDoor.FrameP
open Go.Proofs.YtgogbpkcceadbaaGreatDoor.VintP

/-- A word's four bytes, the low one first. -/
def le4 (s : Nat) : List Nat := [s % 256, s / 256 % 256, s / 65536 % 256, s / 16777216 % 256]
theorem le4_length (s : Nat) : (le4 s).length = 4 := rfl
theorem le4_lt (s : Nat) : ∀ x ∈ le4 s, x < 256 := by
  intro x hx
  simp [le4] at hx
  omega
/-- What stands in a frame ahead of its sum. -/
def head (b : List Nat) : List Nat := enc b.length ++ b
def wrap (b : List Nat) : List Nat := head b ++ le4 (CrcP.sum (head b))
theorem head_lt {b : List Nat} (hb : ∀ x ∈ b, x < 256) (hl : b.length ≤ 4096) : ∀ x ∈ head b, x < 256 := by
  intro x hx
  rcases List.mem_append.1 hx with h | h
  · exact enc_lt (by omega) x h
  · exact hb x h
theorem wrap_lt {b : List Nat} (hb : ∀ x ∈ b, x < 256) (hl : b.length ≤ 4096) : ∀ x ∈ wrap b, x < 256 := by
  intro x hx
  rcases List.mem_append.1 hx with h | h
  · exact head_lt hb hl x h
  · exact le4_lt _ x h
theorem wrap_length (b : List Nat) : (wrap b).length = (enc b.length).length + b.length + 4 := by
  simp [wrap, head, le4]
  omega

/-- The frame at the beginning: what stands in it, its size, and the error. -/
def first (b : List Nat) : List Nat × Nat × Nat :=
  let r := get 0 0 b
  if r.2.2 ≠ 0 then ([], 0, r.2.2) else if 4096 < r.1 then ([], 0, 5) else if b.length < r.2.1 + r.1 + 4 then ([], 0, 4)
  else if le4 (CrcP.sum (b.take (r.2.1 + r.1))) ≠ (b.drop (r.2.1 + r.1)).take 4 then ([], 0, 6)
  else ((b.drop r.2.1).take r.1, r.2.1 + r.1 + 4, 0)

/-! ### What a reading that went well tells -/
theorem get_bound : ∀ (l : List Nat) (i N : Nat), get i N l = (0, 0, 4) ∨ get i N l = (0, 0, 5) ∨ ∃ n k, get i N l = (n, k, 0) ∧ i < k ∧ k ≤ i + l.length ∧ k ≤ 10
  | [], i, N => .inl rfl
  | c :: r, i, N => by
    rw [VintP.get]
    by_cases h1 : 9 < i ∨ i = 9 ∧ 1 < c
    · rw [if_pos h1]; exact .inr (.inl rfl)
    · rw [if_neg h1]
      by_cases h2 : 128 ≤ c
      · rw [if_pos h2]
        rcases get_bound r (i + 1) (N + c % 128 * 128 ^ i) with h | h | ⟨n, k, h, hk⟩
        · exact .inl h
        · exact .inr (.inl h)
        · refine .inr (.inr ⟨n, k, h, by omega, ?_, hk.2.2⟩)
          simp only [List.length_cons]
          omega
      · rw [if_neg h2]
        by_cases h3 : c = 0 ∧ 0 < i
        · rw [if_pos h3]; exact .inr (.inl rfl)
        · rw [if_neg h3]
          refine .inr (.inr ⟨_, _, rfl, by omega, ?_, by omega⟩)
          simp only [List.length_cons]
          omega
theorem get_err (b : List Nat) : (get 0 0 b).2.2 = 0 ∨ (get 0 0 b).2.2 = 4 ∨ (get 0 0 b).2.2 = 5 := by
  rcases get_bound b 0 0 with h | h | ⟨n, k, h, _⟩ <;> rw [h] <;> simp
theorem get_ok_aux : ∀ (l pre : List Nat) (N n k : Nat), (∀ x ∈ pre, 128 ≤ x) → (∀ x ∈ pre ++ l, x < 256) → N = val pre → N < 128 ^ pre.length → get pre.length N l = (n, k, 0) →
    enc n = (pre ++ l).take k ∧ n < 18446744073709551616 ∧ n = val ((pre ++ l).take k)
  | [], pre, N, n, k, _, _, _, _, h => by simp [VintP.get] at h
  | c :: r, pre, N, n, k, hp, hs, hN, hlt, h => by
    rw [VintP.get] at h
    by_cases h1 : 9 < pre.length ∨ pre.length = 9 ∧ 1 < c
    · rw [if_pos h1] at h; simp at h
    · rw [if_neg h1] at h
      have hc : c < 256 := hs c (by simp)
      have hst : N + c % 128 * 128 ^ pre.length < 128 ^ (pre.length + 1) := by
        rw [Nat.pow_succ]
        generalize 128 ^ pre.length = p at *
        have : c % 128 * p ≤ 127 * p := Nat.mul_le_mul_right _ (by omega)
        omega
      have hv : N + c % 128 * 128 ^ pre.length = val (pre ++ [c]) := by
        rw [val_append, ← hN]
        simp only [val]
        rw [Nat.mul_zero, Nat.add_zero, Nat.mul_comm]
      by_cases h2 : 128 ≤ c
      · rw [if_pos h2] at h
        have e : pre ++ c :: r = (pre ++ [c]) ++ r := by simp
        have h' : get (pre ++ [c]).length (N + c % 128 * 128 ^ pre.length) r = (n, k, 0) := by rw [List.length_append]; exact h
        have := get_ok_aux r (pre ++ [c]) (N + c % 128 * 128 ^ pre.length) n k (fun x hx => by
          rcases List.mem_append.1 hx with hx | hx
          · exact hp x hx
          · rw [List.mem_singleton.1 hx]; exact h2) (by rw [← e]; exact hs) hv (by rw [List.length_append]; exact hst) h'
        rw [e]
        exact this
      · rw [if_neg h2] at h
        by_cases h3 : c = 0 ∧ 0 < pre.length
        · rw [if_pos h3] at h; simp at h
        · rw [if_neg h3] at h
          simp only [Prod.mk.injEq, and_true] at h
          obtain ⟨rfl, rfl⟩ := h
          have et : (pre ++ c :: r).take (pre.length + 1) = pre ++ [c] := by
            rw [show pre ++ c :: r = (pre ++ [c]) ++ r by simp, show pre.length + 1 = (pre ++ [c]).length by simp, List.take_left]
          rw [et]
          have hle : N + c % 128 * 128 ^ pre.length < 18446744073709551616 := by
            by_cases h9 : pre.length = 9
            · rw [h9] at hlt ⊢
              have h4 : (128 : Nat) ^ 9 = 9223372036854775808 := by decide
              rw [h4] at hlt ⊢
              have : c % 128 ≤ 1 := by omega
              omega
            · have h5 : (128 : Nat) ^ (pre.length + 1) ≤ 128 ^ 9 := Nat.pow_le_pow_right (by decide) (by omega)
              have h4 : (128 : Nat) ^ 9 = 9223372036854775808 := by decide
              omega
          refine ⟨?_, hle, hv⟩
          rw [hv]
          refine encF_val 9 pre c (by omega) (fun x hx => ⟨hp x hx, hs x (by simp [hx])⟩) (by omega) ?_
          by_cases h6 : pre = []
          · exact .inl h6
          · have : 0 < pre.length := List.length_pos_iff.2 h6
            exact .inr (by omega)
theorem get_ok {b : List Nat} (hb : ∀ x ∈ b, x < 256) {n k : Nat} (h : get 0 0 b = (n, k, 0)) : enc n = b.take k ∧ n < 18446744073709551616 ∧ 1 ≤ k ∧ k ≤ b.length ∧ k ≤ 10 := by
  have h1 := get_ok_aux b [] 0 n k (by simp) (by simpa using hb) rfl (by simp) h
  rcases get_bound b 0 0 with h2 | h2 | ⟨n', k', h2, h3⟩
  · rw [h2] at h; simp at h
  · rw [h2] at h; simp at h
  · rw [h2] at h
    simp only [Prod.mk.injEq, and_true] at h
    obtain ⟨rfl, rfl⟩ := h
    exact ⟨h1.1, h1.2.1, by omega, by omega, h3.2.2⟩

/-- The frame at the beginning of its bytes is found. -/
theorem first_wrap {b : List Nat} (hl : b.length ≤ 4096) (rest : List Nat) : first (wrap b ++ rest) = (b, (wrap b).length, 0) := by
  have hg : get 0 0 (wrap b ++ rest) = (b.length, (enc b.length).length, 0) := by
    rw [show wrap b ++ rest = enc b.length ++ (b ++ le4 (CrcP.sum (head b)) ++ rest) by simp [wrap, head]]
    exact get_enc (by omega) _
  have e1 : (wrap b ++ rest).take ((enc b.length).length + b.length) = head b := by
    rw [show wrap b ++ rest = head b ++ (le4 (CrcP.sum (head b)) ++ rest) by simp [wrap], show (enc b.length).length + b.length = (head b).length by simp [head], List.take_left]
  have e2 : ((wrap b ++ rest).drop ((enc b.length).length + b.length)).take 4 = le4 (CrcP.sum (head b)) := by
    rw [show wrap b ++ rest = head b ++ (le4 (CrcP.sum (head b)) ++ rest) by simp [wrap], show (enc b.length).length + b.length = (head b).length by simp [head], List.drop_left, ← le4_length (CrcP.sum (head b)), List.take_left]
  have e3 : ((wrap b ++ rest).drop (enc b.length).length).take b.length = b := by
    rw [show wrap b ++ rest = enc b.length ++ (b ++ (le4 (CrcP.sum (head b)) ++ rest)) by simp [wrap, head], List.drop_left, List.take_left]
  unfold first
  rw [hg]
  simp only
  rw [if_neg (by simp), if_neg (by omega), if_neg (by rw [List.length_append, wrap_length]; omega), if_neg (by rw [e1, e2]; simp), e3, wrap_length]
/-- A proper beginning of a frame is too short. -/
theorem first_short {b : List Nat} (hl : b.length ≤ 4096) {k : Nat} (hk : k < (wrap b).length) : first ((wrap b).take k) = ([], 0, 4) := by
  rw [wrap_length] at hk
  by_cases hc : k < (enc b.length).length
  · have e : (wrap b).take k = (enc b.length).take k := by
      rw [show wrap b = enc b.length ++ (b ++ le4 (CrcP.sum (head b))) by simp [wrap, head], List.take_append_of_le_length (by omega)]
    unfold first
    rw [e, get_prefix (by omega) hc]
    simp
  · have e : (wrap b).take k = enc b.length ++ (b ++ le4 (CrcP.sum (head b))).take (k - (enc b.length).length) := by
      rw [show wrap b = enc b.length ++ (b ++ le4 (CrcP.sum (head b))) by simp [wrap, head], List.take_append, List.take_of_length_le (by omega)]
    unfold first
    rw [e, get_enc (by omega)]
    simp only
    rw [if_neg (by simp), if_neg (by omega), if_pos (by
      rw [List.length_append, List.length_take, List.length_append, le4_length]
      omega)]
theorem first_nil : first [] = ([], 0, 4) := rfl
/-- What goes well takes at least one byte, and no more than there are. -/
theorem first_ok {b : List Nat} (hb : ∀ x ∈ b, x < 256) {c : List Nat} {k : Nat} (h : first b = (c, k, 0)) : 1 ≤ k ∧ k ≤ b.length ∧ c.length ≤ 4096 ∧ ∀ x ∈ c, x < 256 := by
  unfold first at h
  rcases get_bound b 0 0 with h2 | h2 | ⟨n, j, h2, h3⟩
  · rw [h2] at h; simp at h
  · rw [h2] at h; simp at h
  · rw [h2] at h
    simp only at h
    rw [if_neg (by simp)] at h
    by_cases h4 : 4096 < n
    · rw [if_pos h4] at h; simp at h
    rw [if_neg h4] at h
    by_cases h5 : b.length < j + n + 4
    · rw [if_pos h5] at h; simp at h
    rw [if_neg h5] at h
    by_cases h6 : le4 (CrcP.sum (b.take (j + n))) ≠ (b.drop (j + n)).take 4
    · rw [if_pos h6] at h; simp at h
    rw [if_neg h6] at h
    simp only [Prod.mk.injEq, and_true] at h
    obtain ⟨rfl, rfl⟩ := h
    refine ⟨by omega, by omega, by rw [List.length_take]; omega, fun x hx => hb x (List.mem_of_mem_drop (List.mem_of_mem_take hx))⟩
theorem first_err_zero {b : List Nat} (h : (first b).2.2 ≠ 0) : (first b).1 = [] ∧ (first b).2.1 = 0 := by
  unfold first at h ⊢
  rcases get_bound b 0 0 with h2 | h2 | ⟨n, j, h2, h3⟩
  · rw [h2] at h ⊢; simp
  · rw [h2] at h ⊢; simp
  · rw [h2] at h ⊢
    simp only at h ⊢
    rw [if_neg (by simp)] at h ⊢
    by_cases h4 : 4096 < n
    · rw [if_pos h4]; simp
    rw [if_neg h4] at h ⊢
    by_cases h5 : b.length < j + n + 4
    · rw [if_pos h5]; simp
    rw [if_neg h5] at h ⊢
    by_cases h6 : le4 (CrcP.sum (b.take (j + n))) ≠ (b.drop (j + n)).take 4
    · rw [if_pos h6]; simp
    rw [if_neg h6] at h
    simp at h
/-- The reference holds the frame of what stands within against the bytes: the same. -/
theorem first_ref {b : List Nat} (hb : ∀ x ∈ b, x < 256) {n k : Nat} (h : get 0 0 b = (n, k, 0)) (h5 : k + n + 4 ≤ b.length) :
    (wrap ((b.drop k).take n) = b.take (k + n + 4) ↔ le4 (CrcP.sum (b.take (k + n))) = (b.drop (k + n)).take 4) := by
  obtain ⟨e, _, h1, h2, _⟩ := get_ok hb h
  have hlen : ((b.drop k).take n).length = n := by rw [List.length_take, List.length_drop]; omega
  have hh : head ((b.drop k).take n) = b.take (k + n) := by
    unfold head
    rw [hlen, e, List.take_add]
  have ht : b.take (k + n + 4) = b.take (k + n) ++ (b.drop (k + n)).take 4 := by rw [List.take_add]
  unfold wrap
  rw [hh, ht]
  exact List.append_right_inj _

/-! ### All frames at the beginning -/
def scanF : Nat → List Nat → List (List Nat) × Nat
  | 0, _ => ([], 0)
  | f + 1, b => if b = [] then ([], 0) else if (first b).2.2 ≠ 0 then ([], 0) else
      let r := scanF f (b.drop (first b).2.1)
      ((first b).1 :: r.1, (first b).2.1 + r.2)
theorem scanF_succ (f : Nat) (b : List Nat) : scanF (f + 1) b = if b = [] then ([], 0) else if (first b).2.2 ≠ 0 then ([], 0) else
    ((first b).1 :: (scanF f (b.drop (first b).2.1)).1, (first b).2.1 + (scanF f (b.drop (first b).2.1)).2) := rfl
def scan (b : List Nat) : List (List Nat) × Nat := scanF b.length b
theorem scanF_more : ∀ (f : Nat) (b : List Nat), (∀ x ∈ b, x < 256) → b.length ≤ f → scanF (f + 1) b = scanF f b
  | 0, b, _, h => by
    have : b = [] := List.eq_nil_of_length_eq_zero (by omega)
    subst this
    simp [scanF]
  | f + 1, b, hb, h => by
    rw [scanF_succ (f + 1) b, scanF_succ f b]
    by_cases h0 : b = []
    · rw [if_pos h0, if_pos h0]
    · rw [if_neg h0, if_neg h0]
      by_cases h1 : (first b).2.2 ≠ 0
      · rw [if_pos h1, if_pos h1]
      · rw [if_neg h1, if_neg h1]
        have hk := first_ok hb (c := (first b).1) (k := (first b).2.1) (by
          have : (first b).2.2 = 0 := by omega
          rw [← this])
        rw [scanF_more f _ (fun x hx => hb x (List.mem_of_mem_drop hx)) (by rw [List.length_drop]; omega)]
theorem scanF_len {f : Nat} {b : List Nat} (hb : ∀ x ∈ b, x < 256) (h : b.length ≤ f) : scanF f b = scan b := by
  unfold scan
  obtain ⟨d, hd⟩ : ∃ d, f = b.length + d := ⟨f - b.length, by omega⟩
  subst hd
  clear h
  induction d with
  | zero => rfl
  | succ d ih => rw [← Nat.add_assoc, scanF_more _ _ hb (by omega), ih]
theorem scan_nil : scan [] = ([], 0) := rfl
theorem scan_stop {b : List Nat} (h : (first b).2.2 ≠ 0) : scan b = ([], 0) := by
  unfold scan
  cases hl : b.length with
  | zero => rfl
  | succ f =>
    rw [scanF_succ, if_neg (by intro e; rw [e] at hl; simp at hl), if_pos h]
theorem scan_step {b c : List Nat} {k : Nat} (hb : ∀ x ∈ b, x < 256) (h : first b = (c, k, 0)) : scan b = (c :: (scan (b.drop k)).1, k + (scan (b.drop k)).2) := by
  have hk := first_ok hb h
  conv => lhs; unfold scan
  cases hl : b.length with
  | zero => omega
  | succ f =>
    rw [scanF_succ, if_neg (by intro e; rw [e] at hl; simp at hl), h]
    simp only
    rw [if_neg (by simp), scanF_len (fun x hx => hb x (List.mem_of_mem_drop hx)) (by rw [List.length_drop]; omega)]
/-- Frames one behind the other. -/
def frames : List (List Nat) → List Nat
  | [] => []
  | b :: l => wrap b ++ frames l
theorem frames_append (a b : List (List Nat)) : frames (a ++ b) = frames a ++ frames b := by
  induction a with
  | nil => rfl
  | cons x a ih => simp only [List.cons_append, frames, ih, List.append_assoc]
theorem frames_lt {l : List (List Nat)} (h : ∀ b ∈ l, b.length ≤ 4096 ∧ ∀ x ∈ b, x < 256) : ∀ x ∈ frames l, x < 256 := by
  induction l with
  | nil => simp [frames]
  | cons b l ih =>
    intro x hx
    rcases List.mem_append.1 hx with hx | hx
    · exact wrap_lt (h b (by simp)).2 (h b (by simp)).1 x hx
    · exact ih (fun c hc => h c (by simp [hc])) x hx
/-- Behind bytes that are all frames what stands behind is scanned as by itself. -/
theorem scan_frames {l : List (List Nat)} (h : ∀ b ∈ l, b.length ≤ 4096 ∧ ∀ x ∈ b, x < 256) {rest : List Nat} (hr : ∀ x ∈ rest, x < 256) :
    scan (frames l ++ rest) = (l ++ (scan rest).1, (frames l).length + (scan rest).2) := by
  induction l with
  | nil => simp [frames]
  | cons b l ih =>
    have hb := h b (by simp)
    have hl := fun c hc => h c (List.mem_cons_of_mem b hc)
    have hs : ∀ x ∈ wrap b ++ (frames l ++ rest), x < 256 := by
      intro x hx
      rcases List.mem_append.1 hx with hx | hx
      · exact wrap_lt hb.2 hb.1 x hx
      · rcases List.mem_append.1 hx with hx | hx
        · exact frames_lt hl x hx
        · exact hr x hx
    rw [show frames (b :: l) ++ rest = wrap b ++ (frames l ++ rest) by simp [frames]]
    rw [scan_step hs (first_wrap hb.1 _), List.drop_left, ih hl]
    simp only [frames, List.cons_append, List.length_append, Prod.mk.injEq, true_and]
    omega
/-- The ends of frames that lie within so many bytes. -/
def within : List (List Nat) → Nat → List (List Nat)
  | [], _ => []
  | b :: l, k => if (wrap b).length ≤ k then b :: within l (k - (wrap b).length) else []
theorem scan_prefix : ∀ (l : List (List Nat)) (k : Nat), (∀ b ∈ l, b.length ≤ 4096 ∧ ∀ x ∈ b, x < 256) → k ≤ (frames l).length →
    scan ((frames l).take k) = (within l k, (frames (within l k)).length)
  | [], k, _, hk => by simp [frames, within, scan_nil]
  | b :: l, k, h, hk => by
    have hb := h b (by simp)
    have hl := fun c hc => h c (List.mem_cons_of_mem b hc)
    by_cases hw : (wrap b).length ≤ k
    · have e : (frames (b :: l)).take k = wrap b ++ (frames l).take (k - (wrap b).length) := by
        rw [frames, List.take_append, List.take_of_length_le hw]
      have hs : ∀ x ∈ wrap b ++ (frames l).take (k - (wrap b).length), x < 256 := by
        intro x hx
        rcases List.mem_append.1 hx with hx | hx
        · exact wrap_lt hb.2 hb.1 x hx
        · exact frames_lt hl x (List.mem_of_mem_take hx)
      have hk2 : k - (wrap b).length ≤ (frames l).length := by
        rw [frames, List.length_append] at hk
        omega
      rw [e, scan_step hs (first_wrap hb.1 _), List.drop_left, scan_prefix l _ hl hk2, within, if_pos hw]
      simp only [frames, List.length_append]
    · have e : (frames (b :: l)).take k = (wrap b).take k := by
        rw [frames, List.take_append_of_le_length (by omega)]
      rw [e, within, if_neg hw]
      by_cases h0 : k = 0
      · subst h0; rfl
      · rw [scan_stop (by rw [first_short hb.1 (by omega)]; simp)]
        rfl
end Go.Proofs.YtgogbpkcceadbaaGreatDoor.FrameP
namespace Go.Proofs.YtgogbpkcceadbaaGreatDoor.FrameW
open Go.RowKit Go.Proofs.YtgogbpkcceadbaaGreatDoor.Wd Go.Proofs.YtgogbpkcceadbaaGreatDoor.FrameP Go.Proofs.YtgogbpkcceadbaaGreatDoor.CrcW Go.Proofs.YtgogbpkcceadbaaGreatDoor.VintW
set_option linter.unusedVariables false

/-- A sum's four bytes, as an array. -/
def sumVal (S : Nat) : Value := .agg #[.int .u8 ((S % 256 : Nat) : Int), .int .u8 ((S / 256 % 256 : Nat) : Int), .int .u8 ((S / 65536 % 256 : Nat) : Int), .int .u8 ((S / 16777216 % 256 : Nat) : Int)]

set_option maxHeartbeats 1000000 in
theorem sum4_any (n cap : Nat) (A : Option Addr) (xs : List Nat) (w : World) (hx : RdB w A n xs) (ht : Tab w) :
    Calls Tryz.prog 53 #[.slice A n cap] w fun e w' => e = .returned (sumVal (CrcP.sum xs)) ∧ Below w.heap.size w w' := by
  have HX := Lib.hid hx
  have HT := Lib.hid ht
  have hS : CrcP.sum xs ≤ 4294967295 := by
    have := CrcP.next_lt (s := 0) (l := xs)
    show CrcP.next 0 xs ≤ _
    omega
  clear hx ht
  go_enter Tryz.func53, Tryz.ntmps53
  go_wp2_with fail
  have hb : Below w.heap.size w (w.alloc (.cells #[.int .u8 0, .int .u8 0, .int .u8 0, .int .u8 0] 101)) := (Below.refl _ _).alloc (Nat.le_refl _) _
  have h1 := sum_any n cap A xs _ (HX.out.below hb) (HT.out.below hb)
  obtain ⟨S, hSS⟩ : ∃ S, S = CrcP.sum xs := ⟨_, rfl⟩
  rw [← hSS] at h1 hS
  have HS := Lib.hid hSS
  clear hSS
  refine h1.mono ?_
  rintro e w' ⟨rfl, rfl⟩
  clear hb h1
  go_wp2
  refine bodyPost_ret (v := .agg #[.int .u8 ((S : Int) % 256), .int .u8 ((S : Int) / 256 % 256), .int .u8 ((S : Int) / 65536 % 256), .int .u8 ((S : Int) / 16777216)]) (by simp [results, Tryz.results53, go_sem]) rfl ⟨?_, (Below.refl _ _).alloc (Nat.le_refl _) _⟩
  rw [← HS.out]
  unfold sumVal
  rw [show ((S % 256 : Nat) : Int) = (S : Int) % 256 by omega, show ((S / 256 % 256 : Nat) : Int) = (S : Int) / 256 % 256 by omega, show ((S / 65536 % 256 : Nat) : Int) = (S : Int) / 65536 % 256 by omega, show ((S / 16777216 % 256 : Nat) : Int) = (S : Int) / 16777216 by omega]

set_option maxHeartbeats 1000000 in
theorem wrap_big (n cap : Nat) (A : Option Addr) (xs : List Nat) (w : World) (hx : RdB w A n xs) (hn : 4096 < n) :
    Calls Tryz.prog 49 #[.slice A n cap] w fun e w' => e = .returned (.tuple #[.slice none 0 0, .int .i64 3]) ∧ w = w' := by
  have hfit := hx.fits
  clear hx
  go_enter Tryz.func49, Tryz.ntmps49
  go_wp2
  go_ret2
  exact ⟨rfl, rfl⟩
/-- The call returns the bytes xs in new memory, and no error. -/
def GivesOk (w : World) (xs : List Nat) (e : Ending) (w' : World) : Prop := ∃ v, e = .returned (.tuple #[v, .int .i64 0]) ∧ OwnB w' w.heap.size v xs ∧ Below w.heap.size w w'

set_option maxHeartbeats 1000000 in
theorem wrap_any (n cap : Nat) (A : Option Addr) (xs : List Nat) (w : World) (hx : RdB w A n xs) (ht : Tab w) (hn : n ≤ 4096) :
    Calls Tryz.prog 49 #[.slice A n cap] w (GivesOk w (wrap xs)) := by
  have hfit := hx.fits
  have HX := Lib.hid hx
  have HL := Lib.hid hx.len
  have HT := Lib.hid ht
  have q1 := fun W => put_any n W (by omega)
  have hl := VintP.enc_length n
  have hw : wrap xs = (VintP.enc n ++ xs) ++ le4 (CrcP.sum (VintP.enc n ++ xs)) := by unfold wrap head; rw [HL.out]
  generalize VintP.enc n = es at *
  obtain ⟨S, hSS⟩ : ∃ S, S = CrcP.sum (es ++ xs) := ⟨_, rfl⟩
  rw [← hSS] at hw
  have hel : es.length ≤ 10 := hl.2
  have Q1 := Lib.hid q1
  have HWW := Lib.hid hw
  have HSS := Lib.hid hSS
  clear hx ht q1 hw hSS hl
  go_enter Tryz.func49, Tryz.ntmps49
  go_wp2_with (first
    | (go_at_call 51; ((with_reducible refine (Q1.out _).mono ?_)); rintro e w1 ⟨v1, rfl, ho1, hb1⟩; have HO1 := Lib.hid ho1; have HB1 := Lib.hid hb1; clear ho1 hb1)
    | (at_builtin; refine app_list w.heap.size rfl (.tmp 12) (.tmp 13) rfl rfl rfl HO1.out (HX.out.below HB1.out) (by omega) HB1.out.size ?_; intro v2 w2 ho2 hg2 ha2; have HB2 := Lib.hid (HO1.out.to_below HB1.out HB1.out.size hg2); have HO2 := Lib.hid ho2; clear ho2 hg2 ha2))
  obtain ⟨A2, c2, hv2, hc2, hr2⟩ := HO2.out.rd
  rw [List.length_append] at hv2 hr2
  subst hv2
  have h3 := sum4_any _ c2 A2 (es ++ xs) w2 hr2 (HT.out.below HB2.out)
  rw [← HSS.out] at h3
  unfold sumVal at h3
  unfold le4 at HWW
  have hb := le4_lt S
  unfold le4 at hb
  generalize S % 256 = b0 at *
  generalize S / 256 % 256 = b1 at *
  generalize S / 65536 % 256 = b2 at *
  generalize S / 16777216 % 256 = b3 at *
  have HBB := Lib.hid hb
  have H3 := Lib.hid h3
  have hlen : (es ++ xs).length ≤ 4106 := by rw [List.length_append, HL.out]; omega
  have HLEN := Lib.hid hlen
  clear hr2 h3 hb hlen
  refine H3.out.mono ?_
  rintro e w3 ⟨rfl, hb3⟩
  have HB3 := Lib.hid (HB2.out.trans (hb3.mono HB2.out.size))
  have HO3 := Lib.hid (HO2.out.below hb3)
  have hsz := HB3.out.size
  clear hb3
  go_wp2_with (at_builtin; refine app_list w.heap.size rfl (.tmp 17) (.tmp 18) rfl rfl rfl (HO3.out.alloc _) (RdB.new w3 101 (0, 0) [b0, b1, b2, b3] HBB.out (by simp)) (by have := HLEN.out; simp at this ⊢; omega) (by simp; omega) ?_; intro v4 w4 ho4 hg4 ha4; have HB4 := Lib.hid ((HO3.out.alloc _).to_below (HB3.out.alloc hsz _) (by simp; omega) hg4); have HO4 := Lib.hid ho4; clear ho4 hg4 ha4)
  go_ret2
  refine ⟨v4, rfl, ?_, HB4.out⟩
  rw [HWW.out]
  exact HO4.out

/-! ### The reference -/
theorem le4_take {S k : Nat} (hk : k < 4) : (le4 S).take (k + 1) = (le4 S).take k ++ [S / 256 ^ k % 256] := by
  have : k = 0 ∨ k = 1 ∨ k = 2 ∨ k = 3 := by omega
  rcases this with rfl | rfl | rfl | rfl <;> simp [le4]
end Go.Proofs.YtgogbpkcceadbaaGreatDoor.FrameW
namespace Go.Proofs.YtgogbpkcceadbaaGreatDoor.Eqa
open Go

theorem eqItems_ints {P : Program} (d : Nat) {e : TypeId} {k : IntKind} (he : P.underlying e = some (.int k)) (hp : P.plainKey e = true) (ps qs : List Int) (w : World) :
    ∀ is : List Nat, (∀ i ∈ is, i < ps.length ∧ i < qs.length) →
    (Op.eqItems (d + 1) e 1 (ps.map (Value.int k)).toArray (qs.map (Value.int k)).toArray is).run P w = .ok (is.all fun i => ps.getD i 0 == qs.getD i 0) w
  | [], _ => by simp [Op.eqItems]
  | i :: is, h => by
    have hi := h i (by simp)
    have ha : (ps.map (Value.int k)).toArray[i * 1]? = some (.int k (ps.getD i 0)) := by
      simp [List.getElem?_eq_getElem hi.1, List.getD_eq_getElem?_getD]
    have hb : (qs.map (Value.int k)).toArray[i * 1]? = some (.int k (qs.getD i 0)) := by
      simp [List.getElem?_eq_getElem hi.2, List.getD_eq_getElem?_getD]
    have ih := eqItems_ints d he hp ps qs w is (fun j hj => h j (by simp [hj]))
    simp only [Op.eqItems, Sem.run_bind, run_part_plain w hp ha, run_part_plain w hp hb, Result.andThen_ok, run_equalIn_int w d e k k _ _ he]
    cases hc : (ps.getD i 0 == qs.getD i 0)
    · simp only [Bool.not_false, if_true, Sem.run_pure, List.all_cons, hc, Bool.false_and]
    · simp only [Bool.not_true, Bool.false_eq_true, if_false, List.all_cons, hc, Bool.true_and]
      exact ih
theorem eq_ints {P : Program} (d : Nat) {t e : TypeId} {n : Nat} {k : IntKind} {i : TypeInfo} (ht : P.underlying t = some (.array n e)) (he : P.underlying e = some (.int k)) (hp : P.plainKey e = true) (hi : P.info? e = some i) (hc : P.cellsOf e = 1)
    (ps qs : List Int) (ha : ps.length = n) (hb : qs.length = n) (w : World) :
    (Op.equalIn (d + 2) t (.agg (ps.map (Value.int k)).toArray) (.agg (qs.map (Value.int k)).toArray)).run P w = .ok (decide (ps = qs)) w := by
  rw [run_equalIn_array w (d + 1) _ _ ht hi, hc, eqItems_ints d he hp ps qs w _ (fun i hi => by rw [ha, hb]; simpa using hi)]
  congr 1
  rw [Bool.eq_iff_iff]
  simp only [List.all_eq_true, List.mem_range, beq_iff_eq, decide_eq_true_eq]
  constructor
  · intro h
    apply List.ext_getElem (by rw [ha, hb])
    intro j h1 h2
    have := h j (by omega)
    simpa [List.getD_eq_getElem?_getD, List.getElem?_eq_getElem h1, List.getElem?_eq_getElem h2] using this
  · rintro rfl j _
    rfl
/-- Arrays of four bytes. -/
theorem eq4 {b0 b1 b2 b3 d0 d1 d2 d3 : Nat} (W : World) :
    (Op.equalIn 10000 101 (.agg #[.int .u8 (b0 : Int), .int .u8 (b1 : Int), .int .u8 (b2 : Int), .int .u8 (b3 : Int)]) (.agg #[.int .u8 (d0 : Int), .int .u8 (d1 : Int), .int .u8 (d2 : Int), .int .u8 (d3 : Int)])).run Tryz.prog W = .ok (decide ([b0, b1, b2, b3] = [d0, d1, d2, d3])) W := by
  obtain ⟨i, hi⟩ := info_of_underlying Tryz.underlying5
  have h := eq_ints (P := Tryz.prog) 9998 Tryz.underlying101 Tryz.underlying5 (by kernel_rfl) hi (by kernel_rfl) [(b0 : Int), b1, b2, b3] [(d0 : Int), d1, d2, d3] rfl rfl W
  have e : decide ([(b0 : Int), (b1 : Int), (b2 : Int), (b3 : Int)] = [(d0 : Int), (d1 : Int), (d2 : Int), (d3 : Int)]) = decide ([b0, b1, b2, b3] = [d0, d1, d2, d3]) := by
    rw [decide_eq_decide]
    simp
    omega
  rw [e] at h
  exact h
end Go.Proofs.YtgogbpkcceadbaaGreatDoor.Eqa
namespace Go.Proofs.YtgogbpkcceadbaaGreatDoor.FrameW
open Go.RowKit Go.Proofs.YtgogbpkcceadbaaGreatDoor.Wd Go.Proofs.YtgogbpkcceadbaaGreatDoor.FrameP Go.Proofs.YtgogbpkcceadbaaGreatDoor.CrcW Go.Proofs.YtgogbpkcceadbaaGreatDoor.VintW
set_option linter.unusedVariables false

/-- The call returns the bytes, the size and the error of r, the bytes in new memory. -/
def GivesF (w : World) (r : List Nat × Nat × Nat) (e : Ending) (w' : World) : Prop :=
  ∃ v, e = .returned (.tuple #[v, .int .i64 (r.2.1 : Int), .int .i64 (r.2.2 : Int)]) ∧ OwnB w' w.heap.size v r.1 ∧ Below w.heap.size w w'
theorem givesF_err {w w' : World} {e : Ending} {x : Nat} (h : e = .returned (.tuple #[.slice none 0 0, .int .i64 0, .int .i64 (x : Int)])) (hw : w = w') : GivesF w ([], 0, x) e w' := by
  subst hw
  exact ⟨_, h, OwnB.nil_ _ _, Below.refl _ _⟩

set_option maxHeartbeats 1000000 in
theorem clone_any (n cap : Nat) (ad : Addr) (xs : List Nat) (w : World) (hx : RdB w (some ad) n xs) (hn : n ≤ 65536) :
    Calls Tryz.prog 54 #[.slice (some ad) n cap] w (GivesB w xs) := by
  have HX := Lib.hid hx
  clear hx
  have hb0 : Below w.heap.size w (w.alloc (.cells #[] 5)) := (Below.refl _ _).alloc (Nat.le_refl _) _
  have HB0 := Lib.hid hb0
  clear hb0
  have hnil := fun W : World => Lib.run_eql_slice_nil (P := Tryz.prog) W 41 5 (some ad) n cap 0 0 Tryz.underlying41
  go_enter Tryz.func54, Tryz.ntmps54
  go_wp2_with (at_builtin; refine app_list w.heap.size rfl (.tmp 5) (.tmp 6) rfl rfl rfl (OwnB.lit0 w w.heap.size (Nat.le_refl _)) (HX.out.below HB0.out) (by simp; omega) HB0.out.size ?_; intro v2 w2 ho2 hg2 ha2; rw [List.nil_append] at ho2; have HB2 := Lib.hid ((OwnB.lit0 w w.heap.size (Nat.le_refl _)).to_below HB0.out HB0.out.size hg2); have HO2 := Lib.hid ho2; clear ho2 hg2 ha2)
  go_ret
  exact ⟨v2, rfl, HO2.out, HB2.out⟩

theorem take4 {xs : List Nat} {E : Nat} (h : E + 4 ≤ xs.length) : (xs.drop E).take 4 = [xs.getD E 0, xs.getD (E + 1) 0, xs.getD (E + 2) 0, xs.getD (E + 3) 0] := by
  have e : ∀ j, j < xs.length → xs.drop j = xs.getD j 0 :: xs.drop (j + 1) := fun j hj => by
    rw [List.getD_eq_getElem?_getD, List.getElem?_eq_getElem hj, Option.getD_some]
    exact List.drop_eq_getElem_cons hj
  rw [e E (by omega), e (E + 1) (by omega), e (E + 1 + 1) (by omega), e (E + 1 + 1 + 1) (by omega)]
  rfl

set_option maxHeartbeats 1000000 in
set_option maxRecDepth 100000 in
theorem first_any (n cap : Nat) (A : Option Addr) (xs : List Nat) (w : World) (hc : n ≤ cap) (hx : RdB w A n xs) (ht : Tab w) :
    Calls Tryz.prog 27 #[.slice A n cap] w (GivesF w (first xs)) := by
  have hfit := hx.fits
  have HX := Lib.hid hx
  have HL := Lib.hid hx.len
  have HT := Lib.hid ht
  have q := get_any n cap A xs w hx
  unfold getVal at q
  clear hx ht
  rcases get_err xs with he | he
  rotate_left
  · have hr : first xs = ([], 0, (VintP.get 0 0 xs).2.2) := by unfold first; rw [if_pos (by omega)]
    rw [hr]
    generalize (VintP.get 0 0 xs).1 = a at *
    generalize (VintP.get 0 0 xs).2.1 = b at *
    generalize (VintP.get 0 0 xs).2.2 = c at *
    have t0 : ((c : Int) != 0) = true := by rw [bne_iff_ne]; omega
    have Q := Lib.hid q
    clear q hr he
    go_enter Tryz.func27, Tryz.ntmps27
    go_wp2_with fail
    refine Q.out.mono ?_
    rintro e w' ⟨rfl, rfl⟩
    go_wp2
    go_ret3
    exact givesF_err rfl rfl
  · obtain ⟨N, k, hg⟩ : ∃ N k, VintP.get 0 0 xs = (N, k, 0) := ⟨(VintP.get 0 0 xs).1, (VintP.get 0 0 xs).2.1, Prod.ext rfl (Prod.ext rfl he)⟩
    obtain ⟨g1, g2, g3, g4, g5⟩ := get_ok HX.out.small hg
    rw [HL.out] at g4
    have hr : first xs = if 4096 < N then ([], 0, 5) else if xs.length < k + N + 4 then ([], 0, 4)
        else if le4 (CrcP.sum (xs.take (k + N))) ≠ (xs.drop (k + N)).take 4 then ([], 0, 6) else ((xs.drop k).take N, k + N + 4, 0) := by
      unfold first
      rw [hg]
      rfl
    rw [hg] at q
    by_cases h1 : 4096 < N
    · rw [hr, if_pos h1]
      have Q := Lib.hid q
      clear q hr he
      go_enter Tryz.func27, Tryz.ntmps27
      go_wp2_with fail
      refine Q.out.mono ?_
      rintro e w' ⟨rfl, rfl⟩
      go_wp2
      go_ret3
      exact givesF_err rfl rfl
    · rw [if_neg h1] at hr
      by_cases h2 : n < k + N + 4
      · rw [hr, if_pos (by rw [HL.out]; exact h2)]
        have Q := Lib.hid q
        clear q hr he
        go_enter Tryz.func27, Tryz.ntmps27
        go_wp2_with fail
        refine Q.out.mono ?_
        rintro e w' ⟨rfl, rfl⟩
        go_wp2
        go_ret3
        exact givesF_err rfl rfl
      · rw [if_neg (by rw [HL.out]; exact h2)] at hr
        have Q := Lib.hid q
        have HR := Lib.hid hr
        have G := Lib.hid g1
        clear q hr he hg g1 g2
        obtain ⟨ad, rfl, hcell⟩ := HX.out.cell (by omega)
        obtain ⟨E, hE⟩ : ∃ E, E = k + N := ⟨_, rfl⟩
        have eE : (k : Int) + (N : Int) = (E : Int) := by omega
        have hEn : E + 4 ≤ n := by omega
        have hkE : k ≤ E := by omega
        have hne : ¬ cap = E := by omega
        have hnk : ¬ cap = k := by omega
        have ik0 : (0 : Int) ≤ (k : Int) := by omega
        have ik1 : (k : Int) ≤ (E : Int) := by omega
        have HE := Lib.hid hE
        have HC := Lib.hid hcell
        have i0 : (0 : Int) ≤ (E : Int) := by omega
        have i1 : (E : Int) ≤ (cap : Int) := by omega
        have i2 : (E : Int) ≤ (n : Int) := by omega
        clear hE hcell
        go_enter Tryz.func27, Tryz.ntmps27
        go_wp2_with fail
        refine Q.out.mono ?_
        rintro e w' ⟨rfl, rfl⟩
        go_wp2_with fail
        have harr := fun W : World => run_arrayAt (P := Tryz.prog) (w := W) 101 5 4 (some (ad.add E)) (n - E) (cap - E) Tryz.underlying101 (by omega)
        have ht4 := take4 (xs := xs) (E := E) (by rw [HL.out]; omega)
        have hsum : ∀ W, Below w.heap.size w W → Calls Tryz.prog 53 #[.slice (some ad) E cap] W fun e w' => e = .returned (sumVal (CrcP.sum (xs.take E))) ∧ Below W.heap.size W w' :=
          fun W hW => sum4_any E cap (some ad) (xs.take E) W ((HX.out.take (by omega)).below hW) (HT.out.below hW)
        have hr := HR.out
        rw [← HE.out, ht4] at hr
        unfold sumVal at hsum
        unfold le4 at hr
        generalize CrcP.sum (xs.take E) = S at *
        generalize S % 256 = b0 at *
        generalize S / 256 % 256 = b1 at *
        generalize S / 65536 % 256 = b2 at *
        generalize S / 16777216 % 256 = b3 at *
        have hat : ∀ j, j < 4 → ∀ W, Below w.heap.size w W → W.cell? ((ad.add E).add j) = some (.int .u8 ((xs.getD (E + j) 0 : Nat) : Int)) := fun j hj W hW => by
          have h1 := HC.out (E + j) (by omega)
          rw [add_of_add, hW.cell (World.block_lt_of_cell? w _ h1)]
          exact h1
        have c0 : ∀ W, Below w.heap.size w W → W.cell? (ad.add E) = some (.int .u8 ((xs.getD E 0 : Nat) : Int)) := fun W hW => hat 0 (by decide) W hW
        have c1 : ∀ W, Below w.heap.size w W → W.cell? { block := (ad.add E).block, off := (ad.add E).off + 1 } = some (.int .u8 ((xs.getD (E + 1) 0 : Nat) : Int)) := fun W hW => hat 1 (by decide) W hW
        have c2 : ∀ W, Below w.heap.size w W → W.cell? { block := (ad.add E).block, off := (ad.add E).off + 2 } = some (.int .u8 ((xs.getD (E + 2) 0 : Nat) : Int)) := fun W hW => hat 2 (by decide) W hW
        have c3 : ∀ W, Below w.heap.size w W → W.cell? { block := (ad.add E).block, off := (ad.add E).off + 3 } = some (.int .u8 ((xs.getD (E + 3) 0 : Nat) : Int)) := fun W hW => hat 3 (by decide) W hW
        generalize xs.getD E 0 = d0 at *
        generalize xs.getD (E + 1) 0 = d1 at *
        generalize xs.getD (E + 2) 0 = d2 at *
        generalize xs.getD (E + 3) 0 = d3 at *
        have HSUM := Lib.hid hsum
        clear hat hsum ht4 HC
        by_cases heq : [b0, b1, b2, b3] = [d0, d1, d2, d3]
        · rw [if_neg (by simp [heq])] at hr
          simp only [List.cons.injEq, and_true] at heq
          obtain ⟨rfl, rfl, rfl, rfl⟩ := heq
          have heqr := fun W : World => Eqa.eq4 (b0 := b0) (b1 := b1) (b2 := b2) (b3 := b3) (d0 := b0) (d1 := b1) (d2 := b2) (d3 := b3) W
          simp only [decide_true] at heqr
          have HR2 := Lib.hid hr
          clear hr HR
          have hsl : ∀ W, Below w.heap.size w W → Calls Tryz.prog 54 #[.slice (some (ad.add k)) (E - k) (cap - k)] W (GivesB W ((xs.take E).drop k)) :=
            fun W hW => clone_any (E - k) (cap - k) (ad.add k) ((xs.take E).drop k) W (by
              have h1 := ((HX.out.take (k := E) (by omega)).below hW).drop (k := k) (cap := cap) hkE (by omega)
              simpa [hnk] using h1) (by have := HE.out; omega)
          have HCL := Lib.hid hsl
          clear hsl
          have hxd : (xs.take E).drop k = (xs.drop k).take N := by rw [HE.out, List.drop_take]; congr 1; omega
          have hr2 := HR2.out
          rw [← hxd] at hr2
          have HR3 := Lib.hid hr2
          clear hr2 hxd HR2
          generalize (xs.take E).drop k = ys at *
          go_region_held3 (fun w' => Below w.heap.size w w') (first | assumption | exact (Below.refl _ _).drew)
            ((go_at_call 53; ((with_reducible refine (HSUM.out _ (by assumption)).mono ?_)); rintro e w3 ⟨rfl, hb3⟩; have hb4 := Below.trans ‹Below w.heap.size w _› (hb3.mono (Below.size ‹Below w.heap.size w _›))))
          all_goals clear heqr harr c0 c1 c2 c3 HSUM hb3
          all_goals go_wp2_with fail
          all_goals refine (HCL.out _ hb4).mono ?_
          all_goals rintro e w5 ⟨v5, rfl, ho5, hb5⟩
          all_goals have hb6 := hb4.trans (hb5.mono hb4.size)
          all_goals have ho6 : OwnB w5 w.heap.size v5 ys := ⟨own_base ho5.row hb4.size, ho5.small⟩
          all_goals go_wp2
          all_goals go_ret3
          all_goals refine ⟨v5, ?_, ?_, hb6⟩
          all_goals rw [HR3.out]
          all_goals first
            | rfl
            | exact ho6
        · rw [if_pos heq] at hr
          have heqr := fun W : World => Eqa.eq4 (b0 := b0) (b1 := b1) (b2 := b2) (b3 := b3) (d0 := d0) (d1 := d1) (d2 := d2) (d3 := d3) W
          rw [decide_eq_false heq] at heqr
          clear heq
          have HR2 := Lib.hid hr
          clear hr HR
          go_region_held3 (fun w' => Below w.heap.size w w') (first | assumption | exact (Below.refl _ _).drew)
            ((go_at_call 53; ((with_reducible refine (HSUM.out _ (by assumption)).mono ?_)); rintro e w3 ⟨rfl, hb3⟩; have hb4 := Below.trans ‹Below w.heap.size w _› (hb3.mono (Below.size ‹Below w.heap.size w _›))))
          all_goals clear heqr harr c0 c1 c2 c3 HSUM hb3
          all_goals go_wp2
          all_goals go_ret3
          all_goals refine ⟨.slice none 0 0, ?_, ?_, hb4⟩
          all_goals rw [HR2.out]
          all_goals first
            | rfl
            | exact OwnB.nil_ _ _
end Go.Proofs.YtgogbpkcceadbaaGreatDoor.FrameW
