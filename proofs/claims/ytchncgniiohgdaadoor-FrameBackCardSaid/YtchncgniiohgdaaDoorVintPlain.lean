/-
  Plain laws of numbers in as many bytes as they need, over numbers and lists: no program in sight.
-/
namespace Go.Proofs.YtchncgniiohgdaaDoor.VintP

/-- The bytes of a number that needs at most f + 1 of them. -/
def encF : Nat → Nat → List Nat
  | 0, n => [n]
  | f + 1, n => if n < 128 then [n] else (n % 128 + 128) :: encF f (n / 128)
def enc (n : Nat) : List Nat := encF 9 n
/-- How many numbers f + 1 bytes have room for; the tenth byte has one bit. -/
def room : Nat → Nat
  | 0 => 2
  | f + 1 => 128 * room f
theorem room9 : room 9 = 18446744073709551616 := by decide
theorem room_pos (f : Nat) : 2 ≤ room f := by
  induction f with
  | zero => exact Nat.le_refl _
  | succ f ih => simp only [room]; omega

theorem room_mono (f : Nat) : room f ≤ room (f + 1) := by simp only [room]; have := room_pos f; omega
theorem room_le : ∀ {f : Nat}, f ≤ 9 → room f ≤ 18446744073709551616
  | f, h => by
    have : ∀ j : Fin 10, room j.val ≤ 18446744073709551616 := by decide
    exact this ⟨f, by omega⟩
theorem encF_small (f : Nat) {n : Nat} (h : n < 128) : encF f n = [n] := by
  cases f with
  | zero => rfl
  | succ f => simp [encF, h]
theorem encF_big (f : Nat) {n : Nat} (h : 128 ≤ n) : encF (f + 1) n = (n % 128 + 128) :: encF f (n / 128) := by
  rw [encF, if_neg (by omega)]
theorem encF_lt : ∀ (f : Nat) {n : Nat}, n < room f → ∀ x ∈ encF f n, x < 256
  | 0, n, h, x, hx => by simp [encF] at hx; simp only [room] at h; omega
  | f + 1, n, h, x, hx => by
    by_cases hs : n < 128
    · rw [encF_small _ hs] at hx; simp at hx; omega
    · rw [encF_big _ (by omega)] at hx
      rcases List.mem_cons.1 hx with rfl | hx
      · omega
      · exact encF_lt f (n := n / 128) (by simp only [room] at h; omega) x hx
theorem encF_length : ∀ (f n : Nat), 1 ≤ (encF f n).length ∧ (encF f n).length ≤ f + 1
  | 0, n => by simp [encF]
  | f + 1, n => by
    by_cases hs : n < 128
    · rw [encF_small _ hs]; simp
    · rw [encF_big _ (by omega)]
      have := encF_length f (n / 128)
      simp; omega
theorem enc_lt {n : Nat} (h : n < 18446744073709551616) : ∀ x ∈ enc n, x < 256 := encF_lt 9 (by rw [room9]; exact h)
theorem enc_length (n : Nat) : 1 ≤ (enc n).length ∧ (enc n).length ≤ 10 := encF_length 9 n

/-! ### The number of bytes -/
/-- The bits of a number. -/
def blen (n : Nat) : Nat := if n = 0 then 0 else n.log2 + 1
theorem encF_len : ∀ (f : Nat) {n : Nat}, n < room f → (encF f n).length = max 1 ((blen n + 6) / 7)
  | 0, n, h => by
    simp only [room] at h
    have : n = 0 ∨ n = 1 := by omega
    rcases this with rfl | rfl <;> decide
  | f + 1, n, h => by
    simp only [room] at h
    by_cases hs : n < 128
    · rw [encF_small _ hs]
      unfold blen
      by_cases h0 : n = 0
      · subst h0; decide
      · rw [if_neg h0]
        have : n.log2 < 7 := (Nat.log2_lt h0).2 (by omega)
        simp only [List.length_cons, List.length_nil]
        omega
    · rw [encF_big _ (by omega)]
      have ih := encF_len f (n := n / 128) (by omega)
      rw [List.length_cons, ih]
      have hb : blen n = blen (n / 128) + 7 := by
        unfold blen
        rw [if_neg (by omega), if_neg (by omega)]
        have h2 : n.log2 = (n / 128).log2 + 7 := by
          have hq : n / 128 ≠ 0 := by omega
          have l1 := (Nat.log2_lt (n := n / 128) (k := (n / 128).log2 + 1) hq).1 (by omega)
          have l2 := Nat.log2_self_le hq
          have hn0 : n ≠ 0 := by omega
          have u1 : n.log2 < (n / 128).log2 + 8 := by
            rw [Nat.log2_lt hn0, show (n / 128).log2 + 8 = ((n / 128).log2 + 1) + 7 by omega, Nat.pow_add]
            omega
          have u2 : ¬ n.log2 < (n / 128).log2 + 7 := by
            rw [Nat.log2_lt hn0, Nat.pow_add]
            omega
          omega
        omega
      have hp : 1 ≤ blen (n / 128) := by unfold blen; rw [if_neg (by omega)]; omega
      omega
theorem enc_len {n : Nat} (h : n < 18446744073709551616) : (enc n).length = max 1 ((blen n + 6) / 7) := encF_len 9 (by rw [room9]; exact h)
theorem blen_mono {a b : Nat} (h : a ≤ b) : blen a ≤ blen b := by
  unfold blen
  by_cases ha : a = 0
  · rw [if_pos ha]; omega
  · rw [if_neg ha, if_neg (by omega)]
    have h1 := Nat.log2_self_le ha
    have h2 : ¬ b.log2 < a.log2 := by
      rw [Nat.log2_lt (by omega)]
      omega
    omega
theorem enc_mono {a b : Nat} (hb : b < 18446744073709551616) (h : a ≤ b) : (enc a).length ≤ (enc b).length := by
  rw [enc_len (by omega), enc_len hb]
  have := blen_mono h
  omega

/-! ### The number at the beginning of bytes -/
/-- The number, how many bytes, and the error: from the i-th byte on, n being what the bytes ahead come to. -/
def get (i n : Nat) : List Nat → Nat × Nat × Nat
  | [] => (0, 0, 4)
  | c :: r => if 9 < i ∨ i = 9 ∧ 1 < c then (0, 0, 5) else if 128 ≤ c then get (i + 1) (n + c % 128 * 128 ^ i) r else if c = 0 ∧ 0 < i then (0, 0, 5) else (n + c % 128 * 128 ^ i, i + 1, 0)

theorem get_encF : ∀ (f i m n : Nat) (rest : List Nat), i + f = 9 → n < room f → (0 < i → 0 < n) → get i m (encF f n ++ rest) = (m + n * 128 ^ i, i + (encF f n).length, 0)
  | 0, i, m, n, rest, hi, hn, hp => by
    simp only [room] at hn
    have h9 : i = 9 := by omega
    subst h9
    simp only [encF, List.cons_append, List.nil_append, get]
    rw [if_neg (by omega), if_neg (by omega), if_neg (by have := hp (by omega); omega), Nat.mod_eq_of_lt (by omega)]
    rfl
  | f + 1, i, m, n, rest, hi, hn, hp => by
    simp only [room] at hn
    by_cases hs : n < 128
    · rw [encF_small _ hs]
      simp only [List.cons_append, List.nil_append, get]
      rw [if_neg (by omega), if_neg (by omega), if_neg (by intro h; have := hp h.2; omega), Nat.mod_eq_of_lt hs]
      rfl
    · rw [encF_big _ (by omega)]
      simp only [List.cons_append, get]
      rw [if_neg (by omega), if_pos (by omega), get_encF f (i + 1) _ (n / 128) rest (by omega) (by omega) (fun _ => by omega)]
      have e : (n % 128 + 128) % 128 = n % 128 := by omega
      have e2 : n % 128 * 128 ^ i + n / 128 * 128 ^ (i + 1) = n * 128 ^ i := by
        rw [Nat.pow_succ]
        have : n = n % 128 + n / 128 * 128 := by omega
        generalize 128 ^ i = p at *
        calc n % 128 * p + n / 128 * (p * 128) = (n % 128 + n / 128 * 128) * p := by
              rw [Nat.add_mul, Nat.mul_comm p 128, ← Nat.mul_assoc]
          _ = n * p := by rw [← this]
      rw [e]
      simp only [List.length_cons, Prod.mk.injEq, and_true]
      omega
theorem get_enc {n : Nat} (h : n < 18446744073709551616) (rest : List Nat) : get 0 0 (enc n ++ rest) = (n, (enc n).length, 0) := by
  have := get_encF 9 0 0 n rest rfl (by rw [room9]; exact h) (by omega)
  rw [enc, this]
  simp

/-- All but the last byte have the highest bit. -/
theorem encF_bytes : ∀ (f n j : Nat), n < room f → j < (encF f n).length → (128 ≤ (encF f n).getD j 0 ↔ j + 1 < (encF f n).length) ∧ (encF f n).getD j 0 % 128 = n / 128 ^ j % 128
  | 0, n, j, hn, hj => by
    simp only [room] at hn
    simp [encF] at hj ⊢
    subst hj
    simp
    omega
  | f + 1, n, j, hn, hj => by
    simp only [room] at hn
    by_cases hs : n < 128
    · rw [encF_small _ hs] at hj ⊢
      simp at hj
      subst hj
      simp
      omega
    · rw [encF_big _ (by omega)] at hj ⊢
      cases j with
      | zero =>
        have := encF_length f (n / 128)
        simp
        omega
      | succ j =>
        have ih := encF_bytes f (n / 128) j (by omega) (by simpa using hj)
        simp only [List.getD_cons_succ, List.length_cons]
        rw [Nat.pow_succ, Nat.mul_comm, ← Nat.div_div_eq_div_mul]
        exact ⟨by rw [ih.1]; omega, ih.2⟩
theorem encF_last : ∀ (f n : Nat), n < room f → (encF f n).length = 1 ∨ 0 < (encF f n).getD ((encF f n).length - 1) 0
  | 0, n, _ => by simp [encF]
  | f + 1, n, hn => by
    simp only [room] at hn
    by_cases hs : n < 128
    · rw [encF_small _ hs]; simp
    · rw [encF_big _ (by omega)]
      have hl := encF_length f (n / 128)
      refine .inr ?_
      rw [show ((n % 128 + 128) :: encF f (n / 128)).length - 1 = ((encF f (n / 128)).length - 1) + 1 by simp; omega, List.getD_cons_succ]
      rcases encF_last f (n / 128) (by omega) with h | h
      · rw [h]
        cases f with
        | zero => simp [encF]; omega
        | succ f =>
          by_cases h2 : n / 128 < 128
          · rw [encF_small _ h2]; simp; omega
          · rw [encF_big _ (by omega)] at h
            have := encF_length f (n / 128 / 128)
            rw [List.length_cons] at h
            omega
      · exact h

/-- What begins no bytes as a whole is too short. -/
theorem get_short : ∀ (l : List Nat) (i n : Nat), (∀ c ∈ l, 128 ≤ c) → i + l.length ≤ 9 → get i n l = (0, 0, 4)
  | [], _, _, _, _ => rfl
  | c :: r, i, n, h, hl => by
    simp only [List.length_cons] at hl
    have hc := h c (by simp)
    rw [get, if_neg (by omega), if_pos hc]
    exact get_short r _ _ (fun x hx => h x (by simp [hx])) (by omega)
theorem get_prefix {n : Nat} (hn : n < 18446744073709551616) {k : Nat} (hk : k < (enc n).length) : get 0 0 ((enc n).take k) = (0, 0, 4) := by
  have hl := enc_length n
  refine get_short _ 0 0 (fun c hc => ?_) (by rw [List.length_take]; omega)
  obtain ⟨j, hj, rfl⟩ := List.mem_iff_getElem.1 hc
  rw [List.length_take] at hj
  have h := (encF_bytes 9 n j (by rw [room9]; exact hn) (by show j < (enc n).length; omega)).1.2 (by show j + 1 < (enc n).length; omega)
  rw [List.getElem_take]
  rw [List.getD_eq_getElem?_getD, List.getElem?_eq_getElem (show j < (encF 9 n).length by show j < (enc n).length; omega)] at h
  exact h

/-! ### The reference's reading: the bytes are the number's, if they are just its -/
/-- What bytes come to, seven bits of each. -/
def val : List Nat → Nat
  | [] => 0
  | c :: r => c % 128 + 128 * val r
theorem val_append (a b : List Nat) : val (a ++ b) = val a + 128 ^ a.length * val b := by
  induction a with
  | nil => simp [val]
  | cons c r ih =>
    simp only [List.cons_append, val, List.length_cons, Nat.pow_succ]
    rw [ih, Nat.mul_add, Nat.mul_comm (128 ^ r.length) 128, Nat.mul_assoc]
    omega
theorem val_lt (l : List Nat) : val l < 128 ^ l.length := by
  induction l with
  | nil => simp [val]
  | cons c r ih =>
    simp only [val, List.length_cons, Nat.pow_succ]
    generalize 128 ^ r.length = p at *
    omega
/-- Bytes of the right form are just their number's. -/
theorem encF_val : ∀ (f : Nat) (pre : List Nat) (c : Nat), pre.length ≤ f → (∀ x ∈ pre, 128 ≤ x ∧ x < 256) → c < 128 → (pre = [] ∨ 0 < c) → encF f (val (pre ++ [c])) = pre ++ [c]
  | f, [], c, _, _, hc, _ => by
    rw [show val ([] ++ [c]) = c by simp [val]; omega, encF_small _ hc]; rfl
  | 0, x :: pre, c, hl, _, _, _ => by simp at hl
  | f + 1, x :: pre, c, hl, hp, hc, h0 => by
    have hx := hp x (by simp)
    have hc0 : 0 < c := by rcases h0 with h | h; cases h; exact h
    have hv : 0 < val (pre ++ [c]) := by
      rw [val_append]
      have h1 : 0 < 128 ^ pre.length := Nat.pow_pos (by decide)
      have h2 : 0 < val [c] := by simp [val]; omega
      have := Nat.mul_pos h1 h2
      omega
    have ev : val ((x :: pre) ++ [c]) = x % 128 + 128 * val (pre ++ [c]) := rfl
    have ih := encF_val f pre c (by simpa using hl) (fun y hy => hp y (by simp [hy])) hc (.inr hc0)
    rw [ev, encF_big _ (by omega)]
    rw [show (x % 128 + 128 * val (pre ++ [c])) % 128 + 128 = x by omega, show (x % 128 + 128 * val (pre ++ [c])) / 128 = val (pre ++ [c]) by omega, ih]
    rfl
/-- A last byte that is nought, behind others, is no number's. -/
theorem enc_ne {pre : List Nat} (hp : pre ≠ []) (hn : val (pre ++ [0]) < 18446744073709551616) : enc (val (pre ++ [0])) ≠ pre ++ [0] := by
  intro e
  have h := encF_last 9 (val (pre ++ [0])) (by rw [room9]; exact hn)
  rw [show encF 9 (val (pre ++ [0])) = pre ++ [0] from e] at h
  have hl : 0 < pre.length := List.length_pos_iff.2 hp
  rcases h with h | h
  · rw [List.length_append, List.length_singleton] at h; omega
  · rw [List.getD_eq_getElem?_getD] at h
    simp at h

/-- The bytes of numbers, one behind the other. -/
def cat : List Nat → List Nat
  | [] => []
  | n :: l => enc n ++ cat l
theorem cat_append (a b : List Nat) : cat (a ++ b) = cat a ++ cat b := by
  induction a with
  | nil => rfl
  | cons n a ih => simp only [List.cons_append, cat, ih, List.append_assoc]
theorem cat_length (l : List Nat) : (cat l).length ≤ 10 * l.length := by
  induction l with
  | nil => exact Nat.le_refl _
  | cons n l ih =>
    have := (enc_length n).2
    simp only [cat, List.length_append, List.length_cons]
    omega
theorem cat_get {n : Nat} (h : n < 18446744073709551616) (l : List Nat) : get 0 0 (cat (n :: l)) = (n, (enc n).length, 0) := get_enc h (cat l)

/-- A number and its folded one. -/
def fold (n : Int) : Nat := if 0 ≤ n then (2 * n).toNat else (-2 * n - 1).toNat
def unfold_ (m : Nat) : Int := if m % 2 = 0 then (m / 2 : Nat) else -((m / 2 : Nat) : Int) - 1
theorem unfold_fold (n : Int) : unfold_ (fold n) = n := by
  unfold unfold_ fold
  split <;> split <;> omega
theorem fold_unfold (m : Nat) : fold (unfold_ m) = m := by
  unfold unfold_ fold
  split <;> split <;> omega
theorem fold_lt {n : Int} (h0 : -9223372036854775808 ≤ n) (h1 : n ≤ 9223372036854775807) : fold n < 18446744073709551616 := by
  unfold fold
  split <;> omega
theorem unfold_range {m : Nat} (h : m < 18446744073709551616) : -9223372036854775808 ≤ unfold_ m ∧ unfold_ m ≤ 9223372036854775807 := by
  unfold unfold_
  split <;> omega
end Go.Proofs.YtchncgniiohgdaaDoor.VintP
