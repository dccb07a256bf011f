/-
  Plain laws of numbers in as many bytes as they need, over numbers and lists: no program in sight.
  What vint.Put and its reference come to: for every number just its bytes, in memory of the call's own.
  What vint.Get comes to, for every bytes.
-/
import Derived.Test.YtgogbpkcceadbaaGreatDoorWords
namespace Go.Proofs.YtgogbpkcceadbaaGreatDoor.VintP

/-- The bytes of a number that needs at most f + 1 of them. -/
def encF : Nat → Nat → List Nat
  | 0, n => [n]
  | f + 1, n => if n < 128 then [n] else (n % 128 + 128) :: encF f (n / 128)
def enc (n : Nat) : List Nat := encF 9 n
/-- How many numbers f + 1 bytes have room for; the tenth byte has one bit. -/
def room : Nat → Nat
  | 0 => 2
  | f + 1 => 128 * room f
theorem room9 : room 9 = 18446744073709551616 := by decide
theorem room_pos (f : Nat) : 2 ≤ room f := by
  induction f with
  | zero => exact Nat.le_refl _
  | succ f ih => simp only [room]; omega

theorem room_mono (f : Nat) : room f ≤ room (f + 1) := by simp only [room]; have := room_pos f; omega
theorem room_le : ∀ {f : Nat}, f ≤ 9 → room f ≤ 18446744073709551616
  | f, h => by
    have : ∀ j : Fin 10, room j.val ≤ 18446744073709551616 := by decide
    exact this ⟨f, by omega⟩
theorem encF_small (f : Nat) {n : Nat} (h : n < 128) : encF f n = [n] := by
  cases f with
  | zero => rfl
  | succ f => simp [encF, h]
theorem encF_big (f : Nat) {n : Nat} (h : 128 ≤ n) : encF (f + 1) n = (n % 128 + 128) :: encF f (n / 128) := by
  rw [encF, if_neg (by omega)]
theorem encF_lt : ∀ (f : Nat) {n : Nat}, n < room f → ∀ x ∈ encF f n, x < 256
  | 0, n, h, x, hx => by simp [encF] at hx; simp only [room] at h; omega
  | f + 1, n, h, x, hx => by
    by_cases hs : n < 128
    · rw [encF_small _ hs] at hx; simp at hx; omega
    · rw [encF_big _ (by omega)] at hx
      rcases List.mem_cons.1 hx with rfl | hx
      · omega
      · exact encF_lt f (n := n / 128) (by simp only [room] at h; omega) x hx
theorem encF_length : ∀ (f n : Nat), 1 ≤ (encF f n).length ∧ (encF f n).length ≤ f + 1
  | 0, n => by simp [encF]
  | f + 1, n => by
    by_cases hs : n < 128
    · rw [encF_small _ hs]; simp
    · rw [encF_big _ (by omega)]
      have := encF_length f (n / 128)
      simp; omega
theorem enc_lt {n : Nat} (h : n < 18446744073709551616) : ∀ x ∈ enc n, x < 256 := encF_lt 9 (by rw [room9]; exact h)
theorem enc_length (n : Nat) : 1 ≤ (enc n).length ∧ (enc n).length ≤ 10 := encF_length 9 n

/-! ### The number of bytes -/
/-- The bits of a number. -/
def blen (n : Nat) : Nat := if n = 0 then 0 else n.log2 + 1
theorem encF_len : ∀ (f : Nat) {n : Nat}, n < room f → (encF f n).length = max 1 ((blen n + 6) / 7)
  | 0, n, h => by
    simp only [room] at h
    have : n = 0 ∨ n = 1 := by omega
    rcases this with rfl | rfl <;> decide
  | f + 1, n, h => by
    simp only [room] at h
    by_cases hs : n < 128
    · rw [encF_small _ hs]
      unfold blen
      by_cases h0 : n = 0
      · subst h0; decide
      · rw [if_neg h0]
        have : n.log2 < 7 := (Nat.log2_lt h0).2 (by omega)
        simp only [List.length_cons, List.length_nil]
        omega
    · rw [encF_big _ (by omega)]
      have ih := encF_len f (n := n / 128) (by omega)
      rw [List.length_cons, ih]
      have hb : blen n = blen (n / 128) + 7 := by
        unfold blen
        rw [if_neg (by omega), if_neg (by omega)]
        have h2 : n.log2 = (n / 128).log2 + 7 := by
          have hq : n / 128 ≠ 0 := by omega
          have l1 := (Nat.log2_lt (n := n / 128) (k := (n / 128).log2 + 1) hq).1 (by omega)
          have l2 := Nat.log2_self_le hq
          have hn0 : n ≠ 0 := by omega
          have u1 : n.log2 < (n / 128).log2 + 8 := by
            rw [Nat.log2_lt hn0, show (n / 128).log2 + 8 = ((n / 128).log2 + 1) + 7 by omega, Nat.pow_add]
            omega
          have u2 : ¬ n.log2 < (n / 128).log2 + 7 := by
            rw [Nat.log2_lt hn0, Nat.pow_add]
            omega
          omega
        omega
      have hp : 1 ≤ blen (n / 128) := by unfold blen; rw [if_neg (by omega)]; omega
      omega
theorem enc_len {n : Nat} (h : n < 18446744073709551616) : (enc n).length = max 1 ((blen n + 6) / 7) := encF_len 9 (by rw [room9]; exact h)
theorem blen_mono {a b : Nat} (h : a ≤ b) : blen a ≤ blen b := by
  unfold blen
  by_cases ha : a = 0
  · rw [if_pos ha]; omega
  · rw [if_neg ha, if_neg (by omega)]
    have h1 := Nat.log2_self_le ha
    have h2 : ¬ b.log2 < a.log2 := by
      rw [Nat.log2_lt (by omega)]
      omega
    omega
theorem enc_mono {a b : Nat} (hb : b < 18446744073709551616) (h : a ≤ b) : (enc a).length ≤ (enc b).length := by
  rw [enc_len (by omega), enc_len hb]
  have := blen_mono h
  omega

/-! ### The number at the beginning of bytes -/
/-- The number, how many bytes, and the error: from the i-th byte on, n being what the bytes ahead come to. -/
def get (i n : Nat) : List Nat → Nat × Nat × Nat
  | [] => (0, 0, 4)
  | c :: r => if 9 < i ∨ i = 9 ∧ 1 < c then (0, 0, 5) else if 128 ≤ c then get (i + 1) (n + c % 128 * 128 ^ i) r else if c = 0 ∧ 0 < i then (0, 0, 5) else (n + c % 128 * 128 ^ i, i + 1, 0)

theorem get_encF : ∀ (f i m n : Nat) (rest : List Nat), i + f = 9 → n < room f → (0 < i → 0 < n) → get i m (encF f n ++ rest) = (m + n * 128 ^ i, i + (encF f n).length, 0)
  | 0, i, m, n, rest, hi, hn, hp => by
    simp only [room] at hn
    have h9 : i = 9 := by omega
    subst h9
    simp only [encF, List.cons_append, List.nil_append, get]
    rw [if_neg (by omega), if_neg (by omega), if_neg (by have := hp (by omega); omega), Nat.mod_eq_of_lt (by omega)]
    rfl
  | f + 1, i, m, n, rest, hi, hn, hp => by
    simp only [room] at hn
    by_cases hs : n < 128
    · rw [encF_small _ hs]
      simp only [List.cons_append, List.nil_append, get]
      rw [if_neg (by omega), if_neg (by omega), if_neg (by intro h; have := hp h.2; omega), Nat.mod_eq_of_lt hs]
      rfl
    · rw [encF_big _ (by omega)]
      simp only [List.cons_append, get]
      rw [if_neg (by omega), if_pos (by omega), get_encF f (i + 1) _ (n / 128) rest (by omega) (by omega) (fun _ => by omega)]
      have e : (n % 128 + 128) % 128 = n % 128 := by omega
      have e2 : n % 128 * 128 ^ i + n / 128 * 128 ^ (i + 1) = n * 128 ^ i := by
        rw [Nat.pow_succ]
        have : n = n % 128 + n / 128 * 128 := by omega
        generalize 128 ^ i = p at *
        calc n % 128 * p + n / 128 * (p * 128) = (n % 128 + n / 128 * 128) * p := by
              rw [Nat.add_mul, Nat.mul_comm p 128, ← Nat.mul_assoc]
          _ = n * p := by rw [← this]
      rw [e]
      simp only [List.length_cons, Prod.mk.injEq, and_true]
      omega
theorem get_enc {n : Nat} (h : n < 18446744073709551616) (rest : List Nat) : get 0 0 (enc n ++ rest) = (n, (enc n).length, 0) := by
  have := get_encF 9 0 0 n rest rfl (by rw [room9]; exact h) (by omega)
  rw [enc, this]
  simp

/-- All but the last byte have the highest bit. -/
theorem encF_bytes : ∀ (f n j : Nat), n < room f → j < (encF f n).length → (128 ≤ (encF f n).getD j 0 ↔ j + 1 < (encF f n).length) ∧ (encF f n).getD j 0 % 128 = n / 128 ^ j % 128
  | 0, n, j, hn, hj => by
    simp only [room] at hn
    simp [encF] at hj ⊢
    subst hj
    simp
    omega
  | f + 1, n, j, hn, hj => by
    simp only [room] at hn
    by_cases hs : n < 128
    · rw [encF_small _ hs] at hj ⊢
      simp at hj
      subst hj
      simp
      omega
    · rw [encF_big _ (by omega)] at hj ⊢
      cases j with
      | zero =>
        have := encF_length f (n / 128)
        simp
        omega
      | succ j =>
        have ih := encF_bytes f (n / 128) j (by omega) (by simpa using hj)
        simp only [List.getD_cons_succ, List.length_cons]
        rw [Nat.pow_succ, Nat.mul_comm, ← Nat.div_div_eq_div_mul]
        exact ⟨by rw [ih.1]; omega, ih.2⟩
theorem encF_last : ∀ (f n : Nat), n < room f → (encF f n).length = 1 ∨ 0 < (encF f n).getD ((encF f n).length - 1) 0
  | 0, n, _ => by simp [encF]
  | f + 1, n, hn => by
    simp only [room] at hn
    by_cases hs : n < 128
    · rw [encF_small _ hs]; simp
    · rw [encF_big _ (by omega)]
      have hl := encF_length f (n / 128)
      refine .inr ?_
      rw [show ((n % 128 + 128) :: encF f (n / 128)).length - 1 = ((encF f (n / 128)).length - 1) + 1 by simp; omega, List.getD_cons_succ]
      rcases encF_last f (n / 128) (by omega) with h | h
      · rw [h]
        cases f with
        | zero => simp [encF]; omega
        | succ f =>
          by_cases h2 : n / 128 < 128
          · rw [encF_small _ h2]; simp; omega
          · rw [encF_big _ (by omega)] at h
            have := encF_length f (n / 128 / 128)
            rw [List.length_cons] at h
            omega
      · exact h

/-- What begins no bytes as a whole is too short. -/
theorem get_short : ∀ (l : List Nat) (i n : Nat), (∀ c ∈ l, 128 ≤ c) → i + l.length ≤ 9 → get i n l = (0, 0, 4)
  | [], _, _, _, _ => rfl
  | c :: r, i, n, h, hl => by
    simp only [List.length_cons] at hl
    have hc := h c (by simp)
    rw [get, if_neg (by omega), if_pos hc]
    exact get_short r _ _ (fun x hx => h x (by simp [hx])) (by omega)
theorem get_prefix {n : Nat} (hn : n < 18446744073709551616) {k : Nat} (hk : k < (enc n).length) : get 0 0 ((enc n).take k) = (0, 0, 4) := by
  have hl := enc_length n
  refine get_short _ 0 0 (fun c hc => ?_) (by rw [List.length_take]; omega)
  obtain ⟨j, hj, rfl⟩ := List.mem_iff_getElem.1 hc
  rw [List.length_take] at hj
  have h := (encF_bytes 9 n j (by rw [room9]; exact hn) (by show j < (enc n).length; omega)).1.2 (by show j + 1 < (enc n).length; omega)
  rw [List.getElem_take]
  rw [List.getD_eq_getElem?_getD, List.getElem?_eq_getElem (show j < (encF 9 n).length by show j < (enc n).length; omega)] at h
  exact h

/-! ### The reference's reading: the bytes are the number's, if they are just its -/
/-- What bytes come to, seven bits of each. -/
def val : List Nat → Nat
  | [] => 0
  | c :: r => c % 128 + 128 * val r
theorem val_append (a b : List Nat) : val (a ++ b) = val a + 128 ^ a.length * val b := by
  induction a with
  | nil => simp [val]
  | cons c r ih =>
    simp only [List.cons_append, val, List.length_cons, Nat.pow_succ]
    rw [ih, Nat.mul_add, Nat.mul_comm (128 ^ r.length) 128, Nat.mul_assoc]
    omega
theorem val_lt (l : List Nat) : val l < 128 ^ l.length := by
  induction l with
  | nil => simp [val]
  | cons c r ih =>
    simp only [val, List.length_cons, Nat.pow_succ]
    generalize 128 ^ r.length = p at *
    omega
/-- Bytes of the right form are just their number's. -/
theorem encF_val : ∀ (f : Nat) (pre : List Nat) (c : Nat), pre.length ≤ f → (∀ x ∈ pre, 128 ≤ x ∧ x < 256) → c < 128 → (pre = [] ∨ 0 < c) → encF f (val (pre ++ [c])) = pre ++ [c]
  | f, [], c, _, _, hc, _ => by
    rw [show val ([] ++ [c]) = c by simp [val]; omega, encF_small _ hc]; rfl
  | 0, x :: pre, c, hl, _, _, _ => by simp at hl
  | f + 1, x :: pre, c, hl, hp, hc, h0 => by
    have hx := hp x (by simp)
    have hc0 : 0 < c := by rcases h0 with h | h; cases h; exact h
    have hv : 0 < val (pre ++ [c]) := by
      rw [val_append]
      have h1 : 0 < 128 ^ pre.length := Nat.pow_pos (by decide)
      have h2 : 0 < val [c] := by simp [val]; omega
      have := Nat.mul_pos h1 h2
      omega
    have ev : val ((x :: pre) ++ [c]) = x % 128 + 128 * val (pre ++ [c]) := rfl
    have ih := encF_val f pre c (by simpa using hl) (fun y hy => hp y (by simp [hy])) hc (.inr hc0)
    rw [ev, encF_big _ (by omega)]
    rw [show (x % 128 + 128 * val (pre ++ [c])) % 128 + 128 = x by omega, show (x % 128 + 128 * val (pre ++ [c])) / 128 = val (pre ++ [c]) by omega, ih]
    rfl
/-- A last byte that is nought, behind others, is no number's. -/
theorem enc_ne {pre : List Nat} (hp : pre ≠ []) (hn : val (pre ++ [0]) < 18446744073709551616) : enc (val (pre ++ [0])) ≠ pre ++ [0] := by
  intro e
  have h := encF_last 9 (val (pre ++ [0])) (by rw [room9]; exact hn)
  rw [show encF 9 (val (pre ++ [0])) = pre ++ [0] from e] at h
  have hl : 0 < pre.length := List.length_pos_iff.2 hp
  rcases h with h | h
  · rw [List.length_append, List.length_singleton] at h; omega
  · rw [List.getD_eq_getElem?_getD] at h
    simp at h

/-- The bytes of numbers, one behind the other. -/
def cat : List Nat → List Nat
  | [] => []
  | n :: l => enc n ++ cat l
theorem cat_append (a b : List Nat) : cat (a ++ b) = cat a ++ cat b := by
  induction a with
  | nil => rfl
  | cons n a ih => simp only [List.cons_append, cat, ih, List.append_assoc]
theorem cat_length (l : List Nat) : (cat l).length ≤ 10 * l.length := by
  induction l with
  | nil => exact Nat.le_refl _
  | cons n l ih =>
    have := (enc_length n).2
    simp only [cat, List.length_append, List.length_cons]
    omega
theorem cat_get {n : Nat} (h : n < 18446744073709551616) (l : List Nat) : get 0 0 (cat (n :: l)) = (n, (enc n).length, 0) := get_enc h (cat l)

/-- A number and its folded one. -/
def fold (n : Int) : Nat := if 0 ≤ n then (2 * n).toNat else (-2 * n - 1).toNat
def unfold_ (m : Nat) : Int := if m % 2 = 0 then (m / 2 : Nat) else -((m / 2 : Nat) : Int) - 1
theorem unfold_fold (n : Int) : unfold_ (fold n) = n := by
  unfold unfold_ fold
  split <;> split <;> omega
theorem fold_unfold (m : Nat) : fold (unfold_ m) = m := by
  unfold unfold_ fold
  split <;> split <;> omega
theorem fold_lt {n : Int} (h0 : -9223372036854775808 ≤ n) (h1 : n ≤ 9223372036854775807) : fold n < 18446744073709551616 := by
  unfold fold
  split <;> omega
theorem unfold_range {m : Nat} (h : m < 18446744073709551616) : -9223372036854775808 ≤ unfold_ m ∧ unfold_ m ≤ 9223372036854775807 := by
  unfold unfold_
  split <;> omega
end Go.Proofs.YtgogbpkcceadbaaGreatDoor.VintP
namespace Go.Proofs.YtgogbpkcceadbaaGreatDoor.VintW
open Go.RowKit Go.Proofs.YtgogbpkcceadbaaGreatDoor.Wd Go.Proofs.YtgogbpkcceadbaaGreatDoor.VintP
set_option linter.unusedVariables false

/-- The call returns the bytes xs, in new memory; what was there is as it was. -/
def GivesB (w : World) (xs : List Nat) (e : Ending) (w' : World) : Prop := ∃ v, e = .returned v ∧ OwnB w' w.heap.size v xs ∧ Below w.heap.size w w'
/-- What a round of the loop keeps. -/
def PutRel (w : World) (n : Nat) (u d : Value) (wr : World) : Prop :=
  ∃ (f m : Nat) (out : List Nat), u = .int .u64 (m : Int) ∧ m ≤ 18446744073709551615 ∧ f ≤ 9 ∧ Hid (out.length + f = 9) ∧ Hid (m < room f) ∧ Hid (OwnB wr w.heap.size d out) ∧ Hid (enc n = out ++ encF f m) ∧ Hid (Below w.heap.size w wr)
theorem put_start (w : World) (n : Nat) (hn : n ≤ 18446744073709551615) : PutRel w n (.int .u64 (n : Int)) (.slice none 0 0) w :=
  ⟨9, n, [], rfl, hn, Nat.le_refl _, rfl, by show n < room 9; rw [room9]; omega, OwnB.nil_ _ _, rfl, Below.refl _ _⟩
theorem or128 (m : Nat) : bits .or .u8 ((m : Int) % 256) 128 = ((m % 128 + 128 : Nat) : Int) := by
  have h := u8_or_nat (m % 256) 128 (by omega) (by decide)
  rw [show ((m % 256 : Nat) : Int) = (m : Int) % 256 by omega] at h
  rw [show ((128 : Nat) : Int) = 128 by rfl] at h
  rw [h]
  have : ∀ j : Fin 256, j.val ||| 128 = j.val % 128 + 128 := by decide +kernel
  rw [this ⟨m % 256, by omega⟩]
  simp only
  omega

set_option maxHeartbeats 1000000 in
theorem put_any (n : Nat) (w : World) (hn : n ≤ 18446744073709551615) :
    Calls Tryz.prog 51 #[.int .u64 (n : Int)] w (GivesB w (enc n)) := by
  go_enter Tryz.func51, Tryz.ntmps51
  go_wp2
  go_loopw [0, 3] (fun u d wr => PutRel w n u d wr) (fun u _ _ => (intOf u).toNat)
  case atStart => exact put_start w n hn
  case round =>
    obtain ⟨f, m, out, rfl, hm, hf, HL, HR, HO, HE, HB⟩ := hrel
    have hl : out.length ≤ 9 := by have := HL.out; omega
    have hsz := HB.out.size
    by_cases hbig : 128 ≤ m
    · have hc : m % 128 + 128 < 256 := by omega
      have e1 := or128 m
      generalize hcc : m % 128 + 128 = c at *
      have HC := Lib.hid hcc
      clear hcc
      go_wp2_with (at_builtin; refine app_list w.heap.size rfl _ _ rfl rfl rfl (HO.out.alloc _) (RdB.one _ _ _ hc) (by omega) (by simp; omega) ?_; intro v2 w2 ho2 hg2 ha2; have HB2 := Lib.hid ((HO.out.alloc _).to_below (HB.out.alloc hsz _) (by simp; omega) hg2); have HO2 := Lib.hid ho2; clear ho2 hg2 ha2)
      go_roundw
      case rel =>
        have hr := HR.out
        obtain ⟨g, rfl⟩ : ∃ g, f = g + 1 := by
          cases f with
          | zero => exact absurd hr (by simp only [room]; omega)
          | succ g => exact ⟨g, rfl⟩
        refine ⟨g, m / 128, out ++ [c], by go_num, by omega, by omega, ?_, ?_, HO2.out, ?_, HB2.out⟩
        · have := HL.out
          show (out ++ [c]).length + g = 9
          simp
          omega
        · simp only [room] at hr
          show m / 128 < room g
          omega
        · show enc n = (out ++ [c]) ++ encF g (m / 128)
          rw [HE.out, encF_big _ hbig, ← HC.out]
          simp
      case measure => simp [intOf]; omega
    · have hc : m < 256 := by omega
      go_wp2_with (at_builtin; refine app_list w.heap.size rfl _ _ rfl rfl rfl (HO.out.alloc _) (RdB.one _ _ _ hc) (by omega) (by simp; omega) ?_; intro v2 w2 ho2 hg2 ha2; have HB2 := Lib.hid ((HO.out.alloc _).to_below (HB.out.alloc hsz _) (by simp; omega) hg2); have HO2 := Lib.hid ho2; clear ho2 hg2 ha2)
      go_ret
      refine ⟨v2, rfl, ?_, HB2.out⟩
      rw [HE.out, encF_small _ (by omega)]
      exact HO2.out

end Go.Proofs.YtgogbpkcceadbaaGreatDoor.VintW
namespace Go.Proofs.YtgogbpkcceadbaaGreatDoor.VintW
open Go.RowKit Go.Proofs.YtgogbpkcceadbaaGreatDoor.Wd Go.Proofs.YtgogbpkcceadbaaGreatDoor.VintP
set_option linter.unusedVariables false

/-- The three results of a reading. -/
def getVal (r : Nat × Nat × Nat) : Value := .tuple #[.int .u64 (r.1 : Int), .int .i64 (r.2.1 : Int), .int .i64 (r.2.2 : Int)]

theorem or_step {k N d : Nat} (hN : N < 128 ^ k) (hd : d < 128) (h : k ≤ 8 ∨ k = 9 ∧ d ≤ 1) :
    bits .or .u64 (N : Int) ((d * 128 ^ k : Nat) : Int) = ((N + d * 128 ^ k : Nat) : Int) ∧ N + d * 128 ^ k ≤ 18446744073709551615 ∧ N + d * 128 ^ k < 128 ^ (k + 1) ∧
      IntKind.u64.wrap ((d : Int) * 2 ^ (7 * k)) = ((d * 128 ^ k : Nat) : Int) := by
  have hp : (128 : Nat) ^ k = 2 ^ (7 * k) := by rw [show (128 : Nat) = 2 ^ 7 by decide, ← Nat.pow_mul]
  have hlt : N + d * 128 ^ k < 128 ^ (k + 1) := by
    rw [Nat.pow_succ]
    generalize 128 ^ k = p at *
    have : d * p ≤ 127 * p := Nat.mul_le_mul_right _ (by omega)
    omega
  have hle : N + d * 128 ^ k ≤ 18446744073709551615 := by
    rcases h with h | ⟨rfl, h⟩
    · have h1 : (128 : Nat) ^ (k + 1) ≤ 128 ^ 9 := Nat.pow_le_pow_right (by decide) (by omega)
      have h2 : (128 : Nat) ^ 9 = 9223372036854775808 := by decide
      omega
    · have h2 : (128 : Nat) ^ 9 = 9223372036854775808 := by decide
      rw [h2] at hN ⊢
      omega
  have hor : N ||| d * 128 ^ k = N + d * 128 ^ k := by
    rw [Nat.or_comm, hp, Nat.mul_comm, ← Nat.two_pow_add_eq_or_of_lt (by rw [← hp]; exact hN)]
    omega
  refine ⟨?_, hle, hlt, ?_⟩
  · rw [← hor]
    exact u64_or_nat N (d * 128 ^ k) (by omega) (by omega)
  · have e : (d : Int) * 2 ^ (7 * k) = ((d * 128 ^ k : Nat) : Int) := by rw [hp]; simp
    rw [e, IntKind.wrap_u64]
    omega
theorem and127 {c : Nat} (h : c < 256) : bits .and .u8 (c : Int) 127 = ((c % 128 : Nat) : Int) := by
  have e := u8_and_nat c 127 h (by decide)
  rw [show c &&& 127 = c % 128 from Nat.and_two_pow_sub_one_eq_mod c 7] at e
  exact e
theorem and128 {c : Nat} (h : c < 256) : (bits .and .u8 (c : Int) 128 != 0) = decide (128 ≤ c) := by
  have e := u8_and_nat c 128 h (by decide)
  rw [show ((128 : Nat) : Int) = 128 by rfl] at e
  rw [e]
  have : ∀ j : Fin 256, ((((j.val &&& 128 : Nat) : Int)) != 0) = decide (128 ≤ j.val) := by decide +kernel
  exact this ⟨c, h⟩
theorem get_cons {k N : Nat} {xs : List Nat} (h : k < xs.length) : get k N (xs.drop k) = if 9 < k ∨ k = 9 ∧ 1 < xs.getD k 0 then (0, 0, 5) else if 128 ≤ xs.getD k 0 then get (k + 1) (N + xs.getD k 0 % 128 * 128 ^ k) (xs.drop (k + 1)) else if xs.getD k 0 = 0 ∧ 0 < k then (0, 0, 5) else (N + xs.getD k 0 % 128 * 128 ^ k, k + 1, 0) := by
  rw [show xs.drop k = xs.getD k 0 :: xs.drop (k + 1) by
    rw [List.getD_eq_getElem?_getD, List.getElem?_eq_getElem h, Option.getD_some]
    exact List.drop_eq_getElem_cons h]
  rfl

set_option maxHeartbeats 1000000 in
set_option maxRecDepth 100000 in
theorem get_any (n cap : Nat) (A : Option Addr) (xs : List Nat) (w : World) (hx : RdB w A n xs) :
    Calls Tryz.prog 52 #[.slice A n cap] w fun e w' => e = .returned (getVal (get 0 0 xs)) ∧ w = w' := by
  have hfit := hx.fits
  have HX := Lib.hid hx
  have HL := Lib.hid hx.len
  clear hx
  go_enter Tryz.func52, Tryz.ntmps52
  go_wp2
  go_loop [5, 10] (fun u i => ∃ k N : Nat, k ≤ n ∧ k ≤ 9 ∧ i = .int .i64 (k : Int) ∧ u = .int .u64 (N : Int) ∧ Hid (N < 128 ^ k) ∧ Hid (get 0 0 xs = get k N (xs.drop k))) (fun _ i => n - (intOf i).toNat)
  case atStart => exact ⟨0, 0, Nat.zero_le _, Nat.zero_le _, rfl, rfl, by show 0 < 128 ^ 0; decide, rfl⟩
  case round =>
    obtain ⟨k, N, hk, hk9, rfl, rfl, HN, HG⟩ := hrel
    by_cases hlt : k < n
    · obtain ⟨ad, rfl, hc, hb⟩ := HX.out.at_ hlt
      have hgc := get_cons (k := k) (N := N) (xs := xs) (by rw [HL.out]; exact hlt)
      rw [← HG.out] at hgc
      generalize xs.getD k 0 = c at *
      have h9 : ¬ (9 < k) := by omega
      by_cases hf : k = 9 ∧ 1 < c
      · have hc1 := hf.2
        have t9 : ((k : Int) == 9) = true := by rw [beq_iff_eq]; omega
        rw [if_pos (.inr hf)] at hgc
        have HGC := Lib.hid hgc
        clear hgc hf
        go_wp2
        go_ret3
        rw [HGC.out]
        exact ⟨rfl, rfl⟩
      · rw [if_neg (by omega)] at hgc
        have hst := or_step HN.out (Nat.mod_lt c (by decide : 0 < 128)) (by omega)
        have e127 := and127 hb
        have e128 := and128 hb
        obtain ⟨d, hd⟩ : ∃ d, d = c % 128 := ⟨_, rfl⟩
        rw [← hd] at hst e127 hgc
        obtain ⟨s, hs⟩ : ∃ s, s = d * 128 ^ k := ⟨_, rfl⟩
        rw [← hs] at hst hgc
        obtain ⟨M, hM⟩ : ∃ M, M = N + s := ⟨_, rfl⟩
        rw [← hM] at hst hgc
        obtain ⟨eor, hM1, hM2, ewr⟩ := hst
        have hdl : d < 128 := by omega
        have HM2 := Lib.hid hM2
        have hcase : (k ≤ 8 ∧ ((k : Int) == 9) = false) ∨ (9 ≤ k ∧ c ≤ 1 ∧ ((k : Int) == 9) = true) := by
          by_cases h : k = 9
          · exact .inr ⟨by omega, by omega, by rw [beq_iff_eq]; omega⟩
          · exact .inl ⟨by omega, by rw [beq_eq_false_iff_ne]; omega⟩
        have HS := Lib.hid hs
        have HD := Lib.hid hd
        have HMM := Lib.hid hM
        clear hf hs hd hM hM2
        by_cases hbig : 128 ≤ c
        · rw [if_pos hbig] at hgc
          rw [decide_eq_true hbig] at e128
          have HGC := Lib.hid hgc
          clear hgc
          rcases hcase with ⟨hk8, t9⟩ | ⟨_, hc1, _⟩
          rotate_left
          · omega
          go_wp2
          go_round
          case rel => exact ⟨k + 1, M, by omega, by omega, by go_num, rfl, HM2.out, HGC.out⟩
          case measure => simp [intOf]; omega
        · rw [if_neg hbig] at hgc
          rw [decide_eq_false hbig] at e128
          by_cases h0 : c = 0
          · have t0 : ((c : Int) == 0) = true := by rw [beq_iff_eq]; omega
            have H0 := Lib.hid h0
            clear h0
            by_cases hk0 : 0 < k
            · rw [if_pos ⟨H0.out, hk0⟩] at hgc
              have HGC := Lib.hid hgc
              clear hgc
              rcases hcase with ⟨hk8, t9⟩ | ⟨hk8, hc1, t9⟩
              all_goals
                go_wp2
                go_ret3
                rw [HGC.out]
                exact ⟨rfl, rfl⟩
            · rw [if_neg (by omega)] at hgc
              have HGC := Lib.hid hgc
              clear hgc
              rcases hcase with ⟨hk8, t9⟩ | ⟨hk8, _, _⟩
              rotate_left
              · omega
              go_wp2
              go_ret3
              rw [HGC.out]
              exact ⟨rfl, rfl⟩
          · have t0 : ((c : Int) == 0) = false := by rw [beq_eq_false_iff_ne]; omega
            rw [if_neg (by omega)] at hgc
            have HGC := Lib.hid hgc
            clear hgc
            rcases hcase with ⟨hk8, t9⟩ | ⟨hk8, hc1, t9⟩
            all_goals
              go_wp2
              go_ret3
              rw [HGC.out]
              exact ⟨rfl, rfl⟩
    · have hg := HG.out
      rw [show xs.drop k = [] by rw [List.drop_eq_nil_iff, HL.out]; omega] at hg
      have HGG := Lib.hid hg
      clear hg
      go_wp2
      go_ret3
      rw [HGG.out]
      exact ⟨rfl, rfl⟩
end Go.Proofs.YtgogbpkcceadbaaGreatDoor.VintW
