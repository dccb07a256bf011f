/-
  What vint.Get comes to, for every bytes.
-/
import Derived.Test.YtchncgniiohgdaaDoorWords
import Derived.Test.YtchncgniiohgdaaDoorVintPlain
namespace Go.Proofs.YtchncgniiohgdaaDoor.VintW
open Go.RowKit Go.Proofs.YtchncgniiohgdaaDoor.Wd Go.Proofs.YtchncgniiohgdaaDoor.VintP
set_option linter.unusedVariables false

/-- The three results of a reading. -/
def getVal (r : Nat × Nat × Nat) : Value := .tuple #[.int .u64 (r.1 : Int), .int .i64 (r.2.1 : Int), .int .i64 (r.2.2 : Int)]

theorem or_step {k N d : Nat} (hN : N < 128 ^ k) (hd : d < 128) (h : k ≤ 8 ∨ k = 9 ∧ d ≤ 1) :
    bits .or .u64 (N : Int) ((d * 128 ^ k : Nat) : Int) = ((N + d * 128 ^ k : Nat) : Int) ∧ N + d * 128 ^ k ≤ 18446744073709551615 ∧ N + d * 128 ^ k < 128 ^ (k + 1) ∧
      IntKind.u64.wrap ((d : Int) * 2 ^ (7 * k)) = ((d * 128 ^ k : Nat) : Int) := by
  have hp : (128 : Nat) ^ k = 2 ^ (7 * k) := by rw [show (128 : Nat) = 2 ^ 7 by decide, ← Nat.pow_mul]
  have hlt : N + d * 128 ^ k < 128 ^ (k + 1) := by
    rw [Nat.pow_succ]
    generalize 128 ^ k = p at *
    have : d * p ≤ 127 * p := Nat.mul_le_mul_right _ (by omega)
    omega
  have hle : N + d * 128 ^ k ≤ 18446744073709551615 := by
    rcases h with h | ⟨rfl, h⟩
    · have h1 : (128 : Nat) ^ (k + 1) ≤ 128 ^ 9 := Nat.pow_le_pow_right (by decide) (by omega)
      have h2 : (128 : Nat) ^ 9 = 9223372036854775808 := by decide
      omega
    · have h2 : (128 : Nat) ^ 9 = 9223372036854775808 := by decide
      rw [h2] at hN ⊢
      omega
  have hor : N ||| d * 128 ^ k = N + d * 128 ^ k := by
    rw [Nat.or_comm, hp, Nat.mul_comm, ← Nat.two_pow_add_eq_or_of_lt (by rw [← hp]; exact hN)]
    omega
  refine ⟨?_, hle, hlt, ?_⟩
  · rw [← hor]
    exact u64_or_nat N (d * 128 ^ k) (by omega) (by omega)
  · have e : (d : Int) * 2 ^ (7 * k) = ((d * 128 ^ k : Nat) : Int) := by rw [hp]; simp
    rw [e, IntKind.wrap_u64]
    omega
theorem and127 {c : Nat} (h : c < 256) : bits .and .u8 (c : Int) 127 = ((c % 128 : Nat) : Int) := by
  have e := u8_and_nat c 127 h (by decide)
  rw [show c &&& 127 = c % 128 from Nat.and_two_pow_sub_one_eq_mod c 7] at e
  exact e
theorem and128 {c : Nat} (h : c < 256) : (bits .and .u8 (c : Int) 128 != 0) = decide (128 ≤ c) := by
  have e := u8_and_nat c 128 h (by decide)
  rw [show ((128 : Nat) : Int) = 128 by rfl] at e
  rw [e]
  have : ∀ j : Fin 256, ((((j.val &&& 128 : Nat) : Int)) != 0) = decide (128 ≤ j.val) := by decide +kernel
  exact this ⟨c, h⟩
theorem get_cons {k N : Nat} {xs : List Nat} (h : k < xs.length) : get k N (xs.drop k) = if 9 < k ∨ k = 9 ∧ 1 < xs.getD k 0 then (0, 0, 5) else if 128 ≤ xs.getD k 0 then get (k + 1) (N + xs.getD k 0 % 128 * 128 ^ k) (xs.drop (k + 1)) else if xs.getD k 0 = 0 ∧ 0 < k then (0, 0, 5) else (N + xs.getD k 0 % 128 * 128 ^ k, k + 1, 0) := by
  rw [show xs.drop k = xs.getD k 0 :: xs.drop (k + 1) by
    rw [List.getD_eq_getElem?_getD, List.getElem?_eq_getElem h, Option.getD_some]
    exact List.drop_eq_getElem_cons h]
  rfl

set_option maxHeartbeats 1000000 in
set_option maxRecDepth 100000 in
theorem get_any (n cap : Nat) (A : Option Addr) (xs : List Nat) (w : World) (hx : RdB w A n xs) :
    Calls Tryd.prog 20 #[.slice A n cap] w fun e w' => e = .returned (getVal (get 0 0 xs)) ∧ w = w' := by
  have hfit := hx.fits
  have HX := Lib.hid hx
  have HL := Lib.hid hx.len
  clear hx
  go_enter Tryd.func20, Tryd.ntmps20
  go_wp2
  go_loop [5, 10] (fun u i => ∃ k N : Nat, k ≤ n ∧ k ≤ 9 ∧ i = .int .i64 (k : Int) ∧ u = .int .u64 (N : Int) ∧ Hid (N < 128 ^ k) ∧ Hid (get 0 0 xs = get k N (xs.drop k))) (fun _ i => n - (intOf i).toNat)
  case atStart => exact ⟨0, 0, Nat.zero_le _, Nat.zero_le _, rfl, rfl, by show 0 < 128 ^ 0; decide, rfl⟩
  case round =>
    obtain ⟨k, N, hk, hk9, rfl, rfl, HN, HG⟩ := hrel
    by_cases hlt : k < n
    · obtain ⟨ad, rfl, hc, hb⟩ := HX.out.at_ hlt
      have hgc := get_cons (k := k) (N := N) (xs := xs) (by rw [HL.out]; exact hlt)
      rw [← HG.out] at hgc
      generalize xs.getD k 0 = c at *
      have h9 : ¬ (9 < k) := by omega
      by_cases hf : k = 9 ∧ 1 < c
      · have hc1 := hf.2
        have t9 : ((k : Int) == 9) = true := by rw [beq_iff_eq]; omega
        rw [if_pos (.inr hf)] at hgc
        have HGC := Lib.hid hgc
        clear hgc hf
        go_wp2
        go_ret3
        rw [HGC.out]
        exact ⟨rfl, rfl⟩
      · rw [if_neg (by omega)] at hgc
        have hst := or_step HN.out (Nat.mod_lt c (by decide : 0 < 128)) (by omega)
        have e127 := and127 hb
        have e128 := and128 hb
        obtain ⟨d, hd⟩ : ∃ d, d = c % 128 := ⟨_, rfl⟩
        rw [← hd] at hst e127 hgc
        obtain ⟨s, hs⟩ : ∃ s, s = d * 128 ^ k := ⟨_, rfl⟩
        rw [← hs] at hst hgc
        obtain ⟨M, hM⟩ : ∃ M, M = N + s := ⟨_, rfl⟩
        rw [← hM] at hst hgc
        obtain ⟨eor, hM1, hM2, ewr⟩ := hst
        have hdl : d < 128 := by omega
        have HM2 := Lib.hid hM2
        have hcase : (k ≤ 8 ∧ ((k : Int) == 9) = false) ∨ (9 ≤ k ∧ c ≤ 1 ∧ ((k : Int) == 9) = true) := by
          by_cases h : k = 9
          · exact .inr ⟨by omega, by omega, by rw [beq_iff_eq]; omega⟩
          · exact .inl ⟨by omega, by rw [beq_eq_false_iff_ne]; omega⟩
        have HS := Lib.hid hs
        have HD := Lib.hid hd
        have HMM := Lib.hid hM
        clear hf hs hd hM hM2
        by_cases hbig : 128 ≤ c
        · rw [if_pos hbig] at hgc
          rw [decide_eq_true hbig] at e128
          have HGC := Lib.hid hgc
          clear hgc
          rcases hcase with ⟨hk8, t9⟩ | ⟨_, hc1, _⟩
          rotate_left
          · omega
          go_wp2
          go_round
          case rel => exact ⟨k + 1, M, by omega, by omega, by go_num, rfl, HM2.out, HGC.out⟩
          case measure => simp [intOf]; omega
        · rw [if_neg hbig] at hgc
          rw [decide_eq_false hbig] at e128
          by_cases h0 : c = 0
          · have t0 : ((c : Int) == 0) = true := by rw [beq_iff_eq]; omega
            have H0 := Lib.hid h0
            clear h0
            by_cases hk0 : 0 < k
            · rw [if_pos ⟨H0.out, hk0⟩] at hgc
              have HGC := Lib.hid hgc
              clear hgc
              rcases hcase with ⟨hk8, t9⟩ | ⟨hk8, hc1, t9⟩
              all_goals
                go_wp2
                go_ret3
                rw [HGC.out]
                exact ⟨rfl, rfl⟩
            · rw [if_neg (by omega)] at hgc
              have HGC := Lib.hid hgc
              clear hgc
              rcases hcase with ⟨hk8, t9⟩ | ⟨hk8, _, _⟩
              rotate_left
              · omega
              go_wp2
              go_ret3
              rw [HGC.out]
              exact ⟨rfl, rfl⟩
          · have t0 : ((c : Int) == 0) = false := by rw [beq_eq_false_iff_ne]; omega
            rw [if_neg (by omega)] at hgc
            have HGC := Lib.hid hgc
            clear hgc
            rcases hcase with ⟨hk8, t9⟩ | ⟨hk8, hc1, t9⟩
            all_goals
              go_wp2
              go_ret3
              rw [HGC.out]
              exact ⟨rfl, rfl⟩
    · have hg := HG.out
      rw [show xs.drop k = [] by rw [List.drop_eq_nil_iff, HL.out]; omega] at hg
      have HGG := Lib.hid hg
      clear hg
      go_wp2
      go_ret3
      rw [HGG.out]
      exact ⟨rfl, rfl⟩
end Go.Proofs.YtchncgniiohgdaaDoor.VintW
