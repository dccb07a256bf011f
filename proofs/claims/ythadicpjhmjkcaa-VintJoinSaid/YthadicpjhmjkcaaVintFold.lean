/-
  What vint.Fold, vint.Unfold and their references come to.
-/
import Derived.Test.YthadicpjhmjkcaaWords
import Derived.Test.YthadicpjhmjkcaaVintPlain
namespace Go.Proofs.Ythadicpjhmjkcaa.VintW
open Go.RowKit Go.Proofs.Ythadicpjhmjkcaa.Wd Go.Proofs.Ythadicpjhmjkcaa.VintP
set_option linter.unusedVariables false

theorem compl64 {a : Nat} (h : a < 18446744073709551616) : a ^^^ 18446744073709551615 = 18446744073709551615 - a := by
  apply Nat.eq_of_testBit_eq
  intro i
  rw [Nat.testBit_xor, show (18446744073709551615 : Nat) = 2 ^ 64 - 1 by decide, Nat.testBit_two_pow_sub_one]
  have := Nat.testBit_two_pow_sub_succ (n := 64) (x := a) h i
  rw [show 2 ^ 64 - 1 - a = 2 ^ 64 - (a + 1) by omega, this]
  by_cases hi : i < 64
  · simp [hi]
  · have : a.testBit i = false := Nat.testBit_lt_two_pow (Nat.lt_of_lt_of_le h (by
      have : 2 ^ 64 ≤ 2 ^ i := Nat.pow_le_pow_right (by omega) (by omega)
      omega))
    simp [hi, this]
theorem fold_num (n : Int) (h0 : -9223372036854775808 ≤ n) (h1 : n ≤ 9223372036854775807) :
    bits .xor .u64 (IntKind.u64.wrap (IntKind.u64.wrap n * 2)) (IntKind.u64.wrap (n / 9223372036854775808)) = ((fold n : Nat) : Int) := by
  rw [IntKind.wrap_u64, IntKind.wrap_u64, IntKind.wrap_u64]
  by_cases hn : 0 ≤ n
  · rw [show n / 9223372036854775808 % 18446744073709551616 = ((0 : Nat) : Int) by omega, show n % 18446744073709551616 * 2 % 18446744073709551616 = ((fold n : Nat) : Int) by unfold fold; rw [if_pos hn]; omega]
    rw [bits_xor_u64_nat _ _ (fold_lt h0 h1) (by decide), Nat.xor_zero]
  · obtain ⟨x, hx⟩ : ∃ x : Nat, x = (n % 18446744073709551616 * 2 % 18446744073709551616).toNat := ⟨_, rfl⟩
    rw [show n / 9223372036854775808 % 18446744073709551616 = ((18446744073709551615 : Nat) : Int) by omega, show n % 18446744073709551616 * 2 % 18446744073709551616 = (x : Int) by omega]
    rw [bits_xor_u64_nat _ _ (by omega) (by decide), compl64 (by omega)]
    unfold fold
    rw [if_neg hn]
    omega
theorem unfold_num (m : Nat) (h1 : m ≤ 18446744073709551615) :
    bits .xor .i64 ((m : Int) / 2) (wrap64 (-wrap64 (bits .and .u64 (m : Int) 1))) = unfold_ m := by
  have ea : bits .and .u64 (m : Int) 1 = ((m % 2 : Nat) : Int) := by
    have e := u64_and_nat m 1 (by omega) (by decide)
    rw [show m &&& 1 = m % 2 from Nat.and_two_pow_sub_one_eq_mod m 1] at e
    exact e
  rw [ea]
  have hq : (BitVec.ofInt 64 ((m : Int) / 2)).toNat = m / 2 := by
    rw [show (m : Int) / 2 = ((m / 2 : Nat) : Int) by omega, BitVec.ofInt_natCast, BitVec.toNat_ofNat]
    exact Nat.mod_eq_of_lt (by omega)
  show IntKind.i64.wrap ((BitVec.ofInt 64 ((m : Int) / 2) ^^^ BitVec.ofInt 64 (wrap64 (-wrap64 ((m % 2 : Nat) : Int)))).toNat : Int) = _
  rw [BitVec.toNat_xor, hq]
  unfold unfold_
  by_cases hm : m % 2 = 0
  · rw [if_pos hm, hm]
    rw [show (BitVec.ofInt 64 (wrap64 (-wrap64 ((0 : Nat) : Int)))).toNat = 0 by decide +kernel, Nat.xor_zero, IntKind.wrap_i64]
    omega
  · rw [if_neg hm, show m % 2 = 1 by omega]
    rw [show (BitVec.ofInt 64 (wrap64 (-wrap64 ((1 : Nat) : Int)))).toNat = 18446744073709551615 by decide +kernel, compl64 (by omega), IntKind.wrap_i64]
    omega
theorem fold_any (n : Int) (w : World) (h0 : -9223372036854775808 ≤ n) (h1 : n ≤ 9223372036854775807) :
    Calls Try.prog 16 #[.int .i64 n] w fun e w' => e = .returned (.int .u64 ((fold n : Nat) : Int)) ∧ w = w' := by
  go_enter Try.func16, Try.ntmps16
  go_wp2
  go_ret
  refine ⟨congrArg Ending.returned (congrArg (Value.int .u64) ?_), rfl⟩
  exact fold_num n h0 h1
theorem unfold_any (m : Nat) (w : World) (h1 : m ≤ 18446744073709551615) :
    Calls Try.prog 18 #[.int .u64 (m : Int)] w fun e w' => e = .returned (.int .i64 (unfold_ m)) ∧ w = w' := by
  go_enter Try.func18, Try.ntmps18
  go_wp2
  go_ret
  refine ⟨congrArg Ending.returned (congrArg (Value.int .i64) ?_), rfl⟩
  exact unfold_num m h1
theorem foldR_any (n : Int) (w : World) (h0 : -9223372036854775808 ≤ n) (h1 : n ≤ 9223372036854775807) :
    Calls Try.prog 17 #[.int .i64 n] w fun e w' => e = .returned (.int .u64 ((fold n : Nat) : Int)) ∧ w = w' := by
  by_cases hn : 0 ≤ n
  all_goals
    go_enter Try.func17, Try.ntmps17
    go_wp2
    go_ret
    refine ⟨congrArg Ending.returned (congrArg (Value.int .u64) ?_), rfl⟩
    unfold fold
    first | rw [if_pos hn] | rw [if_neg (by omega)]
    omega
theorem unfoldR_any (m : Nat) (w : World) (h1 : m ≤ 18446744073709551615) :
    Calls Try.prog 19 #[.int .u64 (m : Int)] w fun e w' => e = .returned (.int .i64 (unfold_ m)) ∧ w = w' := by
  by_cases hm : m % 2 = 0
  · have t : ((m : Int) % 2 == 0) = true := by rw [beq_iff_eq]; omega
    have HM := Lib.hid hm
    clear hm
    go_enter Try.func19, Try.ntmps19
    go_wp2
    go_ret
    refine ⟨congrArg Ending.returned (congrArg (Value.int .i64) ?_), rfl⟩
    unfold unfold_
    rw [if_pos HM.out]
    omega
  · have t : ((m : Int) % 2 == 0) = false := by rw [beq_eq_false_iff_ne]; omega
    have HM := Lib.hid hm
    clear hm
    go_enter Try.func19, Try.ntmps19
    go_wp2
    go_ret
    refine ⟨congrArg Ending.returned (congrArg (Value.int .i64) ?_), rfl⟩
    unfold unfold_
    rw [if_neg HM.out]
    omega
end Go.Proofs.Ythadicpjhmjkcaa.VintW
