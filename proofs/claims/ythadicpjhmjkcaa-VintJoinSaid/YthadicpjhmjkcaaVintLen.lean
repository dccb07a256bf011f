/-
  What math/bits.Len64 and vint.Size come to: a number's bits; how many bytes it needs.
-/
import Derived.Test.YthadicpjhmjkcaaWords
import Derived.Test.YthadicpjhmjkcaaVintPlain
import Derived.Lib.Strings
import Derived.Lib.Slices
import Derived.Lib.Small
import Derived.Lib.Walk
import Derived.Lib.BitFns
namespace Go.Proofs.Ythadicpjhmjkcaa.VintW
open Go.RowKit Go.Proofs.Ythadicpjhmjkcaa.Wd Go.Proofs.Ythadicpjhmjkcaa.VintP
set_option linter.unusedVariables false

theorem tab8_at (i : Nat) (h : i < Lib.len8tab.size) (h2 : i < 256) : ((Lib.len8tab[i]'h).toNat : Int) = (Lib.bitLen i : Int) := by
  have e := Lib.len8_eq ⟨i, h2⟩
  simp only [Lib.len8, Int.toNat_natCast] at e
  rw [getElem?_pos Lib.len8tab i h] at e
  simpa only [Option.getD_some] using e
theorem tab8_size : Lib.len8tab.size = 256 := by decide +kernel
theorem fin8 {x y : Int} (K : Int) (k : Nat) (hK : K = k) (hk : k ≤ 56) (h0 : 0 ≤ y) (h1 : y < 256) (e : Lib.bitLen x.toNat = k + Lib.bitLen y.toNat) (h : y.toNat < Lib.len8tab.size) :
    wrap64 (K + wrap64 ((Lib.len8tab[y.toNat]'h).toNat : Int)) = (Lib.bitLen x.toNat : Int) := by
  have l := Lib.bitLen_le8' y h0 (by omega)
  rw [tab8_at y.toNat h (by omega), e]
  unfold wrap64
  omega
theorem fin8_0 {x : Int} (h0 : 0 ≤ x) (h1 : x < 256) (h : x.toNat < Lib.len8tab.size) :
    wrap64 (wrap64 ((Lib.len8tab[x.toNat]'h).toNat : Int)) = (Lib.bitLen x.toNat : Int) := by
  have l := Lib.bitLen_le8' x h0 (by omega)
  rw [tab8_at x.toNat h (by omega)]
  unfold wrap64
  omega

set_option maxHeartbeats 4000000 in
set_option maxRecDepth 100000 in
theorem len64_int (x : Int) (w : World) (h0 : 0 ≤ x) (h1 : x ≤ 18446744073709551615) :
    Calls Try.prog 20 #[.int .u64 x] w fun e w' => e = .returned (.int .i64 (Lib.bitLen x.toNat)) ∧ w = w' := by
  have hsz := tab8_size
  go_enter Try.func20, Try.ntmps20
  go_wp2
  all_goals (go_ret; refine ⟨congrArg Ending.returned (congrArg (Value.int IntKind.i64) ?_), rfl⟩)
  all_goals first
    | (refine fin8 56 56 rfl (by decide) (by omega) (by omega) ?_ _; rw [show (x / 4294967296 / 65536 / 256).toNat = x.toNat / 72057594037927936 by omega]; exact Lib.bitLen_shift56 x.toNat (by omega) (by omega))
    | (refine fin8 48 48 rfl (by decide) (by omega) (by omega) ?_ _; rw [show (x / 4294967296 / 65536).toNat = x.toNat / 281474976710656 by omega]; exact Lib.bitLen_shift48 x.toNat (by omega) (by omega))
    | (refine fin8 40 40 rfl (by decide) (by omega) (by omega) ?_ _; rw [show (x / 4294967296 / 256).toNat = x.toNat / 1099511627776 by omega]; exact Lib.bitLen_shift40 x.toNat (by omega) (by omega))
    | (refine fin8 32 32 rfl (by decide) (by omega) (by omega) ?_ _; rw [show (x / 4294967296).toNat = x.toNat / 4294967296 by omega]; exact Lib.bitLen_shift32 x.toNat (by omega) (by omega))
    | (refine fin8 24 24 rfl (by decide) (by omega) (by omega) ?_ _; rw [show (x / 65536 / 256).toNat = x.toNat / 16777216 by omega]; exact Lib.bitLen_shift24 x.toNat (by omega) (by omega))
    | (refine fin8 16 16 rfl (by decide) (by omega) (by omega) ?_ _; rw [show (x / 65536).toNat = x.toNat / 65536 by omega]; exact Lib.bitLen_shift16 x.toNat (by omega) (by omega))
    | (refine fin8 8 8 rfl (by decide) (by omega) (by omega) ?_ _; rw [show (x / 256).toNat = x.toNat / 256 by omega]; exact Lib.bitLen_shift8 x.toNat (by omega) (by omega))
    | exact fin8_0 h0 (by assumption) _

theorem bitLen_blen (n : Nat) (h : n < 18446744073709551616) : Lib.bitLen n = blen n := by
  unfold blen
  by_cases h0 : n = 0
  · subst h0; decide
  · rw [if_neg h0]
    have l2 := Nat.log2_self_le h0
    have l3 := (Nat.log2_lt (n := n) (k := n.log2 + 1) h0).1 (by omega)
    rw [Lib.bitLen_shift n.log2 n l2 (by simpa using h)]
    have : n / 2 ^ n.log2 = 1 := by
      have hp : 0 < 2 ^ n.log2 := Nat.pow_pos (by decide)
      rw [Nat.pow_succ] at l3
      have h1 : 1 ≤ n / 2 ^ n.log2 := (Nat.le_div_iff_mul_le hp).2 (by omega)
      have h2 : n / 2 ^ n.log2 < 2 := (Nat.div_lt_iff_lt_mul hp).2 (by omega)
      omega
    rw [this]
    rfl
theorem size_any (n : Nat) (w : World) (hn : n < 18446744073709551616) :
    Calls Try.prog 13 #[.int .u64 (n : Int)] w fun e w' => e = .returned (.int .i64 ((enc n).length : Int)) ∧ w = w' := by
  have h := len64_int (n : Int) w (by omega) (by omega)
  have hl := enc_len hn
  rw [Int.toNat_natCast, bitLen_blen n hn] at h
  have hb := (enc_length n).2
  generalize blen n = b at *
  generalize (enc n).length = k at *
  have HL := Lib.hid hl
  have hb64 : b ≤ 70 := by omega
  clear hl hn
  go_enter Try.func13, Try.ntmps13
  go_wp2_with fail
  refine h.mono ?_
  rintro e w' ⟨rfl, rfl⟩
  clear h
  go_wp2
  go_ret
  refine ⟨congrArg Ending.returned (congrArg (Value.int IntKind.i64) ?_), rfl⟩
  rw [HL.out]
  omega
end Go.Proofs.Ythadicpjhmjkcaa.VintW
