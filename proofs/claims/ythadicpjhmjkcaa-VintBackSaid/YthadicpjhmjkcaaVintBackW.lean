/-
  The walk of the law 'truglaw02.VintBack'.
-/
import Derived.Test.YthadicpjhmjkcaaVintAlive
namespace Go.Proofs.Ythadicpjhmjkcaa.VintL
open Go.RowKit Go.Proofs.Ythadicpjhmjkcaa.Wd Go.Proofs.Ythadicpjhmjkcaa.VintP Go.Proofs.Ythadicpjhmjkcaa.VintW
set_option linter.unusedVariables false

set_option maxHeartbeats 1000000 in
set_option maxRecDepth 100000 in
theorem vintBack_any (w : World) (m : Nat) (hm : m ≤ 18446744073709551615) (n cap : Nat) (A : Option Addr) (ys : List Nat) (hc : n ≤ cap) (hy : RdB w A n ys) :
    Calls Try.prog 6 #[.int .u64 (m : Int), .slice A n cap] w fun e w' => e = .returned (.bool true) ∧ Below w.heap.size w w' := by
  have hfit := hy.fits
  have q1 := fun W => put_any m W hm
  have hl := enc_length m
  have g1 := get_enc (show m < 18446744073709551616 by omega) ys
  have g2 := fun k hk => get_prefix (n := m) (by omega) (k := k) hk
  generalize enc m = xs at *
  obtain ⟨L, hL⟩ : ∃ L, L = xs.length := ⟨_, rfl⟩
  rw [← hL] at hl g1 g2
  have Q1 := Lib.hid q1
  have HL := Lib.hid hL
  have G1 := Lib.hid g1
  have G2 := Lib.hid g2
  have HY := Lib.hid hy
  obtain ⟨hl1, hl2⟩ := hl
  clear q1 hL g1 g2 hy
  go_enter Try.func6, Try.ntmps6
  go_wp2_with fail
  refine (alive_any w).mono ?_
  rintro e w1 ⟨rfl, hb⟩
  have HB := Lib.hid hb
  clear hb
  by_cases hn : 2000 < n
  · go_wp2_with fail
    go_ret
    exact ⟨rfl, HB.out⟩
  · go_wp2_with fail
    refine (Q1.out _).mono ?_
    rintro e w2 ⟨v2, rfl, ho2, hb2⟩
    obtain ⟨A2, c2, hv2, hc2, hr2⟩ := ho2.rd
    rw [← HL.out] at hv2 hr2 hc2
    subst hv2
    have HB2 := Lib.hid (HB.out.trans (hb2.mono HB.out.size))
    have HR := Lib.hid hr2
    have HY2 := Lib.hid (HY.out.below HB2.out)
    clear ho2 hb2 hr2
    go_wp2_with (first
      | (at_builtin; refine app_list w2.heap.size rfl (.const (.slice none 0 0)) (.tmp 21) rfl rfl rfl (OwnB.nil_ w2 w2.heap.size) HR.out (by simp; omega) (Nat.le_refl _) ?_; intro v3 w3 ho3 hg3 ha3; rw [List.nil_append] at ho3; have HB3 := Lib.hid ((OwnB.nil_ w2 w2.heap.size).to_below (Below.refl _ _) (Nat.le_refl _) hg3); have HO3 := Lib.hid ho3; clear ho3 hg3 ha3)
      | (at_builtin; refine app_list w2.heap.size rfl (.tmp 22) (.tmp 23) rfl rfl rfl HO3.out (HY2.out.below HB3.out) (by have := HL.out; omega) HB3.out.size ?_; intro v4 w4 ho4 hg4 ha4; have HB4 := Lib.hid (HO3.out.to_below HB3.out HB3.out.size hg4); obtain ⟨A4, c4, hv4, hc4, hr4⟩ := ho4.rd; subst hv4; have HR4 := Lib.hid hr4; clear ho4 hg4 ha4 hr4 hc4))
    have hr5 := HR4.out
    rw [List.length_append] at hr5
    refine (get_lit _ _ hr5 (m : Int) (L : Int) 0 m L 0 rfl rfl rfl G1.out).mono ?_
    rintro e w' ⟨rfl, rfl⟩
    clear hr5
    have t0 : ((m : Int) != (m : Int)) = false := by simp
    have t1 : ((L : Int) != (L : Int)) = false := by simp
    go_wp2_with fail
    go_loop [54] (fun i => ∃ k : Nat, k ≤ L ∧ i = .int .i64 (k : Int)) (fun i => L - (intOf i).toNat)
    case atStart => exact ⟨0, Nat.zero_le _, rfl⟩
    case round =>
      obtain ⟨k, hk, rfl⟩ := hrel
      by_cases hlt : k < L
      · have hkc : k ≤ c2 := by omega
        go_wp2_with fail
        refine (get_lit _ _ (((HR.out.below HB4.out).take hk)) 0 0 4 0 0 4 rfl rfl rfl (G2.out k hlt)).mono ?_
        rintro e w' ⟨rfl, rfl⟩
        go_wp2
        go_round
        case rel => exact ⟨k + 1, by omega, by go_num⟩
        case measure => simp [intOf]; omega
      · go_wp2
        go_ret
        exact ⟨rfl, HB2.out.trans (HB4.out.mono HB2.out.size)⟩
end Go.Proofs.Ythadicpjhmjkcaa.VintL
