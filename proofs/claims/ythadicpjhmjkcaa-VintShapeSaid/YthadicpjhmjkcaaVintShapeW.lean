/-
  The walk of the law 'truglaw02.VintShape'.
-/
import Derived.Test.YthadicpjhmjkcaaVintAlive
namespace Go.Proofs.Ythadicpjhmjkcaa.VintL
open Go.RowKit Go.Proofs.Ythadicpjhmjkcaa.Wd Go.Proofs.Ythadicpjhmjkcaa.VintP Go.Proofs.Ythadicpjhmjkcaa.VintW
set_option linter.unusedVariables false

theorem shift_mod (n k : Nat) : (((n : Int) / 2 ^ (7 * k)).tmod 128) = ((n / 128 ^ k % 128 : Nat) : Int) := by
  have hp : (128 : Nat) ^ k = 2 ^ (7 * k) := by rw [show (128 : Nat) = 2 ^ 7 by decide, ← Nat.pow_mul]
  rw [hp]
  have e : (n : Int) / 2 ^ (7 * k) = ((n / 2 ^ (7 * k) : Nat) : Int) := by simp
  rw [e, Int.tmod_eq_emod_of_nonneg (Int.natCast_nonneg _)]
  simp

set_option maxHeartbeats 1000000 in
set_option maxRecDepth 100000 in
theorem vintShape_any (w : World) (n : Nat) (hn : n ≤ 18446744073709551615) :
    Calls Try.prog 8 #[.int .u64 (n : Int)] w fun e w' => e = .returned (.bool true) ∧ Below w.heap.size w w' := by
  have q1 := fun W => put_any n W hn
  have q2 := fun W => size_any n W (by omega)
  have hl := enc_length n
  have hlast := encF_last 9 n (by rw [room9]; omega)
  have hby := fun j => encF_bytes 9 n j (by rw [room9]; omega)
  rw [show encF 9 n = enc n from rfl] at hlast hby
  generalize enc n = xs at *
  obtain ⟨L, hL⟩ : ∃ L, L = xs.length := ⟨_, rfl⟩
  rw [← hL] at hl hlast hby q2
  have Q1 := Lib.hid q1
  have Q2 := Lib.hid q2
  have HBY := Lib.hid hby
  have HLAST := Lib.hid hlast
  have HL := Lib.hid hL
  obtain ⟨hl1, hl2⟩ := hl
  clear q1 q2 hby hlast hL
  have t0 : ((L : Int) == 0) = false := by rw [beq_eq_false_iff_ne]; omega
  go_enter Try.func8, Try.ntmps8
  go_wp2_with fail
  refine (alive_any w).mono ?_
  rintro e w1 ⟨rfl, hb⟩
  have HB := Lib.hid hb
  clear hb
  go_wp2_with fail
  refine (Q1.out _).mono ?_
  rintro e w2 ⟨v2, rfl, ho2, hb2⟩
  obtain ⟨A2, c2, hv2, hc2, hr2⟩ := ho2.rd
  rw [← HL.out] at hv2 hr2
  subst hv2
  have HB2 := Lib.hid (HB.out.trans (hb2.mono HB.out.size))
  have HR := Lib.hid hr2
  clear ho2 hb2 hr2 hc2
  go_wp2_with fail
  refine (Q2.out _).mono ?_
  rintro e w' ⟨rfl, rfl⟩
  go_wp2_with fail
  go_loop [22] (fun i => ∃ k : Nat, k ≤ L ∧ i = .int .i64 (k : Int)) (fun i => L - (intOf i).toNat)
  case atStart => exact ⟨0, Nat.zero_le _, rfl⟩
  case round =>
    obtain ⟨k, hk, rfl⟩ := hrel
    by_cases hlt : k < L
    · obtain ⟨ad, rfl, hc, hb⟩ := HR.out.at_ hlt
      obtain ⟨e1, e2⟩ := HBY.out k hlt
      generalize xs.getD k 0 = c at *
      have e3 := shift_mod n k
      rw [← e2] at e3
      obtain ⟨d, hd⟩ : ∃ d, d = c % 128 := ⟨_, rfl⟩
      have e4 : (c : Int) % 128 = (d : Int) := by omega
      rw [← hd] at e3
      have hdl : d < 128 := by omega
      have hcase : ∃ b : Bool, decide (128 ≤ (c : Int)) = b ∧ decide ((k : Int) < (L : Int) - 1) = b := by
        refine ⟨decide (128 ≤ (c : Int)), rfl, ?_⟩
        rw [decide_eq_decide]
        omega
      obtain ⟨b, t1, t2⟩ := hcase
      clear hd e1 e2
      cases b
      all_goals
        go_wp2
        go_round
        case rel => exact ⟨k + 1, by omega, by go_num⟩
        case measure => simp [intOf]; omega
    · by_cases h1 : L = 1
      · have t1 : ((L : Int) == 1) = true := by rw [beq_iff_eq]; omega
        have H1 := Lib.hid h1
        clear h1
        go_wp2
        go_ret
        exact ⟨rfl, HB2.out⟩
      · have t1 : ((L : Int) == 1) = false := by rw [beq_eq_false_iff_ne]; omega
        obtain ⟨j, hj⟩ : ∃ j, j = L - 1 := ⟨_, rfl⟩
        have ej : (L : Int) - 1 = (j : Int) := by omega
        have hjL : j < L := by omega
        obtain ⟨ad, rfl, hc, hb⟩ := HR.out.at_ hjL
        have hpos : 0 < xs.getD j 0 := by
          rcases HLAST.out with h | h
          · omega
          · rw [hj]; exact h
        generalize xs.getD j 0 = c at *
        clear hj h1
        go_wp2
        go_ret
        exact ⟨rfl, HB2.out⟩
end Go.Proofs.Ythadicpjhmjkcaa.VintL
