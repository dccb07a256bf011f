/-
  The walks of the laws 'truglaw02.VintFolds' and 'truglaw02.VintOrder'.
-/
import Derived.Test.YthadicpjhmjkcaaVintAlive
namespace Go.Proofs.Ythadicpjhmjkcaa.VintL
open Go.RowKit Go.Proofs.Ythadicpjhmjkcaa.Wd Go.Proofs.Ythadicpjhmjkcaa.VintP Go.Proofs.Ythadicpjhmjkcaa.VintW
set_option linter.unusedVariables false

set_option maxHeartbeats 1000000 in
set_option maxRecDepth 100000 in
theorem vintFolds_any (w : World) (n : Int) (h0 : -9223372036854775808 ≤ n) (h1 : n ≤ 9223372036854775807) (m : Nat) (hm : m ≤ 18446744073709551615) :
    Calls Try.prog 5 #[.int .i64 n, .int .u64 (m : Int)] w fun e w' => e = .returned (.bool true) ∧ Below w.heap.size w w' := by
  have hF := fold_lt h0 h1
  have hU := unfold_range (show m < 18446744073709551616 by omega)
  have q1 := fun W => fold_any n W h0 h1
  have q2 := fun W => foldR_any n W h0 h1
  have q3 := fun W => unfold_any m W hm
  have q4 := fun W => unfoldR_any m W hm
  have q5 := fun W => unfold_any (fold n) W (by omega)
  have q6 := fun W => fold_any (unfold_ m) W hU.1 hU.2
  simp only [unfold_fold] at q5
  simp only [fold_unfold] at q6
  generalize fold n = F at *
  generalize unfold_ m = U at *
  have Q1 := Lib.hid q1
  have Q2 := Lib.hid q2
  have Q3 := Lib.hid q3
  have Q4 := Lib.hid q4
  have Q5 := Lib.hid q5
  have Q6 := Lib.hid q6
  clear q1 q2 q3 q4 q5 q6 hF hU h0 h1 hm
  go_enter Try.func5, Try.ntmps5
  go_wp2_with fail
  refine (alive_any w).mono ?_
  rintro e w1 ⟨rfl, hb⟩
  have HB := Lib.hid hb
  clear hb
  go_wp2_with fail
  refine (Q1.out _).mono ?_
  rintro e w' ⟨rfl, rfl⟩
  go_wp2_with fail
  refine (Q2.out _).mono ?_
  rintro e w' ⟨rfl, rfl⟩
  go_wp2_with fail
  refine (Q3.out _).mono ?_
  rintro e w' ⟨rfl, rfl⟩
  go_wp2_with fail
  refine (Q4.out _).mono ?_
  rintro e w' ⟨rfl, rfl⟩
  go_wp2_with fail
  refine (Q1.out _).mono ?_
  rintro e w' ⟨rfl, rfl⟩
  go_wp2_with fail
  refine (Q5.out _).mono ?_
  rintro e w' ⟨rfl, rfl⟩
  go_wp2_with fail
  refine (Q3.out _).mono ?_
  rintro e w' ⟨rfl, rfl⟩
  go_wp2_with fail
  refine (Q6.out _).mono ?_
  rintro e w' ⟨rfl, rfl⟩
  go_wp2
  go_ret
  exact ⟨rfl, HB.out⟩

set_option maxHeartbeats 1000000 in
set_option maxRecDepth 100000 in
theorem vintOrder_any (w : World) (a : Nat) (ha : a ≤ 18446744073709551615) (b : Nat) (hb0 : b ≤ 18446744073709551615) (c : Int) (h0 : -2147483648 ≤ c) (h1 : c ≤ 2147483647) :
    Calls Try.prog 7 #[.int .u64 (a : Int), .int .u64 (b : Int), .int .i32 c] w fun e w' => e = .returned (.bool true) ∧ Below w.heap.size w w' := by
  have q1 := fun W => fold_any c W (by omega) (by omega)
  have q2 := fun W => size_any a W (by omega)
  have q3 := fun W => size_any b W (by omega)
  have hX : fold c ≤ 4294967296 ∧ (fold c % 2 = 0 ↔ 0 ≤ c) := by unfold fold; split <;> omega
  have hab : a ≤ b → (enc a).length ≤ (enc b).length := fun h => enc_mono (by omega) h
  generalize fold c = X at *
  generalize (enc a).length = la at *
  generalize (enc b).length = lb at *
  obtain ⟨hX1, hX2⟩ := hX
  have Q1 := Lib.hid q1
  have Q2 := Lib.hid q2
  have Q3 := Lib.hid q3
  clear q1 q2 q3 ha hb0
  have hcc : (decide (0 ≤ c) = true ∧ ((X : Int) % 2 == 0) = true) ∨ (decide (0 ≤ c) = false ∧ ((X : Int) % 2 == 0) = false) := by
    by_cases h : 0 ≤ c
    · exact .inl ⟨decide_eq_true h, by rw [beq_iff_eq]; have := hX2.2 h; omega⟩
    · exact .inr ⟨decide_eq_false h, by rw [beq_eq_false_iff_ne]; intro e; exact h (hX2.1 (by omega))⟩
  clear hX2
  by_cases hlt : b < a
  · clear hab
    rcases hcc with ⟨g1, g2⟩ | ⟨g1, g2⟩
    all_goals
      go_enter Try.func7, Try.ntmps7
      go_wp2_with fail
      refine (alive_any w).mono ?_
      rintro e w1 ⟨rfl, hb⟩
      have HB := Lib.hid hb
      clear hb
      go_wp2_with fail
      refine (Q1.out _).mono ?_
      rintro e w' ⟨rfl, rfl⟩
      go_wp2
      go_ret
      exact ⟨rfl, HB.out⟩
  · have hl := hab (by omega)
    clear hab
    rcases hcc with ⟨g1, g2⟩ | ⟨g1, g2⟩
    all_goals
      go_enter Try.func7, Try.ntmps7
      go_wp2_with fail
      refine (alive_any w).mono ?_
      rintro e w1 ⟨rfl, hb⟩
      have HB := Lib.hid hb
      clear hb
      go_wp2_with fail
      refine (Q1.out _).mono ?_
      rintro e w' ⟨rfl, rfl⟩
      go_wp2_with fail
      refine (Q2.out _).mono ?_
      rintro e w' ⟨rfl, rfl⟩
      go_wp2_with fail
      refine (Q3.out _).mono ?_
      rintro e w' ⟨rfl, rfl⟩
      go_wp2
      go_ret
      exact ⟨rfl, HB.out⟩
end Go.Proofs.Ythadicpjhmjkcaa.VintL
