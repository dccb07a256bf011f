/-
  cmp.Compare, cmp.Or, op.Less, the closure that compares, and the reference's Less.
-/
import Derived.Test.YtkhjmegjnglkgaaOpW
namespace Go.Proofs.Ytkhjmegjnglkgaa.Vc
open Go.RowKit Go.Proofs.Ytkhjmegjnglkgaa.Wd
set_option linter.unusedVariables false

def cmpN (x y : Nat) : Int := if x < y then -1 else if y < x then 1 else 0

theorem nan64 (x : Nat) (w : World) : Calls Try.prog 43 #[.int .u64 (x : Int)] w fun e w' => e = .returned (.bool false) ∧ w = w' := by
  go_enter Try.func43, Try.ntmps43
  go_wp2
  go_ret
  exact ⟨rfl, rfl⟩
theorem nan8 (x : Nat) (w : World) : Calls Try.prog 45 #[.int .u8 (x : Int)] w fun e w' => e = .returned (.bool false) ∧ w = w' := by
  go_enter Try.func45, Try.ntmps45
  go_wp2
  go_ret
  exact ⟨rfl, rfl⟩
theorem nan32 (x : Nat) (w : World) : Calls Try.prog 46 #[.int .u32 (x : Int)] w fun e w' => e = .returned (.bool false) ∧ w = w' := by
  go_enter Try.func46, Try.ntmps46
  go_wp2
  go_ret
  exact ⟨rfl, rfl⟩
theorem cmp64 (x y : Nat) (w : World) : Calls Try.prog 37 #[.int .u64 (x : Int), .int .u64 (y : Int)] w fun e w' => e = .returned (.int .i64 (cmpN x y)) ∧ w = w' := by
  have H1 := Lib.hid (nan64 x w)
  have H2 := Lib.hid (nan64 y w)
  have hc : x < y ∨ y < x ∨ x = y := by omega
  rcases hc with hc | hc | hc
  all_goals
    have hr : cmpN x y = cmpN x y := rfl
    conv at hr => rhs; unfold cmpN
    first
      | rw [if_pos hc] at hr
      | rw [if_neg (by omega), if_pos hc] at hr
      | rw [if_neg (by omega), if_neg (by omega)] at hr
    rw [hr]
    clear hr
    try subst hc
    go_enter Try.func37, Try.ntmps37
    go_wp2_with fail
    refine H1.out.mono ?_
    rintro e w' ⟨rfl, rfl⟩
    go_wp2_with fail
    refine H2.out.mono ?_
    rintro e w' ⟨rfl, rfl⟩
    go_wp2_with fail
    go_ret
    exact ⟨rfl, rfl⟩
theorem cmp8 (x y : Nat) (w : World) : Calls Try.prog 39 #[.int .u8 (x : Int), .int .u8 (y : Int)] w fun e w' => e = .returned (.int .i64 (cmpN x y)) ∧ w = w' := by
  have H1 := Lib.hid (nan8 x w)
  have H2 := Lib.hid (nan8 y w)
  have hc : x < y ∨ y < x ∨ x = y := by omega
  rcases hc with hc | hc | hc
  all_goals
    have hr : cmpN x y = cmpN x y := rfl
    conv at hr => rhs; unfold cmpN
    first
      | rw [if_pos hc] at hr
      | rw [if_neg (by omega), if_pos hc] at hr
      | rw [if_neg (by omega), if_neg (by omega)] at hr
    rw [hr]
    clear hr
    try subst hc
    go_enter Try.func39, Try.ntmps39
    go_wp2_with fail
    refine H1.out.mono ?_
    rintro e w' ⟨rfl, rfl⟩
    go_wp2_with fail
    refine H2.out.mono ?_
    rintro e w' ⟨rfl, rfl⟩
    go_wp2_with fail
    go_ret
    exact ⟨rfl, rfl⟩
theorem cmp32 (x y : Nat) (w : World) : Calls Try.prog 40 #[.int .u32 (x : Int), .int .u32 (y : Int)] w fun e w' => e = .returned (.int .i64 (cmpN x y)) ∧ w = w' := by
  have H1 := Lib.hid (nan32 x w)
  have H2 := Lib.hid (nan32 y w)
  have hc : x < y ∨ y < x ∨ x = y := by omega
  rcases hc with hc | hc | hc
  all_goals
    have hr : cmpN x y = cmpN x y := rfl
    conv at hr => rhs; unfold cmpN
    first
      | rw [if_pos hc] at hr
      | rw [if_neg (by omega), if_pos hc] at hr
      | rw [if_neg (by omega), if_neg (by omega)] at hr
    rw [hr]
    clear hr
    try subst hc
    go_enter Try.func40, Try.ntmps40
    go_wp2_with fail
    refine H1.out.mono ?_
    rintro e w' ⟨rfl, rfl⟩
    go_wp2_with fail
    refine H2.out.mono ?_
    rintro e w' ⟨rfl, rfl⟩
    go_wp2_with fail
    go_ret
    exact ⟨rfl, rfl⟩
def or3 (p q r : Int) : Int := if p ≠ 0 then p else if q ≠ 0 then q else r
set_option maxHeartbeats 1000000 in
theorem or_any (p q r : Int) (g : Nat) (w : World) (h0 : w.cell? ⟨g, 0, none⟩ = some (.int .i64 p)) (h1 : w.cell? ⟨g, 1, none⟩ = some (.int .i64 q)) (h2 : w.cell? ⟨g, 2, none⟩ = some (.int .i64 r)) :
    Calls Try.prog 36 #[.slice (some ⟨g, 0, none⟩) 3 3] w fun e w' => e = .returned (.int .i64 (or3 p q r)) ∧ w = w' := by
  have hcell : ∀ k : Nat, k < 3 → ∃ x, w.cell? ⟨g, k, none⟩ = some (.int .i64 x) ∧ x = [p, q, r].getD k 0 := by
    intro k hk
    have : k = 0 ∨ k = 1 ∨ k = 2 := by omega
    rcases this with rfl | rfl | rfl
    · exact ⟨p, h0, rfl⟩
    · exact ⟨q, h1, rfl⟩
    · exact ⟨r, h2, rfl⟩
  have HC := Lib.hid hcell
  clear h0 h1 h2 hcell
  go_enter Try.func36, Try.ntmps36
  go_wp2_with fail
  go_loop [8] (fun i => ∃ k : Nat, k ≤ 3 ∧ i = .int .i64 (k : Int) ∧ Hid (∀ j, j < k → [p, q, r].getD j 0 = 0)) (fun i => 3 - (intOf i).toNat)
  case atStart => exact ⟨0, Nat.zero_le _, rfl, fun j hj => absurd hj (Nat.not_lt_zero _)⟩
  case round =>
    obtain ⟨k, hk, rfl, HZ⟩ := hrel
    by_cases hlt : k < 3
    · obtain ⟨x, hx, hxe⟩ := HC.out k hlt
      have i0 : (0 : Int) ≤ (k : Int) := by omega
      have i1 : (k : Int) < 3 := by omega
      have HX := Lib.hid hxe
      clear hxe
      by_cases hz : x = 0
      · subst hz
        go_wp2_with fail
        exact ⟨⟨k + 1, by omega, by go_num, fun j hj => by
          by_cases h : j < k
          · exact HZ.out j h
          · rw [show j = k by omega]; exact HX.out.symm⟩, by simp [intOf]; omega⟩
      · have hr : or3 p q r = x := by
          rw [HX.out] at hz ⊢
          have hzz := HZ.out
          have : k = 0 ∨ k = 1 ∨ k = 2 := by omega
          rcases this with rfl | rfl | rfl
          · have e : p ≠ 0 := hz
            simp [or3, e]
          · have e0 : p = 0 := hzz 0 (by omega)
            have e : q ≠ 0 := hz
            simp [or3, e0, e]
          · have e0 : p = 0 := hzz 0 (by omega)
            have e1 : q = 0 := hzz 1 (by omega)
            simp [or3, e0, e1]
        have HR := Lib.hid hr
        have t0 : (x != 0) = true := by rw [bne_iff_ne]; exact hz
        clear hr hz
        go_wp2_with fail
        go_ret
        exact ⟨by rw [HR.out]; rfl, rfl⟩
    · have hr : or3 p q r = 0 := by
        have hzz := HZ.out
        have e0 : p = 0 := hzz 0 (by omega)
        have e1 : q = 0 := hzz 1 (by omega)
        have e2 : r = 0 := hzz 2 (by omega)
        simp [or3, e0, e1, e2]
      have HR := Lib.hid hr
      clear hr
      go_wp2_with fail
      go_ret
      exact ⟨by rw [HR.out]; rfl, rfl⟩
/-- What 'less' says of two operations, as a number. -/
def key3 (a b : O) : Int := or3 (cmpN (cnt a) (cnt b)) (cmpN a.rep b.rep) (cmpN a.seq b.seq)
end Go.Proofs.Ytkhjmegjnglkgaa.Vc
