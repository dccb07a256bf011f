/-
  What digest.Rounds and the reference's Rounds come to.
-/
import Derived.Test.YtkhjmegjnglkgaaSize
namespace Go.Proofs.Ytkhjmegjnglkgaa.Vc
open Go.RowKit Go.Proofs.Ytkhjmegjnglkgaa.Wd
set_option linter.unusedVariables false

def rounds (a b : List Nat) (m : Int) : Nat := if m < 1 then 0 else min (size (needTo a b 16) / m.toNat + min (size (needTo a b 16) % m.toNat) 1) 1073741824

set_option maxHeartbeats 1000000 in
set_option maxRecDepth 100000 in
theorem rounds_any (a b : List Nat) (ha : IsVec a) (hb : IsVec b) (m : Int) (hm0 : -9223372036854775808 ≤ m) (hm1 : m ≤ 9223372036854775807) (w : World) :
    Calls Try.prog 15 #[vecV a, vecV b, .int .i64 m] w fun e w' => e = .returned (.int .i64 ((rounds a b m : Nat) : Int)) ∧ Below w.heap.size w w' := by
  have HA := Lib.hid ha
  have HB := Lib.hid hb
  clear ha hb
  unfold vecV
  have h2 : VecAt ((w.alloc (.cells (vecA a) 24)).alloc (.cells (vecA b) 24)) (w.heap.size + 1) b := by simpa using VecAt.new (w.alloc (.cells (vecA a) 24)) HB.out
  have h1 : VecAt ((w.alloc (.cells (vecA a) 24)).alloc (.cells (vecA b) 24)) w.heap.size a := (VecAt.new w HA.out).below ((Below.refl _ _).alloc (Nat.le_refl _) _)
  have h0 : Below w.heap.size w ((w.alloc (.cells (vecA a) 24)).alloc (.cells (vecA b) 24)) := ((Below.refl _ _).alloc (Nat.le_refl _) _).alloc (by simp) _
  have H1 := Lib.hid h1
  have H2 := Lib.hid h2
  have H0 := Lib.hid h0
  clear h0 h1 h2
  by_cases hm : m < 1
  · have hr : rounds a b m = 0 := by unfold rounds; rw [if_pos hm]
    rw [hr]
    go_enter Try.func15, Try.ntmps15
    go_wp2_with fail
    go_ret
    exact ⟨rfl, H0.out⟩
  · obtain ⟨M, rfl⟩ := Int.eq_ofNat_of_zero_le (show 0 ≤ m by omega)
    have hr : rounds a b (M : Int) = min (size (needTo a b 16) / M + min (size (needTo a b 16) % M) 1) 1073741824 := by unfold rounds; rw [if_neg hm]; rfl
    have hq := fun W => need_any a b HA.out HB.out W
    unfold vecV at hq
    have hok := needTo_ok HA.out HB.out (Nat.le_refl 16)
    have hln := needTo_length a b 16
    have hsl := size_le hok
    have HR := Lib.hid hr
    generalize needTo a b 16 = l at *
    obtain ⟨S, hS⟩ : ∃ S, S = size l := ⟨_, rfl⟩
    rw [← hS] at hsl hr
    have hS2 : S ≤ 68719476736 := by omega
    have HS := Lib.hid hS
    have HQ := Lib.hid hq
    have HOK := Lib.hid hok
    obtain ⟨D, hD⟩ : ∃ D, D = S / M := ⟨_, rfl⟩
    obtain ⟨R, hR⟩ : ∃ R, R = S % M := ⟨_, rfl⟩
    have hDS : D ≤ S := by rw [hD]; exact Nat.div_le_self _ _
    have hRM : R < M := by rw [hR]; exact Nat.mod_lt _ (by omega)
    have eD : (S : Int) / (M : Int) = (D : Int) := by rw [hD]; rfl
    have eR : (S : Int) % (M : Int) = (R : Int) := by rw [hR]; rfl
    have wD : IntKind.u64.wrap (D : Int) = (D : Int) := by rw [IntKind.wrap_u64]; omega
    have w30 : wrap64 1073741824 = 1073741824 := by decide +kernel
    rw [← hD, ← hR] at hr
    have HR2 := Lib.hid hr
    clear hq hok hsl hS hr HR hD hR
    go_enter Try.func15, Try.ntmps15
    go_wp2_with (first
      | (refine VecAt.load_list H1.out rfl (.tmp 3) rfl rfl ?_)
      | (refine VecAt.load_list H2.out rfl (.tmp 4) rfl rfl ?_))
    refine (HQ.out _).mono ?_
    generalize (w.alloc (.cells (vecA a) 24)).alloc (.cells (vecA b) 24) = w2 at *
    rintro e w3 ⟨v3, rfl, ho3, hb3⟩
    obtain ⟨A3, c3, hv3, hc3, hr3⟩ := ho3.rd HOK.out
    subst hv3
    have q3 := size_any l.length c3 A3 l w3 hr3 (by omega)
    rw [← HS.out] at q3
    have Q3 := Lib.hid q3
    have HB3 := Lib.hid (H0.out.trans (hb3.mono H0.out.size))
    clear ho3 hb3 hr3 q3
    go_wp2_with fail
    refine Q3.out.mono ?_
    rintro e w4 ⟨rfl, hb4⟩
    have HB4 := Lib.hid (HB3.out.trans (hb4.mono HB3.out.size))
    clear hb4
    go_wp2_with fail
    go_quiet (fail)
    go_wp2_with fail
    all_goals go_ret
    all_goals refine ⟨congrArg Ending.returned (congrArg (Value.int .i64) ?_), drewN_below HB4.out _⟩
    all_goals rw [HR2.out]
    all_goals first
      | omega
      | (simp only [wrap64, IntKind.wrap_u64, IntKind.wrap_i64]; omega)

set_option maxHeartbeats 1000000 in
set_option maxRecDepth 100000 in
theorem roundsR_any (a b : List Nat) (ha : IsVec a) (hb : IsVec b) (m : Int) (hm0 : -9223372036854775808 ≤ m) (hm1 : m ≤ 9223372036854775807) (w : World) :
    Calls Try.prog 16 #[vecV a, vecV b, .int .i64 m] w fun e w' => e = .returned (.int .i64 ((rounds a b m : Nat) : Int)) ∧ Below w.heap.size w w' := by
  have HA := Lib.hid ha
  have HB := Lib.hid hb
  clear ha hb
  unfold vecV
  have h2 : VecAt ((w.alloc (.cells (vecA a) 24)).alloc (.cells (vecA b) 24)) (w.heap.size + 1) b := by simpa using VecAt.new (w.alloc (.cells (vecA a) 24)) HB.out
  have h1 : VecAt ((w.alloc (.cells (vecA a) 24)).alloc (.cells (vecA b) 24)) w.heap.size a := (VecAt.new w HA.out).below ((Below.refl _ _).alloc (Nat.le_refl _) _)
  have h0 : Below w.heap.size w ((w.alloc (.cells (vecA a) 24)).alloc (.cells (vecA b) 24)) := ((Below.refl _ _).alloc (Nat.le_refl _) _).alloc (by simp) _
  have H1 := Lib.hid h1
  have H2 := Lib.hid h2
  have H0 := Lib.hid h0
  clear h0 h1 h2
  by_cases hm : m < 1
  · have hr : rounds a b m = 0 := by unfold rounds; rw [if_pos hm]
    rw [hr]
    go_enter Try.func16, Try.ntmps16
    go_wp2_with fail
    go_ret
    exact ⟨rfl, H0.out⟩
  · obtain ⟨M, rfl⟩ := Int.eq_ofNat_of_zero_le (show 0 ≤ m by omega)
    have hr : rounds a b (M : Int) = min (size (needTo a b 16) / M + min (size (needTo a b 16) % M) 1) 1073741824 := by unfold rounds; rw [if_neg hm]; rfl
    have hq := fun W => needR_any a b HA.out HB.out W
    unfold vecV at hq
    have hok := needTo_ok HA.out HB.out (Nat.le_refl 16)
    have hln := needTo_length a b 16
    have hsl := size_le hok
    have HR := Lib.hid hr
    generalize needTo a b 16 = l at *
    obtain ⟨S, hS⟩ : ∃ S, S = size l := ⟨_, rfl⟩
    rw [← hS] at hsl hr
    have hS2 : S ≤ 68719476736 := by omega
    have HS := Lib.hid hS
    have HQ := Lib.hid hq
    have HOK := Lib.hid hok
    obtain ⟨D, hD⟩ : ∃ D, D = S / M := ⟨_, rfl⟩
    obtain ⟨R, hR⟩ : ∃ R, R = S % M := ⟨_, rfl⟩
    have hDS : D ≤ S := by rw [hD]; exact Nat.div_le_self _ _
    have hRM : R < M := by rw [hR]; exact Nat.mod_lt _ (by omega)
    have eD : (S : Int) / (M : Int) = (D : Int) := by rw [hD]; rfl
    have eR : (S : Int) % (M : Int) = (R : Int) := by rw [hR]; rfl
    have wD : IntKind.u64.wrap (D : Int) = (D : Int) := by rw [IntKind.wrap_u64]; omega
    have w30 : wrap64 1073741824 = 1073741824 := by decide +kernel
    rw [← hD, ← hR] at hr
    have HR2 := Lib.hid hr
    clear hq hok hsl hS hr HR hD hR
    by_cases hR0 : 0 < R
    all_goals
      go_enter Try.func16, Try.ntmps16
      go_wp2_with (first
        | (refine VecAt.load_list H1.out rfl (.tmp 3) rfl rfl ?_)
        | (refine VecAt.load_list H2.out rfl (.tmp 4) rfl rfl ?_))
      refine (HQ.out _).mono ?_
      generalize (w.alloc (.cells (vecA a) 24)).alloc (.cells (vecA b) 24) = w2 at *
      rintro e w3 ⟨v3, rfl, ho3, hb3⟩
      obtain ⟨A3, c3, hv3, hc3, hr3⟩ := ho3.rd HOK.out
      subst hv3
      have q3 := sizeR_any l.length c3 A3 l w3 hr3 (by omega)
      rw [← HS.out] at q3
      have Q3 := Lib.hid q3
      have HB3 := Lib.hid (H0.out.trans (hb3.mono H0.out.size))
      clear ho3 hb3 hr3 q3
      go_wp2_with fail
      refine Q3.out.mono ?_
      rintro e w4 ⟨rfl, hb4⟩
      have HB4 := Lib.hid (HB3.out.trans (hb4.mono HB3.out.size))
      clear hb4
      go_wp2_with fail
      all_goals go_ret
      all_goals refine ⟨congrArg Ending.returned (congrArg (Value.int .i64) ?_), HB4.out⟩
      all_goals rw [HR2.out]
      all_goals first
        | omega
        | (simp only [wrap64, IntKind.wrap_u64, IntKind.wrap_i64]; omega)
end Go.Proofs.Ytkhjmegjnglkgaa.Vc
