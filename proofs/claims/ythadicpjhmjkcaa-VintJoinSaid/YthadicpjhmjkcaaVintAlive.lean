/-
  The walk of 'truglaw02.alive': the answers that the document fixes are the program's.
-/
import Derived.Test.YthadicpjhmjkcaaVintPut
import Derived.Test.YthadicpjhmjkcaaVintLen
import Derived.Test.YthadicpjhmjkcaaVintGet
import Derived.Test.YthadicpjhmjkcaaVintFold
namespace Go.Proofs.Ythadicpjhmjkcaa.VintL
open Go.RowKit Go.Proofs.Ythadicpjhmjkcaa.Wd Go.Proofs.Ythadicpjhmjkcaa.VintP Go.Proofs.Ythadicpjhmjkcaa.VintW
set_option linter.unusedVariables false

theorem enc300 : enc 300 = [172, 2] := by decide
/-- A reading of bytes that are written out. -/
theorem get_lit {A : Option Addr} {xs : List Nat} {w : World} (n cap : Nat) (hx : RdB w A n xs) (a b c : Int) (a' b' c' : Nat) (ha : a = a') (hb : b = b') (hc : c = c') (h : get 0 0 xs = (a', b', c')) :
    Calls Try.prog 14 #[.slice A n cap] w fun e w' => e = .returned (.tuple #[.int .u64 a, .int .i64 b, .int .i64 c]) ∧ w = w' := by
  have := get_any n cap A xs w hx
  rw [h] at this
  rw [ha, hb, hc]
  exact this
theorem put_300 (w : World) : Calls Try.prog 12 #[.int .u64 300] w (GivesB w [172, 2]) := by
  have := put_any 300 w (by decide)
  rw [enc300] at this
  exact this
theorem lit3 (w : World) (B : Nat) (hB : w.heap.size = B) : RdB (w.alloc (.cells #[.int .u8 172, .int .u8 2, .int .u8 119] 5)) (some ⟨B, 0, none⟩) 3 [172, 2, 119] := by subst hB; exact RdB.new w 5 (0, 0) [172, 2, 119] (by decide) (by decide)
theorem lit1 (w : World) (B : Nat) (hB : w.heap.size = B) : RdB (w.alloc (.cells #[.int .u8 172] 5)) (some ⟨B, 0, none⟩) 1 [172] := by subst hB; exact RdB.new w 5 (0, 0) [172] (by decide) (by decide)
theorem lit2 (w : World) (B : Nat) (hB : w.heap.size = B) : RdB (w.alloc (.cells #[.int .u8 128, .int .u8 0] 5)) (some ⟨B, 0, none⟩) 2 [128, 0] := by subst hB; exact RdB.new w 5 (0, 0) [128, 0] (by decide) (by decide)
theorem fold_m1 (w : World) : Calls Try.prog 16 #[.int .i64 (-1)] w fun e w' => e = .returned (.int .u64 1) ∧ w = w' := by
  have := fold_any (-1) w (by decide) (by decide)
  rw [show fold (-1) = 1 by decide] at this
  exact this
theorem unfold_2 (w : World) : Calls Try.prog 18 #[.int .u64 2] w fun e w' => e = .returned (.int .i64 1) ∧ w = w' := by
  have := unfold_any 2 w (by decide)
  rw [show unfold_ 2 = 1 by decide] at this
  exact this
theorem size_300 (w : World) : Calls Try.prog 13 #[.int .u64 300] w fun e w' => e = .returned (.int .i64 2) ∧ w = w' := by
  have := size_any 300 w (by decide)
  rw [enc300] at this
  exact this
theorem strB_lit : strB [172, 2] = (⟨#[172, 2]⟩ : ByteArray) := by decide

set_option maxHeartbeats 400000 in
theorem alive_any (w : World) :
    Calls Try.prog 10 #[] w fun e w' => e = .returned (.bool true) ∧ Below w.heap.size w w' := by
  go_enter Try.func10, Try.ntmps10
  go_wp2_with fail
  refine (put_300 w).mono ?_
  rintro e w1 ⟨v1, rfl, ho, hb⟩
  obtain ⟨A1, c1, hv, hc1, hr⟩ := ho.rd
  subst hv
  have HB := Lib.hid hb
  have hr2 : RdB w1 A1 2 [172, 2] := hr
  have HR := Lib.hid hr2
  clear ho hb hr hr2 hc1
  go_wp2_with fail
  refine (get_lit 3 3 (lit3 w1 _ rfl) 300 2 0 300 2 0 rfl rfl rfl (by decide)).mono ?_
  rintro e w' ⟨rfl, rfl⟩
  go_wp2_with fail
  refine (get_lit 1 1 (lit1 _ (w1.heap.size + 1) (by simp)) 0 0 4 0 0 4 rfl rfl rfl (by decide)).mono ?_
  rintro e w' ⟨rfl, rfl⟩
  go_wp2_with fail
  refine (get_lit 2 2 (lit2 _ (w1.heap.size + 1 + 1) (by simp)) 0 0 5 0 0 5 rfl rfl rfl (by decide)).mono ?_
  rintro e w' ⟨rfl, rfl⟩
  have hb4 : Below w1.heap.size w1 (((w1.alloc (.cells #[.int .u8 172, .int .u8 2, .int .u8 119] 5)).alloc (.cells #[.int .u8 172] 5)).alloc (.cells #[.int .u8 128, .int .u8 0] 5)) :=
    (((Below.refl _ _).alloc (Nat.le_refl _) _).alloc (by simp) _).alloc (by simp; omega) _
  generalize ((w1.alloc (.cells #[.int .u8 172, .int .u8 2, .int .u8 119] 5)).alloc (.cells #[.int .u8 172] 5)).alloc (.cells #[.int .u8 128, .int .u8 0] 5) = W at *
  have hcv := conv_str (HR.out.below hb4) c1
  rw [strB_lit] at hcv
  have HB4 := Lib.hid hb4
  clear hb4
  go_wp2_with fail
  refine (fold_m1 W).mono ?_
  rintro e w' ⟨rfl, rfl⟩
  go_wp2_with fail
  refine (unfold_2 W).mono ?_
  rintro e w' ⟨rfl, rfl⟩
  go_wp2_with fail
  refine (size_300 W).mono ?_
  rintro e w' ⟨rfl, rfl⟩
  go_wp2
  go_ret
  exact ⟨rfl, HB.out.trans (HB4.out.mono HB.out.size)⟩
end Go.Proofs.Ythadicpjhmjkcaa.VintL
