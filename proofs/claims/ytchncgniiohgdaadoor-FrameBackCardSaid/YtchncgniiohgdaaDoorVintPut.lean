/-
  What vint.Put and its reference come to: for every number just its bytes, in memory of the call's own.
-/
import Derived.Test.YtchncgniiohgdaaDoorWords
import Derived.Test.YtchncgniiohgdaaDoorVintPlain
namespace Go.Proofs.YtchncgniiohgdaaDoor.VintW
open Go.RowKit Go.Proofs.YtchncgniiohgdaaDoor.Wd Go.Proofs.YtchncgniiohgdaaDoor.VintP
set_option linter.unusedVariables false

/-- The call returns the bytes xs, in new memory; what was there is as it was. -/
def GivesB (w : World) (xs : List Nat) (e : Ending) (w' : World) : Prop := ∃ v, e = .returned v ∧ OwnB w' w.heap.size v xs ∧ Below w.heap.size w w'
/-- What a round of the loop keeps. -/
def PutRel (w : World) (n : Nat) (u d : Value) (wr : World) : Prop :=
  ∃ (f m : Nat) (out : List Nat), u = .int .u64 (m : Int) ∧ m ≤ 18446744073709551615 ∧ f ≤ 9 ∧ Hid (out.length + f = 9) ∧ Hid (m < room f) ∧ Hid (OwnB wr w.heap.size d out) ∧ Hid (enc n = out ++ encF f m) ∧ Hid (Below w.heap.size w wr)
theorem put_start (w : World) (n : Nat) (hn : n ≤ 18446744073709551615) : PutRel w n (.int .u64 (n : Int)) (.slice none 0 0) w :=
  ⟨9, n, [], rfl, hn, Nat.le_refl _, rfl, by show n < room 9; rw [room9]; omega, OwnB.nil_ _ _, rfl, Below.refl _ _⟩
theorem or128 (m : Nat) : bits .or .u8 ((m : Int) % 256) 128 = ((m % 128 + 128 : Nat) : Int) := by
  have h := u8_or_nat (m % 256) 128 (by omega) (by decide)
  rw [show ((m % 256 : Nat) : Int) = (m : Int) % 256 by omega] at h
  rw [show ((128 : Nat) : Int) = 128 by rfl] at h
  rw [h]
  have : ∀ j : Fin 256, j.val ||| 128 = j.val % 128 + 128 := by decide +kernel
  rw [this ⟨m % 256, by omega⟩]
  simp only
  omega

set_option maxHeartbeats 1000000 in
theorem put_any (n : Nat) (w : World) (hn : n ≤ 18446744073709551615) :
    Calls Tryd.prog 16 #[.int .u64 (n : Int)] w (GivesB w (enc n)) := by
  go_enter Tryd.func16, Tryd.ntmps16
  go_wp2
  go_loopw [0, 3] (fun u d wr => PutRel w n u d wr) (fun u _ _ => (intOf u).toNat)
  case atStart => exact put_start w n hn
  case round =>
    obtain ⟨f, m, out, rfl, hm, hf, HL, HR, HO, HE, HB⟩ := hrel
    have hl : out.length ≤ 9 := by have := HL.out; omega
    have hsz := HB.out.size
    by_cases hbig : 128 ≤ m
    · have hc : m % 128 + 128 < 256 := by omega
      have e1 := or128 m
      generalize hcc : m % 128 + 128 = c at *
      have HC := Lib.hid hcc
      clear hcc
      go_wp2_with (at_builtin; refine app_list w.heap.size rfl _ _ rfl rfl rfl (HO.out.alloc _) (RdB.one _ _ _ hc) (by omega) (by simp; omega) ?_; intro v2 w2 ho2 hg2 ha2; have HB2 := Lib.hid ((HO.out.alloc _).to_below (HB.out.alloc hsz _) (by simp; omega) hg2); have HO2 := Lib.hid ho2; clear ho2 hg2 ha2)
      go_roundw
      case rel =>
        have hr := HR.out
        obtain ⟨g, rfl⟩ : ∃ g, f = g + 1 := by
          cases f with
          | zero => exact absurd hr (by simp only [room]; omega)
          | succ g => exact ⟨g, rfl⟩
        refine ⟨g, m / 128, out ++ [c], by go_num, by omega, by omega, ?_, ?_, HO2.out, ?_, HB2.out⟩
        · have := HL.out
          show (out ++ [c]).length + g = 9
          simp
          omega
        · simp only [room] at hr
          show m / 128 < room g
          omega
        · show enc n = (out ++ [c]) ++ encF g (m / 128)
          rw [HE.out, encF_big _ hbig, ← HC.out]
          simp
      case measure => simp [intOf]; omega
    · have hc : m < 256 := by omega
      go_wp2_with (at_builtin; refine app_list w.heap.size rfl _ _ rfl rfl rfl (HO.out.alloc _) (RdB.one _ _ _ hc) (by omega) (by simp; omega) ?_; intro v2 w2 ho2 hg2 ha2; have HB2 := Lib.hid ((HO.out.alloc _).to_below (HB.out.alloc hsz _) (by simp; omega) hg2); have HO2 := Lib.hid ho2; clear ho2 hg2 ha2)
      go_ret
      refine ⟨v2, rfl, ?_, HB2.out⟩
      rw [HE.out, encF_small _ (by omega)]
      exact HO2.out

set_option maxHeartbeats 1000000 in
set_option maxRecDepth 100000 in
theorem putR_any (n : Nat) (w : World) (hn : n ≤ 18446744073709551615) :
    Calls Tryd.prog 15 #[.int .u64 (n : Int)] w (GivesB w (enc n)) := by
  go_enter Tryd.func15, Tryd.ntmps15
  go_wp2
  go_loopw [0, 3] (fun u d wr => PutRel w n u d wr) (fun u _ _ => (intOf u).toNat)
  case atStart => exact put_start w n hn
  case round =>
    obtain ⟨f, m, out, rfl, hm, hf, HL, HR, HO, HE, HB⟩ := hrel
    have hl : out.length ≤ 9 := by have := HL.out; omega
    have hsz := HB.out.size
    by_cases hbig : 128 ≤ m
    · have hc : m % 128 + 128 < 256 := by omega
      have e1 : (m : Int) % 128 + 128 = ((m % 128 + 128 : Nat) : Int) := by omega
      generalize hcc : m % 128 + 128 = c at *
      have HC := Lib.hid hcc
      clear hcc
      go_wp2_with (at_builtin; refine app_list w.heap.size rfl _ _ rfl rfl rfl (HO.out.alloc _) (RdB.one _ _ _ hc) (by omega) (by simp; omega) ?_; intro v2 w2 ho2 hg2 ha2; have HB2 := Lib.hid ((HO.out.alloc _).to_below (HB.out.alloc hsz _) (by simp; omega) hg2); have HO2 := Lib.hid ho2; clear ho2 hg2 ha2)
      go_roundw
      case rel =>
        have hr := HR.out
        obtain ⟨g, rfl⟩ : ∃ g, f = g + 1 := by
          cases f with
          | zero => exact absurd hr (by simp only [room]; omega)
          | succ g => exact ⟨g, rfl⟩
        refine ⟨g, m / 128, out ++ [c], by go_num, by omega, by omega, ?_, ?_, HO2.out, ?_, HB2.out⟩
        · have := HL.out
          show (out ++ [c]).length + g = 9
          simp
          omega
        · simp only [room] at hr
          show m / 128 < room g
          omega
        · show enc n = (out ++ [c]) ++ encF g (m / 128)
          rw [HE.out, encF_big _ hbig, ← HC.out]
          simp
      case measure => simp [intOf]; omega
    · have hc : m < 256 := by omega
      go_wp2_with (at_builtin; refine app_list w.heap.size rfl _ _ rfl rfl rfl (HO.out.alloc _) (RdB.one _ _ _ hc) (by omega) (by simp; omega) ?_; intro v2 w2 ho2 hg2 ha2; have HB2 := Lib.hid ((HO.out.alloc _).to_below (HB.out.alloc hsz _) (by simp; omega) hg2); have HO2 := Lib.hid ho2; clear ho2 hg2 ha2)
      go_ret
      refine ⟨v2, rfl, ?_, HB2.out⟩
      rw [HE.out, encF_small _ (by omega)]
      exact HO2.out
end Go.Proofs.YtchncgniiohgdaaDoor.VintW
