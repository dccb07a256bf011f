/-
  The walk of the law 'truglaw10.FrameSizes'.
-/
import Derived.Test.YtchncgniiohgdaaDoorFrameAlive
namespace Go.Proofs.YtchncgniiohgdaaDoor.FrameL
open Go.RowKit Go.Proofs.YtchncgniiohgdaaDoor.Wd Go.Proofs.YtchncgniiohgdaaDoor.FrameP Go.Proofs.YtchncgniiohgdaaDoor.CrcW Go.Proofs.YtchncgniiohgdaaDoor.VintW Go.Proofs.YtchncgniiohgdaaDoor.FrameW
set_option linter.unusedVariables false

set_option maxHeartbeats 1000000 in
set_option maxRecDepth 100000 in
theorem frameSizes_any (w : World) (n cap : Nat) (A : Option Addr) (xs : List Nat) (hc : n ≤ cap) (hx : RdB w A n xs) (s : Nat) (hs : s < 65536) (ht : Tab w) :
    Calls Tryd.prog 6 #[.slice A n cap, .int .u16 (s : Int)] w fun e w' => e = .returned (.bool true) ∧ Below w.heap.size w w' := by
  have hfit := hx.fits
  have HX := Lib.hid hx
  have HT := Lib.hid ht
  clear hx ht
  by_cases h1 : 1500 < n
  · go_enter Tryd.func6, Tryd.ntmps6
    go_wp2_with fail
    refine (alive_any w HT.out).mono ?_
    rintro e w1 ⟨rfl, hb⟩
    have HB := Lib.hid hb
    clear hb
    go_wp2_with fail
    go_ret
    exact ⟨rfl, HB.out⟩
  · go_enter Tryd.func6, Tryd.ntmps6
    go_wp2_with fail
    refine (alive_any w HT.out).mono ?_
    rintro e w1 ⟨rfl, hb⟩
    have HB := Lib.hid hb
    have HX1 := Lib.hid (HX.out.below hb)
    have HT1 := Lib.hid (HT.out.below hb)
    have q1 := wrap_any n cap A xs w1 HX1.out HT1.out (by omega)
    have Q1 := Lib.hid q1
    have hwl := wrap_length xs
    rw [HX1.out.len] at hwl
    have hel := (VintP.enc_length n).2
    have q2 := fun W => putR_any n W (by omega)
    have hfs := fun k (hk : k < (wrap xs).length) => first_short (b := xs) (by rw [HX1.out.len]; omega) hk
    generalize VintP.enc n = es at *
    generalize wrap xs = zs at *
    have Q2 := Lib.hid q2
    have HFS := Lib.hid hfs
    obtain ⟨L, hL⟩ : ∃ L, L = zs.length := ⟨_, rfl⟩
    obtain ⟨M, hM⟩ : ∃ M, M = es.length := ⟨_, rfl⟩
    rw [← hL, ← hM] at hwl
    rw [← hM] at hel
    have HL := Lib.hid hL
    have HM := Lib.hid hM
    have HWL := Lib.hid hwl
    have hLpos : 4 ≤ L := by omega
    clear hb q1 q2 hfs hL hM hwl
    go_wp2_with fail
    refine Q1.out.mono ?_
    rintro e w2 ⟨v2, rfl, ho2, hb2⟩
    have HB2 := Lib.hid (HB.out.trans (hb2.mono HB.out.size))
    have HT2 := Lib.hid (HT1.out.below hb2)
    obtain ⟨A2, c2, hv2, hc2, hr2⟩ := ho2.rd
    rw [← HL.out] at hv2 hc2 hr2
    subst hv2
    have HR2 := Lib.hid hr2
    clear ho2 hb2 hr2
    go_wp2_with fail
    refine (Q2.out w2).mono ?_
    rintro e w3 ⟨v3, rfl, ho3, hb3⟩
    have HB3 := Lib.hid (HB2.out.trans (hb3.mono HB2.out.size))
    obtain ⟨A3, c3, hv3, hc3, hr3⟩ := ho3.rd
    rw [← HM.out] at hv3 hc3 hr3
    subst hv3
    obtain ⟨K, hK⟩ : ∃ K, K = s % L := ⟨_, rfl⟩
    have hKL : K < L := by rw [hK]; exact Nat.mod_lt _ (by omega)
    have eK : (s : Int).tmod (L : Int) = (K : Int) := by rw [hK, Int.tmod_eq_emod_of_nonneg (by omega)]; rfl
    have i0 : (0 : Int) ≤ (K : Int) := by omega
    have i1 : (K : Int) ≤ (c2 : Int) := by omega
    have i2 : ¬ c2 = 0 := by omega
    have i3 : (L : Int) ≠ 0 := by omega
    have eL : (n : Int) + (M : Int) + 4 = (L : Int) := by have := HWL.out; omega
    have q4 := first_any K c2 A2 (zs.take K) w3 (by omega) ((HR2.out.below hb3).take (by omega)) (HT2.out.below hb3)
    rw [HFS.out K (by rw [← HL.out]; exact hKL)] at q4
    have Q4 := Lib.hid q4
    have HK := Lib.hid hK
    clear ho3 hb3 hr3 q4 hK
    go_wp2_with fail
    refine Q4.out.mono ?_
    rintro e w4 ⟨v4, rfl, ho4, hb4⟩
    have HB4 := Lib.hid (HB3.out.trans (hb4.mono HB3.out.size))
    clear ho4 hb4
    go_wp2_with fail
    go_ret
    exact ⟨rfl, HB4.out⟩
end Go.Proofs.YtchncgniiohgdaaDoor.FrameL
