/-
  The walk of the law 'truglaw10.FrameWraps'.
-/
import Derived.Test.YtchncgniiohgdaaDoorFrameAlive
namespace Go.Proofs.YtchncgniiohgdaaDoor.FrameL
open Go.RowKit Go.Proofs.YtchncgniiohgdaaDoor.Wd Go.Proofs.YtchncgniiohgdaaDoor.FrameP Go.Proofs.YtchncgniiohgdaaDoor.CrcW Go.Proofs.YtchncgniiohgdaaDoor.FrameW
set_option linter.unusedVariables false

set_option maxHeartbeats 1000000 in
set_option maxRecDepth 100000 in
theorem frameWraps_any (w : World) (n cap : Nat) (A : Option Addr) (xs : List Nat) (hc : n ≤ cap) (hx : RdB w A n xs) (ht : Tab w) :
    Calls Tryd.prog 3 #[.slice A n cap] w fun e w' => e = .returned (.bool true) ∧ Below w.heap.size w w' := by
  have hfit := hx.fits
  have HX := Lib.hid hx
  have HT := Lib.hid ht
  clear hx ht
  by_cases h1 : 3000 < n
  · by_cases h2 : n ≤ 4096
    · go_enter Tryd.func3, Tryd.ntmps3
      go_wp2_with fail
      refine (alive_any w HT.out).mono ?_
      rintro e w1 ⟨rfl, hb⟩
      have HB := Lib.hid hb
      clear hb
      go_wp2_with fail
      go_ret
      exact ⟨rfl, HB.out⟩
    · go_enter Tryd.func3, Tryd.ntmps3
      go_wp2_with fail
      refine (alive_any w HT.out).mono ?_
      rintro e w1 ⟨rfl, hb⟩
      have HB := Lib.hid hb
      have q1 := wrap_big n cap A xs w1 (HX.out.below hb) (by omega)
      have q2 := wrapR_big n cap A xs w1 (HX.out.below hb) (by omega)
      have cv := conv_str (RdB.nil_ w1) 0
      have Q1 := Lib.hid q1
      have Q2 := Lib.hid q2
      clear hb q1 q2
      go_wp2_with fail
      refine Q1.out.mono ?_
      rintro e w' ⟨rfl, rfl⟩
      go_wp2_with fail
      refine Q2.out.mono ?_
      rintro e w' ⟨rfl, rfl⟩
      go_wp2_with fail
      go_ret
      exact ⟨rfl, HB.out⟩
  · go_enter Tryd.func3, Tryd.ntmps3
    go_wp2_with fail
    refine (alive_any w HT.out).mono ?_
    rintro e w1 ⟨rfl, hb⟩
    have HB := Lib.hid hb
    have HX1 := Lib.hid (HX.out.below hb)
    have HT1 := Lib.hid (HT.out.below hb)
    have q1 := wrap_any n cap A xs w1 HX1.out HT1.out (by omega)
    have Q1 := Lib.hid q1
    clear hb q1
    go_wp2_with fail
    refine Q1.out.mono ?_
    rintro e w2 ⟨v2, rfl, ho2, hb2⟩
    have HO2 := Lib.hid ho2
    have HB2 := Lib.hid (HB.out.trans (hb2.mono HB.out.size))
    have q2 := wrapR_any n cap A xs w2 (HX1.out.below hb2) (by omega)
    have Q2 := Lib.hid q2
    generalize wrap xs = zs at *
    obtain ⟨A2, c2, hv2, hc2, hr2⟩ := HO2.out.rd
    subst hv2
    have HR2 := Lib.hid hr2
    clear ho2 hb2 q2 hr2
    go_wp2_with fail
    refine Q2.out.mono ?_
    rintro e w3 ⟨v3, rfl, ho3, hb3⟩
    have HB3 := Lib.hid (HB2.out.trans (hb3.mono HB2.out.size))
    obtain ⟨A3, c3, hv3, hc3, hr3⟩ := ho3.rd
    subst hv3
    have cv2 := conv_str (HR2.out.below hb3) c2
    have cv3 := conv_str hr3 c3
    clear ho3 hb3 hr3
    go_wp2_with fail
    go_ret
    exact ⟨rfl, HB3.out⟩
end Go.Proofs.YtchncgniiohgdaaDoor.FrameL
