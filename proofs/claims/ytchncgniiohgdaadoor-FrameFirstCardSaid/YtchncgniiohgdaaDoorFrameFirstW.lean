/-
  The walk of the law 'truglaw10.FrameFirst'.
-/
import Derived.Test.YtchncgniiohgdaaDoorFrameAlive
import Derived.Test.YtchncgniiohgdaaDoorFrameScanR
namespace Go.Proofs.YtchncgniiohgdaaDoor.FrameL
open Go.RowKit Go.Proofs.YtchncgniiohgdaaDoor.Wd Go.Proofs.YtchncgniiohgdaaDoor.FrameP Go.Proofs.YtchncgniiohgdaaDoor.CrcW Go.Proofs.YtchncgniiohgdaaDoor.FrameW
set_option linter.unusedVariables false

set_option maxHeartbeats 2000000 in
set_option maxRecDepth 100000 in
theorem frameFirst_any (w : World) (n cap : Nat) (A : Option Addr) (xs : List Nat) (hc : n ≤ cap) (hx : RdB w A n xs) (ht : Tab w) :
    Calls Tryd.prog 4 #[.slice A n cap] w fun e w' => e = .returned (.bool true) ∧ Below w.heap.size w w' := by
  have hfit := hx.fits
  have HX := Lib.hid hx
  have HT := Lib.hid ht
  clear hx ht
  by_cases h1 : 3000 < n
  · go_enter Tryd.func4, Tryd.ntmps4
    go_wp2_with fail
    refine (alive_any w HT.out).mono ?_
    rintro e w1 ⟨rfl, hb⟩
    have HB := Lib.hid hb
    clear hb
    go_wp2_with fail
    go_ret
    exact ⟨rfl, HB.out⟩
  · go_enter Tryd.func4, Tryd.ntmps4
    go_wp2_with fail
    refine (alive_any w HT.out).mono ?_
    rintro e w1 ⟨rfl, hb⟩
    have HB := Lib.hid hb
    have HX1 := Lib.hid (HX.out.below hb)
    have HT1 := Lib.hid (HT.out.below hb)
    have q1 := first_any n cap A xs w1 hc HX1.out HT1.out
    have hbk : ∀ W, Below w1.heap.size w1 W → ∀ ad, A = some ad → 0 < n → ad.block < W.heap.size := fun W hW ad hA h0 => by
      obtain ⟨ad', e, hc⟩ := HX1.out.cell h0
      rw [hA] at e
      injection e with e
      subst e
      have := World.block_lt_of_cell? w1 _ (hc 0 h0)
      rw [add_block] at this
      have := hW.size
      omega
    have HBK := Lib.hid hbk
    have Q1 := Lib.hid q1
    obtain ⟨r, hr⟩ : ∃ r, r = first xs := ⟨_, rfl⟩
    obtain ⟨c, s, e⟩ := r
    rw [← hr] at q1
    have Q1 := Lib.hid q1
    have HR := Lib.hid hr
    clear hb q1 hbk hr
    go_wp2_with fail
    refine Q1.out.mono ?_
    rintro e' w2 ⟨v2, rfl, ho2, hb2⟩
    have HB2 := Lib.hid hb2
    obtain ⟨A2, c2, hv2, hc2, hr2⟩ := ho2.rd
    subst hv2
    have HR2 := Lib.hid hr2
    have q2 := firstR_any w2.heap.size n cap A xs w2 hc (HX1.out.below hb2) (HBK.out w2 hb2)
    rw [← HR.out] at q2
    have Q2 := Lib.hid q2
    clear ho2 hb2 hr2 q2
    go_wp2_with fail
    refine Q2.out.mono ?_
    rintro e' w3 ⟨A3, c3, rfl, hc3, hr3, hb3, _⟩
    have HB3 := Lib.hid (HB2.out.trans (hb3.mono HB2.out.size))
    have cv2 := conv_str (HR2.out.below hb3) c2
    have cv3 := conv_str hr3 c3
    have q3 := scan_any n cap A xs w3 hc (HX1.out.below HB3.out) (HT1.out.below HB3.out) (by omega)
    obtain ⟨t, ht⟩ : ∃ t, t = scan xs := ⟨_, rfl⟩
    obtain ⟨l, m⟩ := t
    rw [← ht] at q3
    have HTT := Lib.hid ht
    have Q3 := Lib.hid q3
    clear hb3 hr3 q3 ht
    go_wp2_with fail
    refine Q3.out.mono ?_
    rintro e' w4 ⟨v4, rfl, ho4, hb4⟩
    clear cv2 cv3
    obtain ⟨A4, c4, hv4, hc4, hr4⟩ := ho4.rd
    subst hv4
    have HR4 := Lib.hid hr4
    have HB4 := Lib.hid (HB3.out.trans (hb4.mono HB3.out.size))
    have q4 := scanR_any n cap A xs w4 hc (HX1.out.below HB4.out) (by omega)
    rw [← HTT.out] at q4
    have Q4 := Lib.hid q4
    clear ho4 hb4 hr4 q4
    go_wp2_with fail
    refine Q4.out.mono ?_
    rintro e' w5 ⟨v5, rfl, ho5, hb5⟩
    obtain ⟨A5, c5, hv5, hc5, hr5⟩ := ho5.rd
    subst hv5
    have HR5 := Lib.hid hr5
    have HR4b := Lib.hid (HR4.out.below hb5)
    have HB5 := Lib.hid (HB.out.trans ((HB4.out.trans (hb5.mono HB4.out.size)).mono HB.out.size))
    obtain ⟨L, hL⟩ : ∃ L, L = l.length := ⟨_, rfl⟩
    dsimp only at hc4 hc5
    rw [← hL] at hc4 hc5
    have HL := Lib.hid hL
    have r4 := HR4b.out
    have r5 := HR5.out
    dsimp only at r4 r5
    rw [← hL] at r4 r5
    have R4 := Lib.hid r4
    have R5 := Lib.hid r5
    have hLf := R4.out.fits
    dsimp only
    rw [← hL]
    clear ho5 hb5 hr5 hL r4 r5
    go_wp2_with fail
    go_loopw [68] (fun i wr => ∃ k : Nat, k ≤ L ∧ i = .int .i64 (k : Int) ∧ Hid (Below w5.heap.size w5 wr)) (fun i _ => L - (intOf i).toNat)
    case atStart => exact ⟨0, Nat.zero_le _, rfl, Below.refl _ _⟩
    case round =>
      obtain ⟨k, hk, rfl, HW⟩ := hrel
      by_cases hlt : k < L
      · have i0 : (0 : Int) ≤ (k : Int) := Int.natCast_nonneg _
        have i1 : (k : Int) < (L : Int) := by omega
        obtain ⟨a4, rfl, hcl4⟩ := (R4.out.below HW.out).cell (by omega)
        obtain ⟨a5, rfl, hcl5⟩ := (R5.out.below HW.out).cell (by omega)
        obtain ⟨B4, d4, p4, p5, p6⟩ := hcl4 k hlt
        obtain ⟨B5, d5, p7, p8, p9⟩ := hcl5 k hlt
        have cvd := fun j => conv_str (p6.drewN j) d4
        have cve := fun j => conv_str (p9.drewN j) d5
        clear hcl4 hcl5
        generalize l.getD k [] = ys at *
        go_wp2_with fail
        go_quiet (fail)
        go_wp2_with fail
        go_roundw
        case rel => exact ⟨k + 1, by omega, by go_num, drewN_below HW.out _⟩
        case measure => simp [intOf]; omega
      · go_wp2_with fail
        go_ret
        exact ⟨rfl, HB5.out.trans (HW.out.mono HB5.out.size)⟩
end Go.Proofs.YtchncgniiohgdaaDoor.FrameL
