/-
  'alive' of layer 10 says true.
-/
import Derived.Test.YtchncgniiohgdaaDoorFrameScan
import Derived.Test.YtchncgniiohgdaaDoorAppKeep
import Derived.Lib.SlBytesConst
namespace Go.Proofs.YtchncgniiohgdaaDoor.FrameL
open Go.RowKit Go.Proofs.YtchncgniiohgdaaDoor.Wd Go.Proofs.YtchncgniiohgdaaDoor.FrameP Go.Proofs.YtchncgniiohgdaaDoor.CrcW Go.Proofs.YtchncgniiohgdaaDoor.FrameW
set_option linter.unusedVariables false

theorem enc0 : VintP.enc 0 = [0] := by decide
theorem enc3 : VintP.enc 3 = [3] := by decide
theorem strB_abc : strB [97, 98, 99] = (⟨#[97, 98, 99]⟩ : ByteArray) := by decide

theorem RdB_grown {w w' : World} {A : Option Addr} {n : Nat} {xs : List Nat} {row : Option Nat} (h : RdB w A n xs) (hg : w.grownBy w' row) (hr : ∀ ad, A = some ad → row ≠ some ad.block) : RdB w' A n xs :=
  ⟨h.len, h.fits, h.small, fun h0 => by
    obtain ⟨ad, e, hc⟩ := h.cell h0
    refine ⟨ad, e, fun j hj => hg.cell (hc j hj) ?_⟩
    rw [add_block]
    exact fun e' => hr ad e e'.symm⟩

set_option maxHeartbeats 2000000 in
set_option maxRecDepth 100000 in
theorem alive_any (w : World) (ht : Tab w) :
    Calls Tryd.prog 8 #[] w fun e w' => e = .returned (.bool true) ∧ Below w.heap.size w w' := by
  have q1 := wrap_any 0 0 none [] w (RdB.nil_ w) ht (by decide)
  have q2 := fun W (hW : Below w.heap.size w W) => wrap_any 3 3 (some ⟨W.heap.size, 0, none⟩) [97, 98, 99] (W.alloc (.cells #[.int .u8 97, .int .u8 98, .int .u8 99] 5 (3, 4))) (RdB.new W 5 (3, 4) [97, 98, 99] (by decide) (by decide))
    ((ht.below hW).below ((Below.refl _ _).alloc (Nat.le_refl _) _)) (by decide)
  have hB : (wrap []).length = 5 := by rw [wrap_length, List.length_nil, enc0]; rfl
  have hB0 : (wrap []).getD 0 0 = 0 := by
    unfold wrap head
    rw [List.length_nil, enc0]
    rfl
  have hC : (wrap [97, 98, 99]).length = 8 := by rw [wrap_length]; simp [enc3]
  have f1 := first_wrap (b := [97, 98, 99]) (by decide) []
  rw [List.append_nil, hC] at f1
  have f2 := first_short (b := [97, 98, 99]) (by decide) (k := 7) (by rw [hC]; decide)
  have f3 := scan_frames (l := [[], [97, 98, 99]]) (by decide) (rest := []) (by simp)
  simp only [frames, scan_nil, List.append_nil, List.length_append, hB, hC] at f3
  generalize wrap [] = B at *
  generalize wrap [97, 98, 99] = C at *
  have kc := fun (w : World) (C : Array Value) (n c : Nat) => Lib.run_convert_bytes_const (P := Tryd.prog) w 22 5 C n c Tryd.underlying22 Tryd.underlying5
  have HT := Lib.hid ht
  have Q1 := Lib.hid q1
  have Q2 := Lib.hid q2
  have F1 := Lib.hid f1
  have F2 := Lib.hid f2
  have F3 := Lib.hid f3
  have HB5 := Lib.hid hB
  have HB0 := Lib.hid hB0
  have HC8 := Lib.hid hC
  clear ht q1 q2 f1 f2 f3 hB hB0 hC
  go_enter Tryd.func8, Tryd.ntmps8
  go_wp2_with fail
  refine Q1.out.mono ?_
  rintro e w1 ⟨v1, rfl, ho1, hb1⟩
  have HB1 := Lib.hid hb1
  have HO1 := Lib.hid ho1
  clear ho1 hb1
  go_wp2_with fail
  refine (Q2.out w1 HB1.out).mono ?_
  rintro e w2 ⟨v2, rfl, ho2, hb2⟩
  obtain ⟨A2, c2, hv2, hc2, hr2⟩ := ho2.rd
  subst hv2
  rw [HC8.out] at hr2 hc2
  rw [HC8.out]
  have hz2 := Nat.le_trans HB1.out.size (show w1.heap.size ≤ w2.heap.size by have := hb2.size; simp at this; omega)
  have hb2' : Below w1.heap.size w1 w2 := ((Below.refl w1.heap.size w1).alloc (Nat.le_refl _) _).trans (hb2.mono (by simp))
  have HB2 := Lib.hid (HB1.out.trans (hb2'.mono HB1.out.size))
  have HO1b := Lib.hid (HO1.out.below hb2')
  have HR2 := Lib.hid hr2
  have i8 : c2 ≠ 0 := by omega
  have i7 : (7 : Int) ≤ (c2 : Int) := by omega
  have q3 := first_any 8 c2 A2 C w2 hc2 hr2 (HT.out.below HB2.out)
  rw [F1.out] at q3
  have Q3 := Lib.hid q3
  obtain ⟨ad2, rfl, hcell2⟩ := hr2.cell (by decide)
  have hn2 : ∀ a3, some ad2 = some a3 → v1.ownBlock ≠ some a3.block := by
    rintro a3 e' e
    injection e' with e'
    subst e'
    have h1 := (HO1.out.row.lt ad2.block e).2
    have h2 := (ho2.row.lt ad2.block rfl).1
    simp at h2
    omega
  have HN2 := Lib.hid hn2
  clear ho2 hb2 hb2' hr2 q3 hcell2 hn2
  go_wp2_with fail
  refine Q3.out.mono ?_
  rintro e w3 ⟨v3, rfl, ho3, hb3⟩
  have HB3 := Lib.hid (HB2.out.trans (hb3.mono HB2.out.size))
  have HO1c := Lib.hid (HO1b.out.below hb3)
  have HR3 := Lib.hid (HR2.out.below hb3)
  obtain ⟨A3, c3, hv3, hc3, hr3⟩ := ho3.rd
  subst hv3
  have HR3x := Lib.hid hr3
  have hz3 := HB3.out.size
  have hn3 : ∀ a3, A3 = some a3 → v1.ownBlock ≠ some a3.block := by
    rintro a3 rfl e
    have h1 := (HO1b.out.row.lt a3.block e).2
    have h2 := (ho3.row.lt a3.block rfl).1
    omega
  have HN3 := Lib.hid hn3
  clear ho3 hb3 hr3 hn3
  go_wp2_with (at_builtin; refine appK_list w.heap.size rfl (.tmp 30) (.tmp 31) rfl rfl rfl HO1c.out HR3.out (by rw [HB5.out]; omega) hz3 ?_; intro v4 w4 ho4 hg4 hk4; have HB4 := Lib.hid (HO1c.out.to_below HB3.out hz3 hg4); have HO4 := Lib.hid ho4; have HK4 := Lib.hid hk4; have HG4 := Lib.hid hg4; clear ho4 hg4 hk4)
  have HR4 := Lib.hid (RdB_grown HR3.out HG4.out HN2.out)
  have HX4 := Lib.hid (RdB_grown HR3x.out HG4.out HN3.out)
  obtain ⟨A4, c4, hv4, hc4, hr4⟩ := HO4.out.rd
  have hl4 : (B ++ C).length = 13 := by rw [List.length_append, HB5.out, HC8.out]
  rw [hl4] at hv4 hc4 hr4
  subst hv4
  have q5 := scan_any 13 c4 A4 (B ++ C) w4 hc4 hr4 (HT.out.below HB4.out) (by decide)
  rw [F3.out] at q5
  have Q5 := Lib.hid q5
  obtain ⟨A1, c1, hv1, hc1, hr1⟩ := HK4.out.rd
  rw [HB5.out] at hv1 hc1 hr1
  obtain ⟨ad1, rfl, hcell1⟩ := hr1.cell (by decide)
  have h0 := hcell1 0 (by decide)
  rw [HB0.out, add_zero_] at h0
  subst hv1
  have H0 := Lib.hid h0
  clear hl4 hr4 q5 hr1 hcell1 h0 hc4
  refine Q5.out.mono ?_
  rintro e w5 ⟨v5, rfl, ho5, hb5⟩
  obtain ⟨A5, c5, hv5, hc5, _⟩ := ho5.rd
  subst hv5
  have HB5' := Lib.hid (HB4.out.trans (hb5.mono HB4.out.size))
  have HR5 := Lib.hid (HR4.out.below hb5)
  have HX5 := Lib.hid (HX4.out.below hb5)
  have h05 := (hb5.cell (World.block_lt_of_cell? w4 _ H0.out)).trans H0.out
  have H05 := Lib.hid h05
  clear ho5 hb5 h05
  have q6 := first_any 7 c2 (some ad2) (C.take 7) w5 (by omega) (HR5.out.take (by decide)) (HT.out.below HB5'.out)
  rw [F2.out] at q6
  have Q6 := Lib.hid q6
  clear q6
  go_wp2_with fail
  refine Q6.out.mono ?_
  rintro e w6 ⟨v6, rfl, ho6, hb6⟩
  have HB6 := Lib.hid (HB5'.out.trans (hb6.mono HB5'.out.size))
  have cv6 := conv_str (HX5.out.below hb6) c3
  simp only [List.length_cons, List.length_nil] at cv6
  rw [strB_abc] at cv6
  have h06 := (hb6.cell (World.block_lt_of_cell? w5 _ H05.out)).trans H05.out
  clear ho6 hb6
  go_wp2_with fail
  go_ret
  exact ⟨rfl, HB6.out⟩
end Go.Proofs.YtchncgniiohgdaaDoor.FrameL
