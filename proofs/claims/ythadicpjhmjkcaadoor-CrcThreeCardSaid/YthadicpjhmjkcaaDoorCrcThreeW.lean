/-
  The walk of the law 'truglaw01.CrcThree': for every three bytes it returns true.
-/
import Derived.Test.YthadicpjhmjkcaaDoorCrcLaws
namespace Go.Proofs.YthadicpjhmjkcaaDoor.CrcL
open Go.RowKit Go.Proofs.YthadicpjhmjkcaaDoor.Wd Go.Proofs.YthadicpjhmjkcaaDoor.CrcP Go.Proofs.YthadicpjhmjkcaaDoor.CrcW
set_option linter.unusedVariables false

/-- The calls of the law's last statement. -/
theorem three_calls (w : World) (n c1 c2 c3 c4 : Nat) (A1 A2 A3 A4 : Option Addr) (x1 x2 x3 : List Nat) (h1 : RdB w A1 n x1) (h2 : RdB w A2 n x2) (h3 : RdB w A3 n x3)
    (h4 : RdB w A4 n (xors (xors x1 x2) x3)) (ht : Tab w) : ∃ S1 S2 S3 S4 Z : Nat,
    (Calls Tryd.prog 9 #[.slice A1 n c1] w fun e w' => e = .returned (.int .u32 (S1 : Int)) ∧ w = w') ∧
    (Calls Tryd.prog 9 #[.slice A2 n c2] w fun e w' => e = .returned (.int .u32 (S2 : Int)) ∧ w = w') ∧
    (Calls Tryd.prog 9 #[.slice A3 n c3] w fun e w' => e = .returned (.int .u32 (S3 : Int)) ∧ w = w') ∧
    (Calls Tryd.prog 9 #[.slice A4 n c4] w fun e w' => e = .returned (.int .u32 (S4 : Int)) ∧ w = w') ∧
    bits .xor .u32 (S1 : Int) (S2 : Int) = (Z : Int) ∧ bits .xor .u32 (Z : Int) (S3 : Int) = (S4 : Int) := by
  refine ⟨sum x1, sum x2, sum x3, sum (xors (xors x1 x2) x3), sum x1 ^^^ sum x2, sum_any n c1 A1 x1 w h1 ht, sum_any n c2 A2 x2 w h2 ht, sum_any n c3 A3 x3 w h3 ht, sum_any n c4 A4 _ w h4 ht, ?_, ?_⟩
  · exact u32_xor_nat _ _ next_lt next_lt
  · rw [← three h1.small h2.small h3.small (by rw [h1.len, h2.len]) (by rw [h1.len, h3.len])]
    exact u32_xor_nat _ _ (xor_lt next_lt next_lt) next_lt

set_option maxHeartbeats 1000000 in
theorem crcThree_any (w : World) (n cap : Nat) (A : Option Addr) (xs : List Nat) (hc : n ≤ cap) (hx : RdB w A n xs) (n' cap' : Nat) (A' : Option Addr) (ys : List Nat) (hc' : n' ≤ cap') (hy : RdB w A' n' ys)
    (n'' cap'' : Nat) (A'' : Option Addr) (zs : List Nat) (hc'' : n'' ≤ cap'') (hz : RdB w A'' n'' zs) (ht : Tab w) :
    Calls Tryd.prog 5 #[.slice A n cap, .slice A' n' cap', .slice A'' n'' cap''] w fun e w' => e = .returned (.bool true) ∧ Below w.heap.size w w' := by
  have hfit := hx.fits
  have hfit' := hy.fits
  have hfit'' := hz.fits
  have HX := Lib.hid hx
  have HY := Lib.hid hy
  have HZ := Lib.hid hz
  have HT := Lib.hid ht
  clear hx hy hz ht
  by_cases hn : 2000 < n
  · go_enter Tryd.func5, Tryd.ntmps5
    go_wp2_with fail
    refine (alive_any w HT.out).mono ?_
    rintro e w1 ⟨rfl, hb⟩
    have HB := Lib.hid hb
    clear hb
    go_wp2_with fail
    go_ret
    exact ⟨rfl, HB.out⟩
  by_cases hne : n = n'
  rotate_left
  · have hne1 : ((n : Int) != (n' : Int)) = true := by rw [bne_iff_ne]; omega
    go_enter Tryd.func5, Tryd.ntmps5
    go_wp2_with fail
    refine (alive_any w HT.out).mono ?_
    rintro e w1 ⟨rfl, hb⟩
    have HB := Lib.hid hb
    clear hb
    go_wp2_with fail
    all_goals
      go_ret
      exact ⟨rfl, HB.out⟩
  subst hne
  by_cases hne2 : n = n''
  rotate_left
  · have hne1 : ((n : Int) != (n'' : Int)) = true := by rw [bne_iff_ne]; omega
    go_enter Tryd.func5, Tryd.ntmps5
    go_wp2_with fail
    refine (alive_any w HT.out).mono ?_
    rintro e w1 ⟨rfl, hb⟩
    have HB := Lib.hid hb
    clear hb
    go_wp2_with fail
    all_goals
      go_ret
      exact ⟨rfl, HB.out⟩
  subst hne2
  go_enter Tryd.func5, Tryd.ntmps5
  go_wp2_with fail
  refine (alive_any w HT.out).mono ?_
  rintro e w1 ⟨rfl, hb⟩
  have HB := Lib.hid hb
  clear hb
  go_wp2_with fail
  have hx1 := HX.out.below HB.out
  have hy1 := HY.out.below HB.out
  have hz1 := HZ.out.below HB.out
  have hlen : xs.length = ys.length := by rw [hx1.len, hy1.len]
  have hlen2 : (xors xs ys).length = zs.length := by rw [xors_length _ _ hlen, hx1.len, hz1.len]
  have hlen3 : (xors (xors xs ys) zs).length = n := by rw [xors_length _ _ hlen2, xors_length _ _ hlen, hx1.len]
  have HL := Lib.hid hlen
  have HL2 := Lib.hid hlen2
  have HL3 := Lib.hid hlen3
  have HX1 := Lib.hid hx1
  have HY1 := Lib.hid hy1
  have HZ1 := Lib.hid hz1
  clear hx1 hy1 hz1 hlen hlen2 hlen3
  go_loopw [7, 30] (fun d i wr => ∃ k : Nat, k ≤ n ∧ i = .int .i64 k ∧ Hid (OwnB wr w1.heap.size d ((xors (xors xs ys) zs).take k)) ∧ Hid (Below w1.heap.size w1 wr)) (fun _ i _ => n - (intOf i).toNat)
  case atStart => exact ⟨0, Nat.zero_le _, rfl, OwnB.nil_ _ _, Below.refl _ _⟩
  case round =>
    obtain ⟨k, hk, rfl, HO, HW⟩ := hrel
    by_cases hlt : k < n
    · obtain ⟨ad, hA, hc1, hb1⟩ := HX1.out.at_ hlt
      obtain ⟨ad', hA', hc2, hb2⟩ := HY1.out.at_ hlt
      obtain ⟨ad'', hA'', hc3, hb3⟩ := HZ1.out.at_ hlt
      subst hA
      subst hA'
      subst hA''
      obtain ⟨c, hcc⟩ : ∃ c, c = xs.getD k 0 := ⟨_, rfl⟩
      obtain ⟨d, hdd⟩ : ∃ d, d = ys.getD k 0 := ⟨_, rfl⟩
      obtain ⟨f, hff⟩ : ∃ f, f = zs.getD k 0 := ⟨_, rfl⟩
      rw [← hcc] at hc1 hb1
      rw [← hdd] at hc2 hb2
      rw [← hff] at hc3 hb3
      have l1 := World.block_lt_of_cell? _ _ hc1
      have l2 := World.block_lt_of_cell? _ _ hc2
      have l3 := World.block_lt_of_cell? _ _ hc3
      rw [← HW.out.cell l1] at hc1
      rw [← HW.out.cell l2] at hc2
      rw [← HW.out.cell l3] at hc3
      obtain ⟨y, hy⟩ : ∃ y, y = c ^^^ d := ⟨_, rfl⟩
      have hyl : y < 256 := by rw [hy]; exact Nat.xor_lt_two_pow (n := 8) hb1 hb2
      obtain ⟨z, hz⟩ : ∃ z, z = y ^^^ f := ⟨_, rfl⟩
      have hzl : z < 256 := by rw [hz]; exact Nat.xor_lt_two_pow (n := 8) hyl hb3
      have hx8 := xor8 hb1 hb2
      rw [← hy] at hx8
      have hx9 := xor8 hyl hb3
      rw [← hz] at hx9
      have HZ3 := Lib.hid (show z = (xs.getD k 0 ^^^ ys.getD k 0) ^^^ zs.getD k 0 by rw [hz, hy, hcc, hdd, hff])
      clear hcc hdd hff hz hy
      have i0 : (0 : Int) ≤ (k : Int) := Int.natCast_nonneg _
      have i1 : (k : Int) < (n : Int) := by omega
      have hsz := HW.out.size
      have hlk : ((xors (xors xs ys) zs).take k).length = k := by rw [List.length_take, HL3.out]; omega
      have HLK := Lib.hid hlk
      clear hlk
      have m1 : (ad.add k).block < wr.heap.size := by omega
      have m2 : (ad'.add k).block < wr.heap.size := by omega
      have m3 : (ad''.add k).block < wr.heap.size := by omega
      have n1 := HO.out.ne l1
      have n2 := HO.out.ne l2
      have n3 := HO.out.ne l3
      go_wp2_with fail
      go_region_held3 (fun w' => w'.cell? (ad.add k) = some (.int .u8 (c : Int)) ∧ w'.cell? (ad'.add k) = some (.int .u8 (d : Int)) ∧ w'.cell? (ad''.add k) = some (.int .u8 (f : Int)))
        (first
          | go_keep
          | (go_split_ands
             refine ⟨?_, ?_, ?_⟩
             · (rw [hg2.cell_far _ (by simp; omega) (Ne.symm n1)]; assumption)
             · (rw [hg2.cell_far _ (by simp; omega) (Ne.symm n2)]; assumption)
             · (rw [hg2.cell_far _ (by simp; omega) (Ne.symm n3)]; assumption)))
        ((refine app_step w1.heap.size (by rfl) _ _ (by rfl) (by rfl) (by rfl) ((HO.out.alloc _).drew) (RdB.one _ _ _ hzl).drew (by rw [HLK.out]; omega) (by simp; omega) ?_; intro v2 w2 ho2 hg2 ha2))
      have hbw : Below w1.heap.size w1 w2 := (HO.out.alloc _).drew.to_below (HW.out.alloc hsz _).drew (by simp; omega) hg2
      have HB2 := Lib.hid hbw
      have HO2 := Lib.hid ho2
      clear hbw ho2 hg2 ha2 hc1 hc2 hc3
      go_wp2
      go_roundw
      case rel => exact ⟨k + 1, by omega, by go_num, by unfold Hid; rw [xors_take_snoc HL2.out (by rw [xors_length _ _ HL.out, HX.out.len]; exact hlt), xors_getD _ _ _ HL.out, ← HZ3.out]; exact HO2.out, HB2.out⟩
      case measure => simp [intOf]; omega
    · have hkn : k = n := by omega
      have ho2 : OwnB wr w1.heap.size u7 (xors (xors xs ys) zs) := by
        have h := HO.out
        rwa [List.take_of_length_le (by rw [HL3.out]; omega)] at h
      obtain ⟨A5, c5, hv5, hc5, h5⟩ := ho2.rd
      rw [HL3.out] at h5 hc5 hv5
      subst hv5
      have HK := Lib.hid hkn
      obtain ⟨S1, S2, S3, S4, Z, q1, q2, q3, q4, z1, z2⟩ := three_calls wr n cap cap' cap'' c5 A A' A'' A5 xs ys zs (HX1.out.below HW.out) (HY1.out.below HW.out) (HZ1.out.below HW.out) h5 ((HT.out.below HB.out).below HW.out)
      have Q1 := Lib.hid q1
      have Q2 := Lib.hid q2
      have Q3 := Lib.hid q3
      have Q4 := Lib.hid q4
      have hbe : Below w.heap.size w wr := HB.out.trans (HW.out.mono HB.out.size)
      have HBE := Lib.hid hbe
      clear q1 q2 q3 q4 hbe hkn h5 hc5 ho2
      go_wp2_with fail
      refine Q1.out.mono ?_
      rintro e w' ⟨rfl, rfl⟩
      go_wp2_with fail
      refine Q2.out.mono ?_
      rintro e w' ⟨rfl, rfl⟩
      go_wp2_with fail
      refine Q3.out.mono ?_
      rintro e w' ⟨rfl, rfl⟩
      go_wp2_with fail
      refine Q4.out.mono ?_
      rintro e w' ⟨rfl, rfl⟩
      go_wp2
      go_ret
      exact ⟨rfl, HBE.out⟩
end Go.Proofs.YthadicpjhmjkcaaDoor.CrcL
