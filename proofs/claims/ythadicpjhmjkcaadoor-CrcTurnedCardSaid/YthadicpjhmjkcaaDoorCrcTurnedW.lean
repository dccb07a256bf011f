/-
  The walk of the law 'truglaw01.CrcTurned': for every bytes, every place and every byte it returns true.
-/
import Derived.Test.YthadicpjhmjkcaaDoorCrcLaws
namespace Go.Proofs.YthadicpjhmjkcaaDoor.CrcL
open Go.RowKit Go.Proofs.YthadicpjhmjkcaaDoor.Wd Go.Proofs.YthadicpjhmjkcaaDoor.CrcP Go.Proofs.YthadicpjhmjkcaaDoor.CrcW
set_option linter.unusedVariables false

set_option maxHeartbeats 1000000 in
theorem crcTurned_any (w : World) (n cap : Nat) (A : Option Addr) (xs : List Nat) (hc : n ≤ cap) (hx : RdB w A n xs) (s : Nat) (hs : s < 65536) (d : Nat) (hd : d < 256) (ht : Tab w) :
    Calls Tryd.prog 6 #[.slice A n cap, .int .u16 (s : Int), .int .u8 (d : Int)] w fun e w' => e = .returned (.bool true) ∧ Below w.heap.size w w' := by
  have hfit := hx.fits
  have HX := Lib.hid hx
  have HT := Lib.hid ht
  clear hx ht
  by_cases hn : 2000 < n
  · go_enter Tryd.func6, Tryd.ntmps6
    go_wp2_with fail
    refine (alive_any w HT.out).mono ?_
    rintro e w1 ⟨rfl, hb⟩
    have HB := Lib.hid hb
    clear hb
    go_wp2_with fail
    go_ret
    exact ⟨rfl, HB.out⟩
  by_cases hn0 : n = 0
  · have t0 : ((n : Int) == 0) = true := by rw [beq_iff_eq]; omega
    have HN0 := Lib.hid hn0
    clear hn0
    go_enter Tryd.func6, Tryd.ntmps6
    go_wp2_with fail
    refine (alive_any w HT.out).mono ?_
    rintro e w1 ⟨rfl, hb⟩
    have HB := Lib.hid hb
    clear hb
    go_wp2_with fail
    go_ret
    exact ⟨rfl, HB.out⟩
  have t0 : ((n : Int) == 0) = false := by rw [beq_eq_false_iff_ne]; omega
  by_cases hd0 : d = 0
  · subst hd0
    go_enter Tryd.func6, Tryd.ntmps6
    go_wp2_with fail
    refine (alive_any w HT.out).mono ?_
    rintro e w1 ⟨rfl, hb⟩
    have HB := Lib.hid hb
    clear hb
    go_wp2_with fail
    go_ret
    exact ⟨rfl, HB.out⟩
  have t1 : ((d : Int) == 0) = false := by rw [beq_eq_false_iff_ne]; omega
  have hnp : 0 < n := by omega
  go_enter Tryd.func6, Tryd.ntmps6
  go_wp2_with fail
  refine (alive_any w HT.out).mono ?_
  rintro e w1 ⟨rfl, hb⟩
  have HB := Lib.hid hb
  have HX1 := Lib.hid (HX.out.below hb)
  have HT1 := Lib.hid (HT.out.below hb)
  clear hb
  have HL := Lib.hid HX.out.len
  go_wp2_with (at_builtin; refine app_list w1.heap.size rfl _ _ rfl rfl rfl (OwnB.nil_ w1 w1.heap.size) HX1.out (by simp; omega) (Nat.le_refl _) ?_; intro v2 w2 ho2 hg2 ha2; rw [List.nil_append] at ho2; obtain ⟨g, cap2, hv, hcap2, hcm2, hgB, hgl, hcell, hfrz⟩ := ho2.form (by rw [HL.out]; omega); have HO2 := Lib.hid ho2; have HB2 := Lib.hid ((OwnB.nil_ w1 w1.heap.size).to_below (Below.refl _ _) (Nat.le_refl _) hg2); rw [HL.out] at hv hcap2; subst hv; have HCELL := Lib.hid hcell; have HFRZ := Lib.hid hfrz; clear ho2 hg2 ha2 hcell hfrz; obtain ⟨j, hj⟩ : ∃ j, j = s % n := ⟨_, rfl⟩; have hjn : j < n := (by rw [hj]; exact Nat.mod_lt _ hnp); have ej : (s : Int) % (n : Int) = (j : Int) := (by rw [hj]; rfl); have HJ := Lib.hid hj; clear hj; have hc1 := HCELL.out j (by rw [HL.out]; exact hjn); have hf1 := HFRZ.out j; obtain ⟨c, hcc⟩ : ∃ c, c = xs.getD j 0 := ⟨_, rfl⟩; rw [← hcc] at hc1; have hcl : c < 256 := (by rw [hcc]; exact getD_lt HX.out.small j); have HC := Lib.hid hcc; clear hcc; obtain ⟨z, hz⟩ : ∃ z, z = c ^^^ d := ⟨_, rfl⟩; have ez : bits .xor .u8 (c : Int) (d : Int) = (z : Int) := (by rw [hz]; exact xor8 hcl hd); have hzl : z < 256 := (by rw [hz]; exact Nat.xor_lt_two_pow (n := 8) hcl hd); have HZ := Lib.hid hz; clear hz)
  have st := HO2.out.stored j z hzl
  have hb3 : Below w1.heap.size w1 (w2.setCell ⟨g, j, none⟩ (.int .u8 (z : Int))) := HB2.out.setCell hgB _
  have HB3 := Lib.hid hb3
  have HS := Lib.hid st
  clear st hb3
  have hne : ((sum (xs.set j z) : Nat) : Int) ≠ ((sum xs : Nat) : Int) := by
    rw [HZ.out, HC.out]
    exact fun e => turned_set HX.out.small (by rw [HL.out]; exact hjn) hd (by omega) (by omega)
  refine (sum_any n cap2 _ _ _ HS.out.1.rds.1 (HT1.out.below HB3.out)).mono ?_
  rintro e w' ⟨rfl, rfl⟩
  generalize sum (xs.set j z) = S1 at *
  have q2 := sum_any n cap A xs _ (HX1.out.below HB3.out) (HT1.out.below HB3.out)
  generalize sum xs = S2 at *
  have Q2 := Lib.hid q2
  have hne1 : ((S1 : Int) != (S2 : Int)) = true := by rw [bne_iff_ne]; exact hne
  clear hne q2
  go_wp2_with fail
  refine Q2.out.mono ?_
  rintro e w' ⟨rfl, rfl⟩
  go_wp2
  go_ret
  exact ⟨rfl, HB.out.trans (HB3.out.mono HB.out.size)⟩
end Go.Proofs.YthadicpjhmjkcaaDoor.CrcL
