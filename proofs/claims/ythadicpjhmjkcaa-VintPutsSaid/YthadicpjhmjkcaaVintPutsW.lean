/-
  The walk of the law 'truglaw02.VintPuts'.
-/
import Derived.Test.YthadicpjhmjkcaaVintAlive
namespace Go.Proofs.Ythadicpjhmjkcaa.VintL
open Go.RowKit Go.Proofs.Ythadicpjhmjkcaa.Wd Go.Proofs.Ythadicpjhmjkcaa.VintP Go.Proofs.Ythadicpjhmjkcaa.VintW
set_option linter.unusedVariables false

set_option maxHeartbeats 1000000 in
set_option maxRecDepth 100000 in
theorem vintPuts_any (w : World) (n : Nat) (hn : n ≤ 18446744073709551615) :
    Calls Try.prog 3 #[.int .u64 (n : Int)] w fun e w' => e = .returned (.bool true) ∧ Below w.heap.size w w' := by
  have hsz := fun W => size_any n W (by omega)
  have hpt := fun W => put_any n W hn
  have hpr := putR_any n
  have hl := enc_length n
  generalize enc n = xs at *
  have HSZ := Lib.hid hsz
  have HPT := Lib.hid hpt
  have HPR := Lib.hid hpr
  clear hsz hpt hpr
  go_enter Try.func3, Try.ntmps3
  go_wp2_with fail
  refine (alive_any w).mono ?_
  rintro e w1 ⟨rfl, hb⟩
  have HB := Lib.hid hb
  clear hb
  go_wp2_with fail
  refine (HPR.out w1 hn).mono ?_
  rintro e w2 ⟨v2, rfl, ho2, hb2⟩
  obtain ⟨A2, c2, hv2, hc2, hr2⟩ := ho2.rd
  subst hv2
  have hcv2 : ∀ W, Below w2.heap.size w2 W → (convert 24 9 (.slice A2 xs.length c2)).run Try.prog W = .ok (.string (strB xs)) W := fun W hW => conv_str (hr2.below hW) c2
  have HB2 := Lib.hid (HB.out.trans (hb2.mono HB.out.size))
  clear ho2 hb2 hr2 hc2
  go_wp2_with fail
  have hd : Below w2.heap.size w2 w2.drew := (Below.refl _ _).drew
  go_region_with
    (first
      | (go_at_call 12; (with_reducible refine (HPT.out _).mono ?_); rintro e w3 ⟨v3, rfl, ho3, hb3⟩; have hb4 := Below.trans ‹Below w2.heap.size w2 _› (hb3.mono (Below.size ‹Below w2.heap.size w2 _›)); obtain ⟨A3, c3, hv3, hc3, hr3⟩ := ho3.rd; subst hv3; have hcv3 := conv_str hr3 c3; clear ho3 hr3 hb3)
      | (go_at_call 13; (with_reducible refine (HSZ.out _).mono ?_); rintro e w' ⟨rfl, rfl⟩))
  all_goals
    go_wp2
    go_ret
    exact ⟨rfl, HB2.out.trans (hb4.mono HB2.out.size)⟩
end Go.Proofs.Ythadicpjhmjkcaa.VintL
