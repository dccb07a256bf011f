/-
  The walk of the law 'truglaw02.VintGets'.
-/
import Derived.Test.YthadicpjhmjkcaaVintAlive
import Derived.Test.YthadicpjhmjkcaaVintGetR
namespace Go.Proofs.Ythadicpjhmjkcaa.VintL
open Go.RowKit Go.Proofs.Ythadicpjhmjkcaa.Wd Go.Proofs.Ythadicpjhmjkcaa.VintP Go.Proofs.Ythadicpjhmjkcaa.VintW
set_option linter.unusedVariables false

set_option maxHeartbeats 1000000 in
set_option maxRecDepth 100000 in
theorem vintGets_any (w : World) (n cap : Nat) (A : Option Addr) (xs : List Nat) (hc : n ≤ cap) (hx : RdB w A n xs) :
    Calls Try.prog 4 #[.slice A n cap] w fun e w' => e = .returned (.bool true) ∧ Below w.heap.size w w' := by
  have hfit := hx.fits
  have HX := Lib.hid hx
  clear hx
  go_enter Try.func4, Try.ntmps4
  go_wp2_with fail
  refine (alive_any w).mono ?_
  rintro e w1 ⟨rfl, hb⟩
  have HB := Lib.hid hb
  have HX1 := Lib.hid (HX.out.below hb)
  clear hb
  by_cases hn : 2000 < n
  · go_wp2_with fail
    go_ret
    exact ⟨rfl, HB.out⟩
  · have q1 := get_any n cap A xs w1 HX1.out
    have q2 := getR_any n cap A xs w1 hc HX1.out
    unfold getVal at q1 q2
    generalize (get 0 0 xs).1 = a at *
    generalize (get 0 0 xs).2.1 = b at *
    generalize (get 0 0 xs).2.2 = c at *
    have Q1 := Lib.hid q1
    have Q2 := Lib.hid q2
    clear q1 q2
    go_wp2_with fail
    refine Q1.out.mono ?_
    rintro e w' ⟨rfl, rfl⟩
    go_wp2_with fail
    refine Q2.out.mono ?_
    rintro e w2 ⟨rfl, hb2⟩
    have HB2 := Lib.hid hb2
    clear hb2
    go_wp2
    go_ret
    exact ⟨rfl, HB.out.trans (HB2.out.mono HB.out.size)⟩
end Go.Proofs.Ythadicpjhmjkcaa.VintL
