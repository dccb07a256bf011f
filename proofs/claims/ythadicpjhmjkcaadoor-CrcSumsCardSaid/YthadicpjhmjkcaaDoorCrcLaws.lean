/-
  The statements of layer 1 over the model: the walks of the laws' own functions.
-/
import Derived.Test.YthadicpjhmjkcaaDoorCrcWalk
import Derived.Lib.SlBytesConst
namespace Go.Proofs.YthadicpjhmjkcaaDoor.CrcL
open Go.RowKit Go.Proofs.YthadicpjhmjkcaaDoor.Wd Go.Proofs.YthadicpjhmjkcaaDoor.CrcP Go.Proofs.YthadicpjhmjkcaaDoor.CrcW

theorem alive_sum : sum [49, 50, 51, 52, 53, 54, 55, 56, 57] = 3421780262 := by decide +kernel
set_option maxHeartbeats 400000 in
theorem alive_any (w : World) (ht : Tab w) :
    Calls Tryd.prog 8 #[] w fun e w' => e = .returned (.bool true) ∧ Below w.heap.size w w' := by
  have kc := fun (w : World) (C : Array Value) (n c : Nat) => Lib.run_convert_bytes_const (P := Tryd.prog) w 23 5 C n c Tryd.underlying23 Tryd.underlying5
  have HT := Lib.hid ht
  clear ht
  go_enter Tryd.func8, Tryd.ntmps8
  go_wp2_with fail
  have hb : Below w.heap.size w (w.alloc (.cells (byteVals [49, 50, 51, 52, 53, 54, 55, 56, 57]) 5 (9, 10))) := (Below.refl _ _).alloc (Nat.le_refl _) _
  have h1 := sum_any 9 9 _ _ _ (RdB.new w 5 (9, 10) [49, 50, 51, 52, 53, 54, 55, 56, 57] (by decide) (by decide)) (HT.out.below hb)
  rw [alive_sum] at h1
  refine h1.mono ?_
  rintro e w' ⟨rfl, rfl⟩
  have HB := Lib.hid hb
  clear hb h1
  go_wp2_with fail
  refine (sum_any 0 0 none [] _ (RdB.nil_ _) (HT.out.below HB.out)).mono ?_
  rintro e w' ⟨rfl, rfl⟩
  go_wp2
  go_ret
  exact ⟨rfl, HB.out⟩

set_option maxHeartbeats 400000 in
theorem crcSums_any (w : World) (s : Nat) (hs : s < 4294967296) (n cap : Nat) (A : Option Addr) (xs : List Nat) (hx : RdB w A n xs) (ht : Tab w) :
    Calls Tryd.prog 3 #[.int .u32 (s : Int), .slice A n cap] w fun e w' => e = .returned (.bool true) ∧ Below w.heap.size w w' := by
  have hfit := hx.fits
  have HX := Lib.hid hx
  have HT := Lib.hid ht
  clear hx ht
  go_enter Tryd.func3, Tryd.ntmps3
  go_wp2_with fail
  refine (alive_any w HT.out).mono ?_
  rintro e w1 ⟨rfl, hb⟩
  have HB := Lib.hid hb
  clear hb
  by_cases hn : 2000 < n
  · go_wp2_with fail
    go_ret
    exact ⟨rfl, HB.out⟩
  · go_wp2_with fail
    have hx1 := HX.out.below HB.out
    have ht1 := HT.out.below HB.out
    have HX1 := Lib.hid hx1
    have HT1 := Lib.hid ht1
    clear hx1 ht1
    refine (sum_any n cap A xs _ HX1.out HT1.out).mono ?_
    rintro e w' ⟨rfl, rfl⟩
    go_wp2_with fail
    refine (sumR_any n cap A xs _ HX1.out).mono ?_
    rintro e w' ⟨rfl, rfl⟩
    go_wp2_with fail
    refine (next_any s n cap A xs _ hs HX1.out HT1.out).mono ?_
    rintro e w' ⟨rfl, rfl⟩
    go_wp2_with fail
    refine (nextR_any s n cap A xs _ hs HX1.out).mono ?_
    rintro e w' ⟨rfl, rfl⟩
    go_wp2_with fail
    go_ret
    exact ⟨rfl, HB.out⟩
end Go.Proofs.YthadicpjhmjkcaaDoor.CrcL
