/-
  The walk of truglaw07.Ops, where both are the very same operations.
-/
import Derived.Test.YtkhjmegjnglkgaaEqSO
import Derived.Test.YtkhjmegjnglkgaaIndexF
namespace Go.Proofs.Ytkhjmegjnglkgaa.Vc
open Go.RowKit Go.Proofs.Ytkhjmegjnglkgaa.Wd Go.Sort Go.Proofs
set_option linter.unusedVariables false
attribute [local go_sem ↓] ldKx

set_option maxHeartbeats 4000000 in
set_option maxRecDepth 100000 in
theorem ops_any (n c1 c2 : Nat) (A1 A2 : Option Addr) (l : List OpN) (w : World) (hr1 : RdO w A1 n l) (hr2 : RdO w A2 n l) :
    Calls Try.prog 17 #[.slice A1 n c1, .slice A2 n c2] w fun e w' => e = .returned (.bool true) ∧ Below w.heap.size w w' := by
  have hfit := hr1.fits
  have HL1 := Lib.hid hr1
  have HL2 := Lib.hid hr2
  clear hr1 hr2
  go_enter Try.func17, Try.ntmps17
  go_wp2_with fail
  go_loopw [13] (fun i wr => ∃ k : Nat, k ≤ n ∧ i = .int .i64 (k : Int) ∧ Hid (Below w.heap.size w wr)) (fun i _ => n - (intOf i).toNat)
  case atStart => exact ⟨0, Nat.zero_le _, rfl, Below.refl _ _⟩
  case round =>
    obtain ⟨k, hk, rfl, HW⟩ := hrel
    by_cases hlt : k < n
    · obtain ⟨x, hx⟩ : ∃ x, l[k]? = some x := ⟨_, List.getElem?_eq_getElem (by rw [HL1.out.len]; exact hlt)⟩
      obtain ⟨a1, hA1, _⟩ := HL1.out.cell (by omega)
      obtain ⟨a2, hA2, _⟩ := HL2.out.cell (by omega)
      subst hA1 hA2
      have z1 := fun j => HL1.out.load hx (wr.drewN j) (drewN_below HW.out j)
      have z2 := fun j => HL2.out.load hx (wr.drewN j) (drewN_below HW.out j)
      have heq := fun W => eqOpL x.1 x.1 x.2 x.2 W
      simp only [decide_true] at heq
      have i0 : (0 : Int) ≤ (k : Int) := by omega
      have i1 : (k : Int) < (n : Int) := by omega
      clear hx
      go_wp2_with fail
      go_quiet (fail)
      clear z1 z2 heq
      go_wp2_with fail
      go_roundw
      case rel => exact ⟨k + 1, by omega, by go_num, drewN_below HW.out _⟩
      case measure => simp [intOf]; omega
    · go_wp2_with fail
      go_ret
      exact ⟨rfl, HW.out⟩
end Go.Proofs.Ytkhjmegjnglkgaa.Vc
