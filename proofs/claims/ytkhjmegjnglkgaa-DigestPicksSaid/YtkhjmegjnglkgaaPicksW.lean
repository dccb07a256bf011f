/-
  The walk of the law 'truglaw19.DigestPicks'.
-/
import Derived.Test.YtkhjmegjnglkgaaDigAlive
import Derived.Test.YtkhjmegjnglkgaaHeldK
import Derived.Test.YtkhjmegjnglkgaaPickR
import Derived.Test.YtkhjmegjnglkgaaOpsEq
namespace Go.Proofs.Ytkhjmegjnglkgaa.Vc
open Go.RowKit Go.Proofs.Ytkhjmegjnglkgaa.Wd
set_option linter.unusedVariables false
set_option linter.unusedSimpArgs false

set_option maxHeartbeats 4000000 in
set_option maxRecDepth 100000 in
theorem digestPicks_any (w : World) (n cap : Nat) (A : Option Addr) (l : List OpN) (hnc : n ≤ cap) (hr : RdO w A n l) (v : List Nat) (hv : IsVec v) (m : Int) (hm0 : -9223372036854775808 ≤ m) (hm1 : m ≤ 9223372036854775807) :
    Calls Try.prog 5 #[.slice A n cap, .agg (vecA v), .int .i64 m] w fun e w' => e = .returned (.bool true) ∧ Below w.heap.size w w' := by
  have hfit := hr.fits
  have H1 := Lib.hid (VecAt.new w hv)
  have H0 := Lib.hid ((Below.refl w.heap.size w).alloc (Nat.le_refl _) (.cells (vecA v) 24))
  have HR := Lib.hid (hr.below H0.out)
  have HV := Lib.hid hv
  clear hr hv
  by_cases hn : n ≤ 60
  · go_enter Try.func5, Try.ntmps5
    go_wp2_with fail
    generalize w.alloc (.cells (vecA v) 24) = w1 at *
    refine (alive_any w1).mono ?_
    rintro e w2 ⟨rfl, hb2⟩
    have HB2 := Lib.hid (H0.out.trans (hb2.mono H0.out.size))
    have K1 := Lib.hid (H1.out.below hb2)
    have HL := Lib.hid (HR.out.below hb2)
    clear hb2
    go_wp2_with fail
    have hb0 : Below w2.heap.size w2 w2.drew := (Below.refl _ _).drew
    refine wp_region_held_drew (S := fun w' => Below w2.heap.size w2 w') (by kernel_rfl) hb0 (fun hHeld => ?_)
    refine held_take (i := 0) (some 12) (.slice A n cap) rfl rfl (by kernel_rfl) (by kernel_rfl) (by kernel_rfl) (fun _ _ _ h => h) (Or.inl ⟨by rfl, by intro w hSw; go_simp⟩) (by assumption) ?_
    try simp only [Act.put, List.setIfInBounds_toArray, List.set_cons_zero, List.set_cons_succ]
    refine wpAnyH_take (i := 1) (v := .agg (vecA v)) rfl (by kernel_rfl) (by kernel_rfl) (by kernel_rfl) (fun _ _ _ h => h) (yields_vec rfl (.tmp 4) rfl w.heap.size rfl v (fun W hW => K1.out.below hW)) (by assumption) ?_
    try simp only [Act.put, List.setIfInBounds_toArray, List.set_cons_zero, List.set_cons_succ]
    refine held_take (i := 2) (some 14) (.int .i64 m) rfl rfl (by kernel_rfl) (by kernel_rfl) (by kernel_rfl) (fun _ _ _ h => h) (Or.inl ⟨by rfl, by intro w hSw; go_simp⟩) (by assumption) ?_
    try simp only [Act.put, List.setIfInBounds_toArray, List.set_cons_zero, List.set_cons_succ]
    refine held_take (i := 4) (some 16) (.slice A n cap) rfl rfl (by kernel_rfl) (by kernel_rfl) (by kernel_rfl) (fun _ _ _ h => h) (Or.inl ⟨by rfl, by intro w hSw; go_simp⟩) (by assumption) ?_
    try simp only [Act.put, List.setIfInBounds_toArray, List.set_cons_zero, List.set_cons_succ]
    refine wpAnyH_take (i := 5) (v := .agg (vecA v)) rfl (by kernel_rfl) (by kernel_rfl) (by kernel_rfl) (fun _ _ _ h => h) (yields_vec rfl (.tmp 4) rfl w.heap.size rfl v (fun W hW => K1.out.below hW)) (by assumption) ?_
    try simp only [Act.put, List.setIfInBounds_toArray, List.set_cons_zero, List.set_cons_succ]
    refine held_take (i := 6) (some 18) (.int .i64 m) rfl rfl (by kernel_rfl) (by kernel_rfl) (by kernel_rfl) (fun _ _ _ h => h) (Or.inl ⟨by rfl, by intro w hSw; go_simp⟩) (by assumption) ?_
    try simp only [Act.put, List.setIfInBounds_toArray, List.set_cons_zero, List.set_cons_succ]
    refine wpAnyH_ready (rs := [3]) (by kernel_rfl) (by simp) ?_
    refine AllReadyH.cons rfl (fun K hK => ?_) AllReadyH.nil
    go_simp
    refine (pick_any l n cap A v m hm0 hm1 _ (HL.out.below hb0) hn HV.out).mono ?_
    rintro e w3 ⟨A3, c3, rfl, hr3, hb3⟩
    have hb4 := hb0.trans (hb3.mono hb0.size)
    have HR3 := Lib.hid hr3
    clear hb3 hr3
    refine hK.out _ _ hb4 (fun hHeld => ?_)
    clear hK K
    try simp only [Act.put, List.setIfInBounds_toArray, List.set_cons_zero, List.set_cons_succ]
    refine wpAnyH_ready (rs := [7]) (by kernel_rfl) (by simp) ?_
    refine AllReadyH.cons rfl (fun K hK => ?_) AllReadyH.nil
    go_simp
    refine (pickR_any l n cap A v m hm0 hm1 _ (HL.out.below hb4) hn HV.out).mono ?_
    rintro e w5 ⟨A5, c5, rfl, hr5, hb5⟩
    have hb6 := hb4.trans (hb5.mono hb4.size)
    have HR5 := Lib.hid hr5
    have HR35 := Lib.hid (HR3.out.below hb5)
    clear hb5 hr5
    refine hK.out _ _ hb6 (fun hHeld => ?_)
    clear hK K
    try simp only [Act.put, List.setIfInBounds_toArray, List.set_cons_zero, List.set_cons_succ]
    refine wpAnyH_ready (rs := [8]) (by kernel_rfl) (by simp) ?_
    refine AllReadyH.cons rfl (fun K hK => ?_) AllReadyH.nil
    go_simp
    refine (ops_any _ _ _ _ _ _ _ HR35.out HR5.out).mono ?_
    rintro e w7 ⟨rfl, hb7⟩
    have hb8 := hb6.trans (hb7.mono hb6.size)
    clear hb7
    refine hK.out _ _ hb8 (fun hHeld => ?_)
    clear hK K
    try simp only [Act.put, List.setIfInBounds_toArray, List.set_cons_zero, List.set_cons_succ]
    refine held_take (i := 9) (some 6) (.bool true) rfl rfl (by kernel_rfl) (by kernel_rfl) (by kernel_rfl) (fun _ _ _ h => h) (Or.inl ⟨by rfl, by intro w hSw; go_simp⟩) (by assumption) ?_
    try simp only [Act.put, List.setIfInBounds_toArray, List.set_cons_zero, List.set_cons_succ]
    refine wpAnyH_done (by kernel_rfl) ?_ _
    have HGF := Lib.hid (HB2.out.trans (hb8.mono HB2.out.size))
    clear hb0 hb4 hb6 hb8 hHeld
    go_wp2
    go_ret
    exact ⟨rfl, HGF.out⟩
  · go_enter Try.func5, Try.ntmps5
    go_wp2_with fail
    generalize w.alloc (.cells (vecA v) 24) = w1 at *
    refine (alive_any w1).mono ?_
    rintro e w2 ⟨rfl, hb2⟩
    have HB2 := Lib.hid (H0.out.trans (hb2.mono H0.out.size))
    clear hb2
    go_wp2_with fail
    go_ret
    exact ⟨rfl, HB2.out⟩
end Go.Proofs.Ytkhjmegjnglkgaa.Vc
