/-
  The walk of the law 'truglaw19.DigestCounts'.
-/
import Derived.Test.YtkhjmegjnglkgaaJoinW
import Derived.Test.YtkhjmegjnglkgaaHeldK
import Derived.Test.YtkhjmegjnglkgaaDigAlive
namespace Go.Proofs.Ytkhjmegjnglkgaa.Vc
open Go.RowKit Go.Proofs.Ytkhjmegjnglkgaa.Wd
set_option linter.unusedVariables false
set_option linter.unusedSimpArgs false

theorem vsum_set : ∀ (l : List Nat) (k x : Nat), k < l.length → vsum (l.set k x) + l.getD k 0 = vsum l + x
  | [], k, x, h => by simp at h
  | y :: l, 0, x, _ => by simp [vsum]; omega
  | y :: l, k + 1, x, h => by
    have ih := vsum_set l k x (by simpa using h)
    simp only [List.set_cons_succ, vsum, List.getD_cons_succ]
    omega
theorem counts_to {a b : List Nat} (ha : IsVec a) (hb : IsVec b) : ∀ k, k ≤ 16 → vsum (joinTo a b k) = vsum a + size (needTo a b k)
  | 0, _ => by rw [joinTo_zero ha]; simp [needTo, size]
  | k + 1, h => by
    have ih := counts_to ha hb k (by omega)
    have h1 := vsum_set (joinTo a b k) k (max (a.getD k 0) (b.getD k 0)) (by rw [(joinTo_vec ha hb k).len]; omega)
    rw [joinTo_set ha (by omega), joinTo_get (by omega), if_neg (Nat.lt_irrefl k)] at h1
    by_cases hc : a.getD k 0 < b.getD k 0
    · rw [needTo_in hc, size_append]
      simp only [size, sz]
      split <;> omega
    · rw [needTo_out hc]
      omega
theorem VecAt.below_load {w W : World} {g : Nat} {xs : List Nat} (h : VecAt w g xs) (hW : Below w.heap.size w W) : (ldK 24 ⟨g, 0, none⟩).run Try.prog W = .ok (.agg (vecA xs)) W := (h.below hW).load
theorem VecAt.range {w W : World} {g : Nat} {xs : List Nat} (h : VecAt w g xs) (hW : Below w.heap.size w W) : W.rangeAt g 0 (vecA xs).toList := fun j v hv => by
  rw [Nat.zero_add, cell_of_row W g j _ _ _ (h.below hW).row]
  simpa using hv
set_option maxHeartbeats 4000000 in
set_option maxRecDepth 100000 in
theorem digestCounts_any (w : World) (a : List Nat) (ha : IsVec a) (b : List Nat) (hb : IsVec b) :
    Calls Try.prog 7 #[.agg (vecA a), .agg (vecA b)] w fun e w' => e = .returned (.bool true) ∧ Below w.heap.size w w' := by
  have h2 : VecAt ((w.alloc (.cells (vecA a) 24)).alloc (.cells (vecA b) 24)) (w.heap.size + 1) b := by simpa using VecAt.new (w.alloc (.cells (vecA a) 24)) hb
  have h1 : VecAt ((w.alloc (.cells (vecA a) 24)).alloc (.cells (vecA b) 24)) w.heap.size a := (VecAt.new w ha).below ((Below.refl _ _).alloc (Nat.le_refl _) _)
  have h0 : Below w.heap.size w ((w.alloc (.cells (vecA a) 24)).alloc (.cells (vecA b) 24)) := ((Below.refl _ _).alloc (Nat.le_refl _) _).alloc (by simp) _
  have H1 := Lib.hid h1
  have H2 := Lib.hid h2
  have H0 := Lib.hid h0
  have hct := counts_to ha hb 16 (Nat.le_refl _)
  have hok := needTo_ok ha hb (Nat.le_refl 16)
  have hln := needTo_length a b 16
  have QN := Lib.hid (fun W => need_any a b ha hb W)
  have qj := fun W => joinR_any a b ha hb W
  have qs := fun W => sumR_any (joinTo a b 16) (joinTo_vec ha hb 16) W
  have QA := Lib.hid (fun W => sumR_any a ha W)
  have hlj := vsum_le (joinTo_vec ha hb 16).small
  rw [(joinTo_vec ha hb 16).len] at hlj
  generalize joinTo a b 16 = js at *
  generalize needTo a b 16 = l at *
  have QJ := Lib.hid qj
  have QS := Lib.hid qs
  have HOK := Lib.hid hok
  obtain ⟨S, hS⟩ : ∃ S, S = size l := ⟨_, rfl⟩
  obtain ⟨J, hJ⟩ : ∃ J, J = vsum js := ⟨_, rfl⟩
  obtain ⟨V, hV⟩ : ∃ V, V = vsum a := ⟨_, rfl⟩
  rw [← hS, ← hJ, ← hV] at hct
  rw [← hJ] at hlj
  have HSS := Lib.hid hS
  have HJ := Lib.hid hJ
  have HV := Lib.hid hV
  have eJ : (J : Int) - (V : Int) = (S : Int) := by omega
  clear ha hb h0 h1 h2 hok qj qs hS hJ hV hct
  go_enter Try.func7, Try.ntmps7
  go_wp2_with fail
  generalize (w.alloc (.cells (vecA a) 24)).alloc (.cells (vecA b) 24) = w1 at *
  refine (alive_any w1).mono ?_
  rintro e w2 ⟨rfl, hb2⟩
  have HB2 := Lib.hid (H0.out.trans (hb2.mono H0.out.size))
  have K1 := Lib.hid (H1.out.below hb2)
  have K2 := Lib.hid (H2.out.below hb2)
  clear hb2
  go_wp2_with fail
  have wS : IntKind.u64.wrap (S : Int) = (S : Int) := by rw [IntKind.wrap_u64]; omega
  have hb0 : Below w2.heap.size w2 w2.drew := (Below.refl _ _).drew
  refine wp_region_held_drew (S := fun w' => Below w2.heap.size w2 w') (by kernel_rfl) hb0 (fun hHeld => ?_)
  refine wpAnyH_take (i := 0) (v := .agg (vecA a)) rfl (by kernel_rfl) (by kernel_rfl) (by kernel_rfl) (fun _ _ _ h => h) (yields_vec rfl (.tmp 2) rfl w.heap.size rfl a (fun W hW => K1.out.below hW)) (by assumption) ?_
  try simp only [Act.put, List.setIfInBounds_toArray, List.set_cons_zero, List.set_cons_succ]
  refine wpAnyH_take (i := 1) (v := .agg (vecA b)) rfl (by kernel_rfl) (by kernel_rfl) (by kernel_rfl) (fun _ _ _ h => h) (yields_vec rfl (.tmp 3) rfl (w.heap.size + 1) rfl b (fun W hW => K2.out.below hW)) (by assumption) ?_
  try simp only [Act.put, List.setIfInBounds_toArray, List.set_cons_zero, List.set_cons_succ]
  refine wpAnyH_take (i := 4) (v := .agg (vecA a)) rfl (by kernel_rfl) (by kernel_rfl) (by kernel_rfl) (fun _ _ _ h => h) (yields_vec rfl (.tmp 2) rfl w.heap.size rfl a (fun W hW => K1.out.below hW)) (by assumption) ?_
  try simp only [Act.put, List.setIfInBounds_toArray, List.set_cons_zero, List.set_cons_succ]
  refine wpAnyH_take (i := 5) (v := .agg (vecA b)) rfl (by kernel_rfl) (by kernel_rfl) (by kernel_rfl) (fun _ _ _ h => h) (yields_vec rfl (.tmp 3) rfl (w.heap.size + 1) rfl b (fun W hW => K2.out.below hW)) (by assumption) ?_
  try simp only [Act.put, List.setIfInBounds_toArray, List.set_cons_zero, List.set_cons_succ]
  refine wpAnyH_take (i := 8) (v := .agg (vecA a)) rfl (by kernel_rfl) (by kernel_rfl) (by kernel_rfl) (fun _ _ _ h => h) (yields_vec rfl (.tmp 2) rfl w.heap.size rfl a (fun W hW => K1.out.below hW)) (by assumption) ?_
  try simp only [Act.put, List.setIfInBounds_toArray, List.set_cons_zero, List.set_cons_succ]
  refine wpAnyH_ready (rs := [2]) (by kernel_rfl) (by simp) ?_
  refine AllReadyH.cons rfl (fun K hK => ?_) AllReadyH.nil
  go_simp
  refine (QN.out _).mono ?_
  rintro e w3 ⟨v3, rfl, ho3, hb3⟩
  have hb4 := hb0.trans (hb3.mono hb0.size)
  obtain ⟨A3, c3, hv3, hc3, hr3⟩ := ho3.rd HOK.out
  subst hv3
  have HR3 := Lib.hid hr3
  clear ho3 hb3 hr3
  refine hK.out _ _ hb4 (fun hHeld => ?_)
  clear hK K
  try simp only [Act.put, List.setIfInBounds_toArray, List.set_cons_zero, List.set_cons_succ]
  refine wpAnyH_ready (rs := [3]) (by kernel_rfl) (by simp) ?_
  refine AllReadyH.cons rfl (fun K hK => ?_) AllReadyH.nil
  go_simp
  refine (size_any l.length _ _ l _ HR3.out (by omega)).mono ?_
  rintro e w4 ⟨rfl, hb5⟩
  rw [← HSS.out]
  have hb6 := hb4.trans (hb5.mono hb4.size)
  clear hb5
  refine hK.out _ _ hb6 (fun hHeld => ?_)
  clear hK K
  try simp only [Act.put, List.setIfInBounds_toArray, List.set_cons_zero, List.set_cons_succ]
  refine wpAnyH_ready (rs := [6]) (by kernel_rfl) (by simp) ?_
  refine AllReadyH.cons rfl (fun K hK => ?_) AllReadyH.nil
  go_simp
  refine (QJ.out _).mono ?_
  rintro e w5 ⟨rfl, hb7⟩
  have hb8 := hb6.trans (hb7.mono hb6.size)
  clear hb7
  refine hK.out _ _ hb8 (fun hHeld => ?_)
  clear hK K
  try simp only [Act.put, List.setIfInBounds_toArray, List.set_cons_zero, List.set_cons_succ]
  refine wpAnyH_ready (rs := [7]) (by kernel_rfl) (by simp) ?_
  refine AllReadyH.cons rfl (fun K hK => ?_) AllReadyH.nil
  go_simp
  refine (QS.out _).mono ?_
  rintro e w6 ⟨rfl, hg6⟩
  rw [← HJ.out]
  have hb9 := hb8.trans (hg6.below.mono hb8.size)
  clear hg6
  refine hK.out _ _ hb9 (fun hHeld => ?_)
  clear hK K
  try simp only [Act.put, List.setIfInBounds_toArray, List.set_cons_zero, List.set_cons_succ]
  refine wpAnyH_ready (rs := [9]) (by kernel_rfl) (by simp) ?_
  refine AllReadyH.cons rfl (fun K hK => ?_) AllReadyH.nil
  go_simp
  refine (QA.out _).mono ?_
  rintro e w7 ⟨rfl, hg7⟩
  rw [← HV.out]
  have hb10 := hb9.trans (hg7.below.mono hb9.size)
  clear hg7
  refine hK.out _ _ hb10 (fun hHeld => ?_)
  clear hK K
  try simp only [Act.put, List.setIfInBounds_toArray, List.set_cons_zero, List.set_cons_succ]
  refine wpAnyH_ready (rs := [10]) (by kernel_rfl) (by simp) ?_
  refine AllReadyH.cons rfl (fun K hK => ?_) AllReadyH.nil
  go_simp
  refine hK.out _ _ hb10 (fun hHeld => ?_)
  clear hK K
  try simp only [Act.put, List.setIfInBounds_toArray, List.set_cons_zero, List.set_cons_succ]
  refine wpAnyH_ready (rs := [11]) (by kernel_rfl) (by simp) ?_
  refine AllReadyH.cons rfl (fun K hK => ?_) AllReadyH.nil
  go_simp
  refine hK.out _ _ hb10 (fun hHeld => ?_)
  clear hK K
  try simp only [Act.put, List.setIfInBounds_toArray, List.set_cons_zero, List.set_cons_succ]
  refine wpAnyH_ready (rs := [12]) (by kernel_rfl) (by simp) ?_
  refine AllReadyH.cons rfl (fun K hK => ?_) AllReadyH.nil
  go_simp
  refine hK.out _ _ hb10 (fun hHeld => ?_)
  clear hK K
  try simp only [Act.put, List.setIfInBounds_toArray, List.set_cons_zero, List.set_cons_succ]
  refine wpAnyH_done (by kernel_rfl) ?_ _
  have HGF := Lib.hid (HB2.out.trans (hb10.mono HB2.out.size))
  clear hb0 hb4 hb6 hb8 hb9 hb10 hHeld
  go_wp2
  go_ret
  exact ⟨rfl, HGF.out⟩
end Go.Proofs.Ytkhjmegjnglkgaa.Vc
