/-
  What the reference's Need comes to.
-/
import Derived.Test.YtkhjmegjnglkgaaVec
namespace Go.Proofs.Ytkhjmegjnglkgaa.Vc
open Go.RowKit Go.Proofs.Ytkhjmegjnglkgaa.Wd
set_option linter.unusedVariables false

set_option maxHeartbeats 1000000 in
set_option maxRecDepth 100000 in
theorem needR_any (a b : List Nat) (ha : IsVec a) (hb : IsVec b) (w : World) :
    Calls Try.prog 11 #[vecV a, vecV b] w (GivesSp 37 w (needTo a b 16)) := by
  have HA := Lib.hid ha
  have HB := Lib.hid hb
  clear ha hb
  unfold vecV
  have h2 : VecAt ((w.alloc (.cells (vecA a) 24)).alloc (.cells (vecA b) 24)) (w.heap.size + 1) b := by simpa using VecAt.new (w.alloc (.cells (vecA a) 24)) HB.out
  have h1 : VecAt ((w.alloc (.cells (vecA a) 24)).alloc (.cells (vecA b) 24)) w.heap.size a := (VecAt.new w HA.out).below ((Below.refl _ _).alloc (Nat.le_refl _) _)
  have h0 : Below w.heap.size w ((w.alloc (.cells (vecA a) 24)).alloc (.cells (vecA b) 24)) := ((Below.refl _ _).alloc (Nat.le_refl _) _).alloc (by simp) _
  have H1 := Lib.hid h1
  have H2 := Lib.hid h2
  have H0 := Lib.hid h0
  clear h0 h1 h2
  go_enter Try.func11, Try.ntmps11
  go_wp2_with fail
  generalize (w.alloc (.cells (vecA a) 24)).alloc (.cells (vecA b) 24) = w2 at *
  go_loopw [5, 6] (fun d i wr => ∃ k : Nat, k ≤ 16 ∧ i = .int .i64 (k : Int) ∧ Hid (OwnS 37 wr w2.heap.size d (needTo a b k)) ∧ Hid (Below w2.heap.size w2 wr)) (fun _ i _ => 16 - (intOf i).toNat)
  case atStart => exact ⟨0, Nat.zero_le _, rfl, OwnS.nil_ _ _ _, Below.refl _ _⟩
  case round =>
    obtain ⟨k, hk, rfl, HO, HW⟩ := hrel
    have hsz := HW.out.size
    by_cases hlt : k < 16
    · have hcell := (H1.out.below HW.out).cell hlt
      have hcell2 := (H2.out.below HW.out).cell hlt
      have g1 := H1.out.lt
      have g2 := H2.out.lt
      have n1 := HO.out.ne g1
      have n2 := HO.out.ne g2
      have i0 : (0 : Int) ≤ (k : Int) := by omega
      have i1 : (k : Int) < 16 := by omega
      have b1 := HB.out.at_ k
      have b2 := HA.out.at_ k
      obtain ⟨x, hx⟩ : ∃ x, x = b.getD k 0 := ⟨_, rfl⟩
      obtain ⟨y, hy⟩ : ∃ y, y = a.getD k 0 := ⟨_, rfl⟩
      rw [← hx] at hcell2 b1
      rw [← hy] at hcell b2
      have hd1 : ∀ j, (wr.drewN j).cell? ⟨w.heap.size, k, none⟩ = some (.int .u32 (y : Int)) := fun j => hcell
      have hd2 : ∀ j, (wr.drewN j).cell? ⟨w.heap.size + 1, k, none⟩ = some (.int .u32 (x : Int)) := fun j => hcell2
      by_cases hc : y < x
      · have hn := needTo_in (a := a) (b := b) (k := k) (by rw [← hx, ← hy]; exact hc)
        rw [← hx, ← hy] at hn
        have HN := Lib.hid hn
        obtain ⟨z, hz⟩ : ∃ z, z = y + 1 := ⟨_, rfl⟩
        have ez : (y : Int) + 1 = (z : Int) := by omega
        have hz2 : z ≤ 4294967295 := by omega
        have HZ := Lib.hid hz
        have wk : IntKind.u8.wrap (k : Int) = (k : Int) := by rw [IntKind.wrap_u8]; omega
        have wz : IntKind.u32.wrap (z : Int) = (z : Int) := by rw [IntKind.wrap_u32]; omega
        have hnl := needTo_length a b k
        clear hx hy hn hz
        go_wp2_with fail
        go_quiet (fail)
        go_wp2_with fail
        have HOd := Lib.hid (HO.out.below (drewN_below (Below.refl _ _) nq))
        have HWd := Lib.hid (drewN_below HW.out nq)
        have hcd := hd1 nq
        have hcd2 := hd2 nq
        have hsd : w2.heap.size ≤ (wr.drewN nq).heap.size := hsz
        clear hd1 hd2 hcell hcell2 HO HW hsz
        generalize wr.drewN nq = wd at *
        go_region_held3 (fun w' => w'.cell? ⟨w.heap.size, k, none⟩ = some (.int .u32 (y : Int)) ∧ w'.cell? ⟨w.heap.size + 1, k, none⟩ = some (.int .u32 (x : Int)))
          (first
            | go_keep
            | (go_split_ands
               refine ⟨?_, ?_⟩
               · (rw [hg4.cell_far _ (by simp; omega) (Ne.symm n1)]; assumption)
               · (rw [hg4.cell_far _ (by simp; omega) (Ne.symm n2)]; assumption)))
          ((refine appS_step (sp := (k, z, x)) Try.underlying28 infoR w2.heap.size (by rfl) _ _ (by rfl) (by rfl) (by rfl) ((HOd.out.alloc _).drew) (spA_newD _ _ k z x) (by omega) (by simp; omega) ?_; intro v4 w4 ho4 hg4))
        have HB4 := Lib.hid ((HOd.out.alloc _).drew.to_below (HWd.out.alloc hsd _).drew (by simp; omega) hg4)
        have HO4 := Lib.hid ho4
        clear ho4 hg4 hcd hcd2
        go_wp2
        go_roundw
        case rel => exact ⟨k + 1, by omega, by go_num, by unfold Hid; rw [HN.out, ← HZ.out]; exact HO4.out, HB4.out⟩
        case measure => simp [intOf]; omega
      · have hn := needTo_out (a := a) (b := b) (k := k) (by rw [← hx, ← hy]; exact hc)
        have HN := Lib.hid hn
        clear hx hy hn
        go_wp2_with fail
        go_quiet (fail)
        go_wp2_with fail
        go_roundw
        case rel => exact ⟨k + 1, by omega, by go_num, by unfold Hid; rw [HN.out]; exact HO.out.below (drewN_below (Below.refl _ _) _), drewN_below HW.out _⟩
        case measure => simp [intOf]; omega
    · have hk16 : k = 16 := by omega
      have HK := Lib.hid hk16
      clear hk16
      go_wp2_with fail
      go_ret
      refine ⟨_, rfl, ?_, H0.out.trans (HW.out.mono H0.out.size)⟩
      have h := HO.out
      rw [HK.out] at h
      exact ⟨own_base h.row H0.out.size⟩
end Go.Proofs.Ytkhjmegjnglkgaa.Vc
