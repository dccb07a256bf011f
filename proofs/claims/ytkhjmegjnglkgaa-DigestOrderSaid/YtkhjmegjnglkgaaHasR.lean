/-
  The reference's Has.
-/
import Derived.Test.YtkhjmegjnglkgaaHas
namespace Go.Proofs.Ytkhjmegjnglkgaa.Vc
open Go.RowKit Go.Proofs.Ytkhjmegjnglkgaa.Wd
set_option linter.unusedVariables false

set_option maxHeartbeats 1000000 in
set_option maxRecDepth 100000 in
theorem hasR_any (v : List Nat) (r s : Nat) (hv : IsVec v) (hr : r ≤ 255) (hs : s ≤ 4294967295) (w : World) :
    Calls Try.prog 20 #[.agg (vecA v), .agg #[.int .u8 (r : Int), .int .u32 (s : Int)]] w fun e w' => e = .returned (.bool (hasB v r s)) ∧ Gr w w' := by
  have h1 : VecAt ((w.alloc (.cells (vecA v) 24)).alloc (.cells #[.int .u8 (r : Int), .int .u32 (s : Int)] 45)) w.heap.size v := (VecAt.new w hv).below ((Below.refl _ _).alloc (Nat.le_refl _) _)
  have H1 := Lib.hid h1
  have H0 := Lib.hid (((Gr.refl w).alloc (.cells (vecA v) 24)).alloc (.cells #[.int .u8 (r : Int), .int .u32 (s : Int)] 45))
  have hrow : ((w.alloc (.cells (vecA v) 24)).alloc (.cells #[.int .u8 (r : Int), .int .u32 (s : Int)] 45)).heap[w.heap.size + 1]? = some (.cells #[.int .u8 (r : Int), .int .u32 (s : Int)] 45 (0, 0)) := by simpa using heap_alloc_new (w.alloc (.cells (vecA v) 24)) (.cells #[.int .u8 (r : Int), .int .u32 (s : Int)] 45)
  have HROW := Lib.hid hrow
  have q := fun W => dotR_any r s hr hs W
  have hvs := hv.at_ r
  clear h1 hrow
  by_cases hd : r < 16 ∧ 1 ≤ s ∧ s ≤ 1048576
  · have hdb : dotB r s = true := by unfold dotB; simpa using hd
    have hhb : hasB v r s = decide (s ≤ v.getD r 0) := by unfold hasB; rw [decide_eq_decide]; exact ⟨fun h => h.2, fun h => ⟨hd, h⟩⟩
    rw [hdb] at q
    rw [hhb]
    obtain ⟨x, hx⟩ : ∃ x, x = v.getD r 0 := ⟨_, rfl⟩
    rw [← hx]
    have HX := Lib.hid hx
    have Q := Lib.hid q
    obtain ⟨hr16, hs1, hs2⟩ := hd
    have i0 : (0 : Int) ≤ (r : Int) := by omega
    have i1 : (r : Int) < 16 := by omega
    clear q hx hdb hhb
    go_enter Try.func20, Try.ntmps20
    go_wp2_with fail
    generalize (w.alloc (.cells (vecA v) 24)).alloc (.cells #[.int .u8 (r : Int), .int .u32 (s : Int)] 45) = w2 at *
    have hb2 : ∀ W, Gr w2 W → W.heap[w.heap.size + 1]? = some (.cells #[.int .u8 (r : Int), .int .u32 (s : Int)] 45 (0, 0)) := fun W hW => by
      rw [hW.below.block _ (Array.getElem?_eq_some_iff.1 HROW.out).1]
      exact HROW.out
    have c0 : ∀ W, Gr w2 W → W.cell? ⟨w.heap.size + 1, 0, none⟩ = some (.int .u8 (r : Int)) := fun W hW => by rw [cell_of_row W _ 0 _ _ _ (hb2 W hW)]; rfl
    have c1 : ∀ W, Gr w2 W → W.cell? ⟨w.heap.size + 1, 1, none⟩ = some (.int .u32 (s : Int)) := fun W hW => by rw [cell_of_row W _ 1 _ _ _ (hb2 W hW)]; rfl
    have c2 : ∀ W, Gr w2 W → W.cell? ⟨w.heap.size, r, none⟩ = some (.int .u32 (x : Int)) := fun W hW => by rw [HX.out]; exact (H1.out.below hW.below).cell hr16
    clear hb2
    have g0 := fun n os => c0 _ (gr_grow w2 n os)
    have g1 := fun n os => c1 _ (gr_grow w2 n os)
    have g2 := fun n os => c2 _ (gr_grow w2 n os)
    clear c0 c1 c2
    have hmix := mix
    go_quiet_grown (first | (go_at_call 21; exact grown_gr (Q.out _)))
    all_goals
      have HGF := Lib.hid (H0.out.trans (gr_grow w2 nq osq))
      go_wp2
      go_ret
      refine ⟨?_, HGF.out⟩
      first
        | rfl
        | exact congrArg Ending.returned (congrArg Value.bool (by rw [decide_eq_decide]; omega))
  · have hdb : dotB r s = false := by unfold dotB; simpa using hd
    have hhb : hasB v r s = false := by unfold hasB; rw [decide_eq_false_iff_not]; exact fun h => hd h.1
    rw [hdb] at q
    rw [hhb]
    have Q := Lib.hid q
    clear q hdb hhb hd
    go_enter Try.func20, Try.ntmps20
    go_wp2_with fail
    generalize (w.alloc (.cells (vecA v) 24)).alloc (.cells #[.int .u8 (r : Int), .int .u32 (s : Int)] 45) = w2 at *
    have hb2 : ∀ W, Gr w2 W → W.heap[w.heap.size + 1]? = some (.cells #[.int .u8 (r : Int), .int .u32 (s : Int)] 45 (0, 0)) := fun W hW => by
      rw [hW.below.block _ (Array.getElem?_eq_some_iff.1 HROW.out).1]
      exact HROW.out
    have c0 : ∀ W, Gr w2 W → W.cell? ⟨w.heap.size + 1, 0, none⟩ = some (.int .u8 (r : Int)) := fun W hW => by rw [cell_of_row W _ 0 _ _ _ (hb2 W hW)]; rfl
    have c1 : ∀ W, Gr w2 W → W.cell? ⟨w.heap.size + 1, 1, none⟩ = some (.int .u32 (s : Int)) := fun W hW => by rw [cell_of_row W _ 1 _ _ _ (hb2 W hW)]; rfl
    clear hb2
    have g0 := fun n os => c0 _ (gr_grow w2 n os)
    have g1 := fun n os => c1 _ (gr_grow w2 n os)
    clear c0 c1
    have hmix := mix
    go_quiet_grown (first | (go_at_call 21; exact grown_gr (Q.out _)))
    all_goals
      have HGF := Lib.hid (H0.out.trans (gr_grow w2 nq osq))
      go_wp2
      go_ret
      refine ⟨?_, HGF.out⟩
      first
        | rfl
        | exact congrArg Ending.returned (congrArg Value.bool (by rw [decide_eq_decide]; omega))
end Go.Proofs.Ytkhjmegjnglkgaa.Vc
