/-
  The walk of the reference's Join.
-/
import Derived.Test.YtkhjmegjnglkgaaJoin
namespace Go.Proofs.Ytkhjmegjnglkgaa.Vc
open Go.RowKit Go.Proofs.Ytkhjmegjnglkgaa.Wd
set_option linter.unusedVariables false

set_option maxHeartbeats 2000000 in
set_option maxRecDepth 100000 in
theorem joinR_any (a b : List Nat) (ha : IsVec a) (hb : IsVec b) (w : World) :
    Calls Try.prog 22 #[.agg (vecA a), .agg (vecA b)] w fun e w' => e = .returned (.agg (vecA (joinTo a b 16))) ∧ Below w.heap.size w w' := by
  have HA := Lib.hid ha
  have HB := Lib.hid hb
  have h2 : VecAt ((w.alloc (.cells (vecA a) 24)).alloc (.cells (vecA b) 24)) (w.heap.size + 1) b := by simpa using VecAt.new (w.alloc (.cells (vecA a) 24)) hb
  have h1 : VecAt ((w.alloc (.cells (vecA a) 24)).alloc (.cells (vecA b) 24)) w.heap.size a := (VecAt.new w ha).below ((Below.refl _ _).alloc (Nat.le_refl _) _)
  have h0 : Below w.heap.size w ((w.alloc (.cells (vecA a) 24)).alloc (.cells (vecA b) 24)) := ((Below.refl _ _).alloc (Nat.le_refl _) _).alloc (by simp) _
  have H1 := Lib.hid (fun o => h1.below ((Below.refl _ _).alloc (Nat.le_refl _) o))
  have H2 := Lib.hid (fun o => h2.below ((Below.refl _ _).alloc (Nat.le_refl _) o))
  have H0 := Lib.hid (fun o => h0.alloc h0.size o)
  have H3 := Lib.hid (fun o => show (((w.alloc (.cells (vecA a) 24)).alloc (.cells (vecA b) 24)).alloc o).heap[w.heap.size + 1 + 1]? = some o by simpa using heap_alloc_new ((w.alloc (.cells (vecA a) 24)).alloc (.cells (vecA b) 24)) o)
  clear ha hb h0 h1 h2
  go_enter Try.func22, Try.ntmps22
  go_wp2_with fail
  go_loopw [5] (fun i wr => ∃ k : Nat, k ≤ 16 ∧ i = .int .i64 (k : Int) ∧ Hid (VecAt wr w.heap.size (joinTo a b k)) ∧ Hid (VecAt wr (w.heap.size + 1) b) ∧ Hid (∃ cs, cs.size = 16 ∧ wr.heap[w.heap.size + 1 + 1]? = some (.cells cs 24 (0, 0))) ∧ Hid (Below w.heap.size w wr)) (fun i _ => 16 - (intOf i).toNat)
  case atStart => exact ⟨0, Nat.zero_le _, rfl, by unfold Hid; rw [joinTo_zero HA.out]; exact H1.out _, H2.out _, ⟨_, rfl, H3.out _⟩, H0.out _⟩
  case round =>
    obtain ⟨k, hk, rfl, H4, H5, H6, HW⟩ := hrel
    by_cases hlt : k < 16
    · have c1 := H4.out.cell hlt
      have c2 := H5.out.cell hlt
      rw [joinTo_get hlt, if_neg (Nat.lt_irrefl k)] at c1
      have f1 : wr.frozen? ⟨w.heap.size, k, none⟩ = false := by simp [World.frozen?, H4.out.row]
      have b1 := HA.out.at_ k
      have b2 := HB.out.at_ k
      have hset := joinTo_set (a := a) (b := b) HA.out hlt
      obtain ⟨x, hx⟩ : ∃ x, x = a.getD k 0 := ⟨_, rfl⟩
      obtain ⟨y, hy⟩ : ∃ y, y = b.getD k 0 := ⟨_, rfl⟩
      rw [← hx] at c1 b1 hset
      rw [← hy] at c2 b2 hset
      have i0 : (0 : Int) ≤ (k : Int) := by omega
      have i1 : (k : Int) < 16 := by omega
      have HSET := Lib.hid hset
      clear hx hy hset
      have hv : (if x < y then (y : Int) else (x : Int)) = ((max x y : Nat) : Int) := by split <;> omega
      have HV := Lib.hid hv
      clear hv
      go_wp2_with fail
      go_region
      rw [HV.out]
      have hs := H4.out.set (k := k) (x := max x y) (by omega)
      rw [HSET.out] at hs
      have hg : wr.grownBy (wr.setCell ⟨w.heap.size, k, none⟩ (.int .u32 ((max x y : Nat) : Int))) (some w.heap.size) := by
        rw [setCell_eq_setRow wr w.heap.size k _ _ _ _ H4.out.row]
        exact ⟨rfl, rfl, rfl, by simp [World.setRow], fun j _ hne => setRow_other wr w.heap.size j _ (fun e => hne (by rw [e]))⟩
      have HS := Lib.hid (show VecAt (wr.setCell ⟨w.heap.size, k, none⟩ (.int .u32 ((max x y : Nat) : Int))).drew w.heap.size (joinTo a b (k + 1)) from ⟨hs.vec, hs.row⟩)
      have h5 := H5.out.kept hg (by simp)
      have HS5 := Lib.hid (show VecAt (wr.setCell ⟨w.heap.size, k, none⟩ (.int .u32 ((max x y : Nat) : Int))).drew (w.heap.size + 1) b from ⟨h5.vec, h5.row⟩)
      have HS6 := Lib.hid (show ∃ cs, cs.size = 16 ∧ (wr.setCell ⟨w.heap.size, k, none⟩ (.int .u32 ((max x y : Nat) : Int))).drew.heap[w.heap.size + 1 + 1]? = some (.cells cs 24 (0, 0)) from by
        obtain ⟨cs, e1, e2⟩ := H6.out
        exact ⟨cs, e1, (hg.block _ (Array.getElem?_eq_some_iff.1 e2).1 (by simp; omega)).trans e2⟩)
      have HSW := Lib.hid ((HW.out.grown hg HW.out.size (fun j hj => by injection hj with hj; omega)).drew)
      clear hs hg h5 c1 c2 f1
      generalize (wr.setCell ⟨w.heap.size, k, none⟩ (.int .u32 ((max x y : Nat) : Int))).drew = wn at *
      go_wp2_with fail
      go_roundw
      case rel => exact ⟨k + 1, by omega, by go_num, HS.out, HS5.out, HS6.out, HSW.out⟩
      case measure => simp [intOf]; omega
    · have hk16 : k = 16 := by omega
      subst hk16
      obtain ⟨cs, e1, e2⟩ := H6.out
      have E2 := Lib.hid e2
      clear e2
      go_wp2_with (first
        | (refine VecAt.load_list H4.out rfl (.tmp 2) rfl rfl ?_)
        | (refine wpList_store_row rfl 24 (.tmp 4) (.tmp 19) rfl (w.heap.size + 1 + 1) (vecA (joinTo a b 16)) rfl rfl 24 cs E2.out (by rw [vecA_size, H4.out.vec.len]; kernel_rfl) (by rw [vecA_size, H4.out.vec.len, e1]) (by simp [vecA, Value.oneCell']) ?_))
      refine bodyPost_ret (v := .agg (vecA (joinTo a b 16))) ?_ rfl ⟨rfl, ?_⟩
      · exact results_cell_row Try.results22 _ _ (w.heap.size + 1 + 1) 24 _ (0, 0) _ rfl (setRow_heap wr _ cs _ _ _ E2.out) Try.underlying24 rfl (by rw [vecA_size, H4.out.vec.len]; kernel_rfl)
      · exact HW.out.grown (row := some (w.heap.size + 1 + 1)) ⟨rfl, rfl, rfl, by simp [World.setRow], fun j _ hne => setRow_other wr _ j _ (fun e => hne (by rw [e]))⟩ HW.out.size (fun j hj => by injection hj with hj; omega)
end Go.Proofs.Ytkhjmegjnglkgaa.Vc
