/-
  The reference's Less.
-/
import Derived.Test.YtkhjmegjnglkgaaPickG
namespace Go.Proofs.Ytkhjmegjnglkgaa.Vc
open Go.RowKit Go.Proofs.Ytkhjmegjnglkgaa.Wd
set_option linter.unusedVariables false
attribute [local go_sem ↓] ldKx

set_option maxHeartbeats 4000000 in
set_option maxRecDepth 100000 in
theorem lessR_any (a b : O) (ha : OkO a) (hb : OkO b) (w : World) :
    Calls Try.prog 24 #[.agg (opA a).toArray, .agg (opA b).toArray] w fun e w' => e = .returned (.bool (lessB a b)) ∧ Gr w w' := by
  have h2 : OpAt ((w.alloc (.cells (opA a).toArray 54)).alloc (.cells (opA b).toArray 54)) (w.heap.size + 1) b := by simpa using OpAt.new (w.alloc (.cells (opA a).toArray 54)) hb
  have h1 : OpAt ((w.alloc (.cells (opA a).toArray 54)).alloc (.cells (opA b).toArray 54)) w.heap.size a := (OpAt.new w ha).below ((Below.refl _ _).alloc (Nat.le_refl _) _)
  have H0 := Lib.hid (((Gr.refl w).alloc (.cells (opA a).toArray 54)).alloc (.cells (opA b).toArray 54))
  have H1 := Lib.hid h1
  have H2 := Lib.hid h2
  have R1 := fun W => countR_any a ha W
  have R2 := fun W => countR_any b hb W
  have hiff := lessB_iff a b
  generalize lessB a b = lb at *
  have ha1 : cnt a ≤ 68719476736 := by have := vsum_le ha.ctx.small; rw [ha.ctx.len] at this; unfold cnt; omega
  have hb1 : cnt b ≤ 68719476736 := by have := vsum_le hb.ctx.small; rw [hb.ctx.len] at this; unfold cnt; omega
  have HI := Lib.hid hiff
  clear ha hb h1 h2 hiff
  have hcase : (lb = true ∧ cnt a < cnt b) ∨ (lb = false ∧ cnt b < cnt a) ∨ (lb = true ∧ cnt a = cnt b ∧ a.rep < b.rep) ∨ (lb = false ∧ cnt a = cnt b ∧ b.rep < a.rep) ∨ (lb = true ∧ cnt a = cnt b ∧ a.rep = b.rep ∧ a.seq < b.seq) ∨ (lb = false ∧ cnt a = cnt b ∧ a.rep = b.rep ∧ ¬ a.seq < b.seq) := by
    have := HI.out
    cases lb with
    | true => simp only [true_iff] at this; simp; omega
    | false => simp only [Bool.false_eq_true, false_iff] at this; simp; omega
  have HC := Lib.hid hcase
  clear hcase HI
  have hmix := mix
  go_enter Try.func24, Try.ntmps24
  go_wp2_with fail
  generalize (w.alloc (.cells (opA a).toArray 54)).alloc (.cells (opA b).toArray 54) = w2 at *
  have c0 : ∀ W, Gr w2 W → (ldK 5 ⟨w.heap.size, 0, none⟩).run Try.prog W = .ok (.int .u8 ((a.rep : Nat) : Int)) W := fun W hW => load8 ((H1.out.below hW.below).cell 0)
  have c1 : ∀ W, Gr w2 W → (ldK 22 ⟨w.heap.size, 1, none⟩).run Try.prog W = .ok (.int .u32 ((a.seq : Nat) : Int)) W := fun W hW => load32 ((H1.out.below hW.below).cell 1)
  have d0 : ∀ W, Gr w2 W → (ldK 5 ⟨w.heap.size + 1, 0, none⟩).run Try.prog W = .ok (.int .u8 ((b.rep : Nat) : Int)) W := fun W hW => load8 ((H2.out.below hW.below).cell 0)
  have d1 : ∀ W, Gr w2 W → (ldK 22 ⟨w.heap.size + 1, 1, none⟩).run Try.prog W = .ok (.int .u32 ((b.seq : Nat) : Int)) W := fun W hW => load32 ((H2.out.below hW.below).cell 1)
  have l1 := fun n os => (H1.out.below (gr_grow w2 n os).below).load
  have l2 := fun n os => (H2.out.below (gr_grow w2 n os).below).load
  have C0 := Lib.hid c0
  have C1 := Lib.hid c1
  have D0 := Lib.hid d0
  have D1 := Lib.hid d1
  clear H1 H2 c0 c1 d0 d1
  generalize cnt a = na at *
  generalize cnt b = nb at *
  generalize a.rep = ra at *
  generalize b.rep = rb at *
  generalize a.seq = sa at *
  generalize b.seq = sb at *
  have Q1 := Lib.hid R1
  have Q2 := Lib.hid R2
  clear R1 R2
  go_quiet_grown (first | (go_at_call 32; ((with_reducible exact grown_gr (Q1.out _)))) | (go_at_call 32; ((with_reducible exact grown_gr (Q2.out _)))))
  have HG := Lib.hid (H0.out.trans (gr_grow w2 nq osq))
  have c0 := C0.out _ (gr_grow w2 nq osq)
  have c1 := C1.out _ (gr_grow w2 nq osq)
  have d0 := D0.out _ (gr_grow w2 nq osq)
  have d1 := D1.out _ (gr_grow w2 nq osq)
  clear l1 l2 Q1 Q2
  generalize Sort.grow (w2.drewN nq) osq = w3 at *
  rcases HC.out with ⟨hl, h1⟩ | ⟨hl, h1⟩ | ⟨hl, h1, h2⟩ | ⟨hl, h1, h2⟩ | ⟨hl, h1, h2, h3⟩ | ⟨hl, h1, h2, h3⟩
  · subst hl
    have e1 : ((na : Int) != (nb : Int)) = true := by rw [bne_iff_ne]; omega
    have e2 : (na : Int) < (nb : Int) := by omega
    go_wp2_with fail
    go_ret
    exact ⟨rfl, HG.out⟩
  · subst hl
    have e1 : ((na : Int) != (nb : Int)) = true := by rw [bne_iff_ne]; omega
    have e2 : ¬ (na : Int) < (nb : Int) := by omega
    go_wp2_with fail
    go_ret
    exact ⟨rfl, HG.out⟩
  · subst hl h1
    have e1 : ((ra : Int) != (rb : Int)) = true := by rw [bne_iff_ne]; omega
    have e2 : (ra : Int) < (rb : Int) := by omega
    go_wp2_with fail
    go_ret
    exact ⟨rfl, HG.out⟩
  · subst hl h1
    have e1 : ((ra : Int) != (rb : Int)) = true := by rw [bne_iff_ne]; omega
    have e2 : ¬ (ra : Int) < (rb : Int) := by omega
    go_wp2_with fail
    go_ret
    exact ⟨rfl, HG.out⟩
  · subst hl h1 h2
    have e2 : (sa : Int) < (sb : Int) := by omega
    go_wp2_with fail
    go_ret
    exact ⟨rfl, HG.out⟩
  · subst hl h1 h2
    have e2 : ¬ (sa : Int) < (sb : Int) := by omega
    go_wp2_with fail
    go_ret
    exact ⟨rfl, HG.out⟩
end Go.Proofs.Ytkhjmegjnglkgaa.Vc
