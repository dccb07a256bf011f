/-
  op.Less, the closure that compares, and the reference's Less.
-/
import Derived.Test.YtkhjmegjnglkgaaLessW
namespace Go.Proofs.Ytkhjmegjnglkgaa.Vc
open Go.RowKit Go.Proofs.Ytkhjmegjnglkgaa.Wd
set_option linter.unusedVariables false

theorem load8 {W : World} {a : Addr} {v : Value} (h : W.cell? a = some v) : (ldK 5 a).run Try.prog W = .ok v W := by simp [ldK, go_sem, h]
theorem load32 {W : World} {a : Addr} {v : Value} (h : W.cell? a = some v) : (ldK 22 a).run Try.prog W = .ok v W := by simp [ldK, go_sem, h]
theorem OpAt.load {w : World} {g : Nat} {x : O} (h : OpAt w g x) : (ldK 54 ⟨g, 0, none⟩).run Try.prog w = .ok (.agg (opA x).toArray) w :=
  run_loadVar_row w g _ 54 _ _ _ h.row Try.underlying54 rfl (by rw [List.size_toArray, opA_length h.ok]; kernel_rfl)
attribute [local go_sem ↓] ldKx
def lessB (a b : O) : Bool := decide (key3 a b < 0)

set_option maxHeartbeats 4000000 in
set_option maxRecDepth 100000 in
theorem less_any (a b : O) (ha : OkO a) (hb : OkO b) (w : World) :
    Calls Try.prog 31 #[.agg (opA a).toArray, .agg (opA b).toArray] w fun e w' => e = .returned (.bool (lessB a b)) ∧ Gr w w' := by
  have h2 : OpAt ((w.alloc (.cells (opA a).toArray 54)).alloc (.cells (opA b).toArray 54)) (w.heap.size + 1) b := by simpa using OpAt.new (w.alloc (.cells (opA a).toArray 54)) hb
  have h1 : OpAt ((w.alloc (.cells (opA a).toArray 54)).alloc (.cells (opA b).toArray 54)) w.heap.size a := (OpAt.new w ha).below ((Below.refl _ _).alloc (Nat.le_refl _) _)
  have H0 := Lib.hid (((Gr.refl w).alloc (.cells (opA a).toArray 54)).alloc (.cells (opA b).toArray 54))
  have H1 := Lib.hid h1
  have H2 := Lib.hid h2
  have Q1 := Lib.hid (fun W => count_any a ha W)
  have Q2 := Lib.hid (fun W => count_any b hb W)
  obtain ⟨r, hr⟩ : ∃ r, r = key3 a b := ⟨_, rfl⟩
  have hl : lessB a b = decide (r < 0) := by rw [hr]; rfl
  rw [hl]
  unfold key3 at hr
  have HR := Lib.hid hr
  clear ha hb h1 h2 hr hl
  go_enter Try.func31, Try.ntmps31
  go_wp2_with fail
  generalize (w.alloc (.cells (opA a).toArray 54)).alloc (.cells (opA b).toArray 54) = w2 at *
  have c0 : ∀ W, Gr w2 W → (ldK 5 ⟨w.heap.size, 0, none⟩).run Try.prog W = .ok (.int .u8 ((a.rep : Nat) : Int)) W := fun W hW => load8 ((H1.out.below hW.below).cell 0)
  have c1 : ∀ W, Gr w2 W → (ldK 22 ⟨w.heap.size, 1, none⟩).run Try.prog W = .ok (.int .u32 ((a.seq : Nat) : Int)) W := fun W hW => load32 ((H1.out.below hW.below).cell 1)
  have d0 : ∀ W, Gr w2 W → (ldK 5 ⟨w.heap.size + 1, 0, none⟩).run Try.prog W = .ok (.int .u8 ((b.rep : Nat) : Int)) W := fun W hW => load8 ((H2.out.below hW.below).cell 0)
  have d1 : ∀ W, Gr w2 W → (ldK 22 ⟨w.heap.size + 1, 1, none⟩).run Try.prog W = .ok (.int .u32 ((b.seq : Nat) : Int)) W := fun W hW => load32 ((H2.out.below hW.below).cell 1)
  have l1 : ∀ W, Gr w2 W → (ldK 54 ⟨w.heap.size, 0, none⟩).run Try.prog W = .ok (.agg (opA a).toArray) W := fun W hW => (H1.out.below hW.below).load
  have l2 : ∀ W, Gr w2 W → (ldK 54 ⟨w.heap.size + 1, 0, none⟩).run Try.prog W = .ok (.agg (opA b).toArray) W := fun W hW => (H2.out.below hW.below).load
  have R1 := Q1.out
  have R2 := Q2.out
  clear Q1 Q2 H1 H2
  have hr := HR.out
  clear HR
  generalize cnt a = na at *
  generalize cnt b = nb at *
  generalize a.rep = ra at *
  generalize b.rep = rb at *
  generalize a.seq = sa at *
  generalize b.seq = sb at *
  have q64 := fun W => cmp64 na nb W
  have q8 := fun W => cmp8 ra rb W
  have q32 := fun W => cmp32 sa sb W
  generalize cmpN na nb = x at *
  generalize cmpN ra rb = y at *
  generalize cmpN sa sb = z at *
  have Q1 := Lib.hid R1
  have Q2 := Lib.hid R2
  clear R1 R2
  have Q64 := Lib.hid q64
  have Q8 := Lib.hid q8
  have Q32 := Lib.hid q32
  have qo := fun g W => or_any x y z g W
  rw [← hr] at qo
  have QO := Lib.hid qo
  clear q64 q8 q32 qo hr
  go_region_held3 (fun w' => Gr w2 w') (first | assumption | exact (Gr.refl _).drew | exact Gr.alloc (by assumption) _)
    (first
      | (go_at_call 38; ((with_reducible refine (Q1.out _).mono ?_)); rintro e w3 ⟨rfl, hg3⟩; have hg4 := Gr.trans ‹Gr w2 _› hg3)
      | (go_at_call 38; ((with_reducible refine (Q2.out _).mono ?_)); rintro e w3 ⟨rfl, hg3⟩; have hg4 := Gr.trans ‹Gr w2 _› hg3)
      | (go_at_call 37; ((with_reducible refine (Q64.out _).mono ?_)); rintro e w3 ⟨rfl, rfl⟩)
      | (go_at_call 39; ((with_reducible refine (Q8.out _).mono ?_)); rintro e w3 ⟨rfl, rfl⟩)
      | (go_at_call 40; ((with_reducible refine (Q32.out _).mono ?_)); rintro e w3 ⟨rfl, rfl⟩)
      | (go_at_call 36; refine (QO.out _ _ (by simp) (by simp) (by simp)).mono ?_; rintro e w3 ⟨rfl, rfl⟩))
  all_goals
    have hgf := Gr.alloc ‹Gr w2 w3› (.cells #[.int .i64 x, .int .i64 y, .int .i64 z] 3)
    have HGF := Lib.hid (H0.out.trans hgf)
    clear hgf
    go_wp2
    go_ret
    exact ⟨rfl, HGF.out⟩

/-- What the closure says of two operations. -/
def cmpO (a b : O) : Int := if lessB a b = true then -1 else if lessB b a = true then 1 else 0
set_option maxHeartbeats 1000000 in
set_option maxRecDepth 100000 in
theorem cmp_any (a b : O) (ha : OkO a) (hb : OkO b) (w : World) :
    Calls Try.prog 30 #[.agg (opA a).toArray, .agg (opA b).toArray] w fun e w' => e = .returned (.int .i64 (cmpO a b)) ∧ Gr w w' := by
  have h2 : OpAt ((w.alloc (.cells (opA a).toArray 54)).alloc (.cells (opA b).toArray 54)) (w.heap.size + 1) b := by simpa using OpAt.new (w.alloc (.cells (opA a).toArray 54)) hb
  have h1 : OpAt ((w.alloc (.cells (opA a).toArray 54)).alloc (.cells (opA b).toArray 54)) w.heap.size a := (OpAt.new w ha).below ((Below.refl _ _).alloc (Nat.le_refl _) _)
  have H0 := Lib.hid (((Gr.refl w).alloc (.cells (opA a).toArray 54)).alloc (.cells (opA b).toArray 54))
  have H1 := Lib.hid h1
  have H2 := Lib.hid h2
  have Q1 := Lib.hid (fun W => less_any a b ha hb W)
  have Q2 := Lib.hid (fun W => less_any b a hb ha W)
  have hr : cmpO a b = if lessB a b = true then -1 else if lessB b a = true then 1 else 0 := rfl
  generalize cmpO a b = r at *
  generalize lessB a b = x at *
  generalize lessB b a = y at *
  clear ha hb h1 h2
  cases x
  · cases y
    all_goals
      simp only [if_true, if_false, Bool.false_eq_true] at hr
      subst hr
      go_enter Try.func30, Try.ntmps30
      go_wp2_with (first
        | (refine OpAt.load_list H1.out rfl (.tmp 2) rfl rfl ?_)
        | (refine OpAt.load_list H2.out rfl (.tmp 3) rfl rfl ?_))
      generalize (w.alloc (.cells (opA a).toArray 54)).alloc (.cells (opA b).toArray 54) = w2 at *
      refine (Q1.out _).mono ?_
      rintro e w3 ⟨rfl, hg3⟩
      have HG3 := Lib.hid (H0.out.trans hg3)
      have K1 := Lib.hid (H1.out.below hg3.below)
      have K2 := Lib.hid (H2.out.below hg3.below)
      clear hg3
      go_wp2_with (first
        | (refine OpAt.load_list K1.out rfl (.tmp 2) rfl rfl ?_)
        | (refine OpAt.load_list K2.out rfl (.tmp 3) rfl rfl ?_))
      refine (Q2.out _).mono ?_
      rintro e w4 ⟨rfl, hg4⟩
      have HG4 := Lib.hid (HG3.out.trans hg4)
      clear hg4
      go_wp2_with fail
      go_ret
      exact ⟨rfl, HG4.out⟩
  · simp only [if_true] at hr
    subst hr
    go_enter Try.func30, Try.ntmps30
    go_wp2_with (first
      | (refine OpAt.load_list H1.out rfl (.tmp 2) rfl rfl ?_)
      | (refine OpAt.load_list H2.out rfl (.tmp 3) rfl rfl ?_))
    generalize (w.alloc (.cells (opA a).toArray 54)).alloc (.cells (opA b).toArray 54) = w2 at *
    refine (Q1.out _).mono ?_
    rintro e w3 ⟨rfl, hg3⟩
    have HG3 := Lib.hid (H0.out.trans hg3)
    clear hg3
    go_wp2_with fail
    go_ret
    exact ⟨rfl, HG3.out⟩
end Go.Proofs.Ytkhjmegjnglkgaa.Vc
