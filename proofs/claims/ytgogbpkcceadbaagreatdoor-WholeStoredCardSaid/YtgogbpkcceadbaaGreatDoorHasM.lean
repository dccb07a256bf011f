/-
  vec.Has and the reference's Has.
  The reference's Has.
  Steps of a region that draws its order, taken by hand: the load of a vector, a call, the rest.
-/
import Derived.Test.YtgogbpkcceadbaaGreatDoorOpW
import Derived.Shelf.SlSortCmp.QuietGrown
import Derived.Test.YtgogbpkcceadbaaGreatDoorVecM
import Derived.Deep.RegionHeld3
namespace Go.Proofs.YtgogbpkcceadbaaGreatDoor.Vc
open Go.RowKit Go.Proofs.YtgogbpkcceadbaaGreatDoor.Wd
set_option linter.unusedVariables false

/-- A callee that but grows, in a world of the class. -/
theorem grown_gr {f : FuncId} {args : Array Value} {w : World} {n : Nat} {os : Array Obj} {v : Value}
    (h : Calls Tryz.prog f args (Sort.grow (w.drewN n) os) fun e w' => e = .returned v ∧ Gr (Sort.grow (w.drewN n) os) w') : Calls Tryz.prog f args (Sort.grow (w.drewN n) os) fun e w'' => e = .returned v ∧ ∃ p : GrownBy, w'' = Sort.grow (w.drewN p.n) p.os :=
  Calls.grown_of (h.mono fun _ _ ⟨he, hg⟩ => ⟨he, hg.grown⟩)
theorem gr_grow (w : World) (n : Nat) (os : Array Obj) : Gr w (Sort.grow (w.drewN n) os) := by
  refine ⟨⟨rfl, rfl, rfl, ?_, fun i hi => ?_⟩, Nat.le_add_right _ _⟩
  · show w.heap.size ≤ (w.heap ++ os).size
    simp
  · show (w.heap ++ os)[i]? = w.heap[i]?
    rw [Array.getElem?_append_left hi]
theorem mix : Tryz.prog.follows .mixedOrders = true := by kernel_rfl
def dotB (r s : Nat) : Bool := decide (r < 16 ∧ 1 ≤ s ∧ s ≤ 1048576)
def hasB (v : List Nat) (r s : Nat) : Bool := decide ((r < 16 ∧ 1 ≤ s ∧ s ≤ 1048576) ∧ s ≤ v.getD r 0)

theorem dot_any (r s : Nat) (hr : r ≤ 255) (hs : s ≤ 4294967295) (w : World) :
    Calls Tryz.prog 80 #[.agg #[.int .u8 (r : Int), .int .u32 (s : Int)]] w fun e w' => e = .returned (.bool (dotB r s)) ∧ Gr w w' := by
  have H0 := Lib.hid ((Gr.refl w).alloc (.cells #[.int .u8 (r : Int), .int .u32 (s : Int)] 30))
  have hc : (r < 16 ∧ 1 ≤ s ∧ s ≤ 1048576) ∨ (¬ r < 16) ∨ (r < 16 ∧ ¬ 1 ≤ s) ∨ (r < 16 ∧ 1 ≤ s ∧ ¬ s ≤ 1048576) := by omega
  rcases hc with hc | hc | hc | hc
  all_goals
    first
      | (have hd : dotB r s = true := by unfold dotB; simp only [decide_eq_true_eq]; omega)
      | (have hd : dotB r s = false := by unfold dotB; simp only [decide_eq_false_iff_not]; omega)
    rw [hd]
    clear hd
    try obtain ⟨h1, h2, h3⟩ := hc
    try obtain ⟨h1, h2⟩ := hc
    go_enter Tryz.func80, Tryz.ntmps80
    go_wp2_with fail
    go_ret
    refine ⟨?_, H0.out⟩
    first
      | rfl
      | exact congrArg Ending.returned (congrArg Value.bool (decide_eq_true (by omega)))
      | exact congrArg Ending.returned (congrArg Value.bool (decide_eq_false (by omega)))
theorem dotR_any (r s : Nat) (hr : r ≤ 255) (hs : s ≤ 4294967295) (w : World) :
    Calls Tryz.prog 32 #[.agg #[.int .u8 (r : Int), .int .u32 (s : Int)]] w fun e w' => e = .returned (.bool (dotB r s)) ∧ Gr w w' := by
  have H0 := Lib.hid ((Gr.refl w).alloc (.cells #[.int .u8 (r : Int), .int .u32 (s : Int)] 30))
  have hc : (r < 16 ∧ 1 ≤ s ∧ s ≤ 1048576) ∨ (¬ r < 16) ∨ (r < 16 ∧ ¬ 1 ≤ s) ∨ (r < 16 ∧ 1 ≤ s ∧ ¬ s ≤ 1048576) := by omega
  rcases hc with hc | hc | hc | hc
  all_goals
    first
      | (have hd : dotB r s = true := by unfold dotB; simp only [decide_eq_true_eq]; omega)
      | (have hd : dotB r s = false := by unfold dotB; simp only [decide_eq_false_iff_not]; omega)
    rw [hd]
    clear hd
    try obtain ⟨h1, h2, h3⟩ := hc
    try obtain ⟨h1, h2⟩ := hc
    go_enter Tryz.func32, Tryz.ntmps32
    go_wp2_with fail
    go_ret
    refine ⟨?_, H0.out⟩
    first
      | rfl
      | exact congrArg Ending.returned (congrArg Value.bool (decide_eq_true (by omega)))
      | exact congrArg Ending.returned (congrArg Value.bool (decide_eq_false (by omega)))

set_option maxHeartbeats 1000000 in
set_option maxRecDepth 100000 in
theorem has_any (v : List Nat) (r s : Nat) (hv : IsVec v) (hr : r ≤ 255) (hs : s ≤ 4294967295) (w : World) :
    Calls Tryz.prog 64 #[.agg (vecA v), .agg #[.int .u8 (r : Int), .int .u32 (s : Int)]] w fun e w' => e = .returned (.bool (hasB v r s)) ∧ Gr w w' := by
  have h1 : VecAt ((w.alloc (.cells (vecA v) 32)).alloc (.cells #[.int .u8 (r : Int), .int .u32 (s : Int)] 30)) w.heap.size v := (VecAt.new w hv).below ((Below.refl _ _).alloc (Nat.le_refl _) _)
  have H1 := Lib.hid h1
  have H0 := Lib.hid (((Gr.refl w).alloc (.cells (vecA v) 32)).alloc (.cells #[.int .u8 (r : Int), .int .u32 (s : Int)] 30))
  have hrow : ((w.alloc (.cells (vecA v) 32)).alloc (.cells #[.int .u8 (r : Int), .int .u32 (s : Int)] 30)).heap[w.heap.size + 1]? = some (.cells #[.int .u8 (r : Int), .int .u32 (s : Int)] 30 (0, 0)) := by simpa using heap_alloc_new (w.alloc (.cells (vecA v) 32)) (.cells #[.int .u8 (r : Int), .int .u32 (s : Int)] 30)
  have HROW := Lib.hid hrow
  have q := fun W => dot_any r s hr hs W
  have hvs := hv.at_ r
  clear h1 hrow
  by_cases hd : r < 16 ∧ 1 ≤ s ∧ s ≤ 1048576
  · have hdb : dotB r s = true := by unfold dotB; simpa using hd
    have hhb : hasB v r s = decide (s ≤ v.getD r 0) := by unfold hasB; rw [decide_eq_decide]; exact ⟨fun h => h.2, fun h => ⟨hd, h⟩⟩
    rw [hdb] at q
    rw [hhb]
    obtain ⟨x, hx⟩ : ∃ x, x = v.getD r 0 := ⟨_, rfl⟩
    rw [← hx]
    have HX := Lib.hid hx
    have Q := Lib.hid q
    obtain ⟨hr16, hs1, hs2⟩ := hd
    have i0 : (0 : Int) ≤ (r : Int) := by omega
    have i1 : (r : Int) < 16 := by omega
    clear q hx hdb hhb
    go_enter Tryz.func64, Tryz.ntmps64
    go_wp2_with fail
    generalize (w.alloc (.cells (vecA v) 32)).alloc (.cells #[.int .u8 (r : Int), .int .u32 (s : Int)] 30) = w2 at *
    have hb2 : ∀ W, Gr w2 W → W.heap[w.heap.size + 1]? = some (.cells #[.int .u8 (r : Int), .int .u32 (s : Int)] 30 (0, 0)) := fun W hW => by
      rw [hW.below.block _ (Array.getElem?_eq_some_iff.1 HROW.out).1]
      exact HROW.out
    have c0 : ∀ W, Gr w2 W → W.cell? ⟨w.heap.size + 1, 0, none⟩ = some (.int .u8 (r : Int)) := fun W hW => by rw [cell_of_row W _ 0 _ _ _ (hb2 W hW)]; rfl
    have c1 : ∀ W, Gr w2 W → W.cell? ⟨w.heap.size + 1, 1, none⟩ = some (.int .u32 (s : Int)) := fun W hW => by rw [cell_of_row W _ 1 _ _ _ (hb2 W hW)]; rfl
    have c2 : ∀ W, Gr w2 W → W.cell? ⟨w.heap.size, r, none⟩ = some (.int .u32 (x : Int)) := fun W hW => by rw [HX.out]; exact (H1.out.below hW.below).cell hr16
    clear hb2
    have g0 := fun n os => c0 _ (gr_grow w2 n os)
    have g1 := fun n os => c1 _ (gr_grow w2 n os)
    have g2 := fun n os => c2 _ (gr_grow w2 n os)
    clear c0 c1 c2
    have hmix := mix
    go_quiet_grown (first | (go_at_call 80; exact grown_gr (Q.out _)))
    all_goals
      have HGF := Lib.hid (H0.out.trans (gr_grow w2 nq osq))
      go_wp2
      go_ret
      refine ⟨?_, HGF.out⟩
      first
        | rfl
        | exact congrArg Ending.returned (congrArg Value.bool (by rw [decide_eq_decide]; omega))
  · have hdb : dotB r s = false := by unfold dotB; simpa using hd
    have hhb : hasB v r s = false := by unfold hasB; rw [decide_eq_false_iff_not]; exact fun h => hd h.1
    rw [hdb] at q
    rw [hhb]
    have Q := Lib.hid q
    clear q hdb hhb hd
    go_enter Tryz.func64, Tryz.ntmps64
    go_wp2_with fail
    generalize (w.alloc (.cells (vecA v) 32)).alloc (.cells #[.int .u8 (r : Int), .int .u32 (s : Int)] 30) = w2 at *
    have hb2 : ∀ W, Gr w2 W → W.heap[w.heap.size + 1]? = some (.cells #[.int .u8 (r : Int), .int .u32 (s : Int)] 30 (0, 0)) := fun W hW => by
      rw [hW.below.block _ (Array.getElem?_eq_some_iff.1 HROW.out).1]
      exact HROW.out
    have c0 : ∀ W, Gr w2 W → W.cell? ⟨w.heap.size + 1, 0, none⟩ = some (.int .u8 (r : Int)) := fun W hW => by rw [cell_of_row W _ 0 _ _ _ (hb2 W hW)]; rfl
    have c1 : ∀ W, Gr w2 W → W.cell? ⟨w.heap.size + 1, 1, none⟩ = some (.int .u32 (s : Int)) := fun W hW => by rw [cell_of_row W _ 1 _ _ _ (hb2 W hW)]; rfl
    clear hb2
    have g0 := fun n os => c0 _ (gr_grow w2 n os)
    have g1 := fun n os => c1 _ (gr_grow w2 n os)
    clear c0 c1
    have hmix := mix
    go_quiet_grown (first | (go_at_call 80; exact grown_gr (Q.out _)))
    all_goals
      have HGF := Lib.hid (H0.out.trans (gr_grow w2 nq osq))
      go_wp2
      go_ret
      refine ⟨?_, HGF.out⟩
      first
        | rfl
        | exact congrArg Ending.returned (congrArg Value.bool (by rw [decide_eq_decide]; omega))
end Go.Proofs.YtgogbpkcceadbaaGreatDoor.Vc
namespace Go.Proofs.YtgogbpkcceadbaaGreatDoor.Vc
open Go.RowKit Go.Proofs.YtgogbpkcceadbaaGreatDoor.Wd
set_option linter.unusedVariables false

set_option maxHeartbeats 1000000 in
set_option maxRecDepth 100000 in
theorem hasR_any (v : List Nat) (r s : Nat) (hv : IsVec v) (hr : r ≤ 255) (hs : s ≤ 4294967295) (w : World) :
    Calls Tryz.prog 15 #[.agg (vecA v), .agg #[.int .u8 (r : Int), .int .u32 (s : Int)]] w fun e w' => e = .returned (.bool (hasB v r s)) ∧ Gr w w' := by
  have h1 : VecAt ((w.alloc (.cells (vecA v) 32)).alloc (.cells #[.int .u8 (r : Int), .int .u32 (s : Int)] 30)) w.heap.size v := (VecAt.new w hv).below ((Below.refl _ _).alloc (Nat.le_refl _) _)
  have H1 := Lib.hid h1
  have H0 := Lib.hid (((Gr.refl w).alloc (.cells (vecA v) 32)).alloc (.cells #[.int .u8 (r : Int), .int .u32 (s : Int)] 30))
  have hrow : ((w.alloc (.cells (vecA v) 32)).alloc (.cells #[.int .u8 (r : Int), .int .u32 (s : Int)] 30)).heap[w.heap.size + 1]? = some (.cells #[.int .u8 (r : Int), .int .u32 (s : Int)] 30 (0, 0)) := by simpa using heap_alloc_new (w.alloc (.cells (vecA v) 32)) (.cells #[.int .u8 (r : Int), .int .u32 (s : Int)] 30)
  have HROW := Lib.hid hrow
  have q := fun W => dotR_any r s hr hs W
  have hvs := hv.at_ r
  clear h1 hrow
  by_cases hd : r < 16 ∧ 1 ≤ s ∧ s ≤ 1048576
  · have hdb : dotB r s = true := by unfold dotB; simpa using hd
    have hhb : hasB v r s = decide (s ≤ v.getD r 0) := by unfold hasB; rw [decide_eq_decide]; exact ⟨fun h => h.2, fun h => ⟨hd, h⟩⟩
    rw [hdb] at q
    rw [hhb]
    obtain ⟨x, hx⟩ : ∃ x, x = v.getD r 0 := ⟨_, rfl⟩
    rw [← hx]
    have HX := Lib.hid hx
    have Q := Lib.hid q
    obtain ⟨hr16, hs1, hs2⟩ := hd
    have i0 : (0 : Int) ≤ (r : Int) := by omega
    have i1 : (r : Int) < 16 := by omega
    clear q hx hdb hhb
    go_enter Tryz.func15, Tryz.ntmps15
    go_wp2_with fail
    generalize (w.alloc (.cells (vecA v) 32)).alloc (.cells #[.int .u8 (r : Int), .int .u32 (s : Int)] 30) = w2 at *
    have hb2 : ∀ W, Gr w2 W → W.heap[w.heap.size + 1]? = some (.cells #[.int .u8 (r : Int), .int .u32 (s : Int)] 30 (0, 0)) := fun W hW => by
      rw [hW.below.block _ (Array.getElem?_eq_some_iff.1 HROW.out).1]
      exact HROW.out
    have c0 : ∀ W, Gr w2 W → W.cell? ⟨w.heap.size + 1, 0, none⟩ = some (.int .u8 (r : Int)) := fun W hW => by rw [cell_of_row W _ 0 _ _ _ (hb2 W hW)]; rfl
    have c1 : ∀ W, Gr w2 W → W.cell? ⟨w.heap.size + 1, 1, none⟩ = some (.int .u32 (s : Int)) := fun W hW => by rw [cell_of_row W _ 1 _ _ _ (hb2 W hW)]; rfl
    have c2 : ∀ W, Gr w2 W → W.cell? ⟨w.heap.size, r, none⟩ = some (.int .u32 (x : Int)) := fun W hW => by rw [HX.out]; exact (H1.out.below hW.below).cell hr16
    clear hb2
    have g0 := fun n os => c0 _ (gr_grow w2 n os)
    have g1 := fun n os => c1 _ (gr_grow w2 n os)
    have g2 := fun n os => c2 _ (gr_grow w2 n os)
    clear c0 c1 c2
    have hmix := mix
    go_quiet_grown (first | (go_at_call 32; exact grown_gr (Q.out _)))
    all_goals
      have HGF := Lib.hid (H0.out.trans (gr_grow w2 nq osq))
      go_wp2
      go_ret
      refine ⟨?_, HGF.out⟩
      first
        | rfl
        | exact congrArg Ending.returned (congrArg Value.bool (by rw [decide_eq_decide]; omega))
  · have hdb : dotB r s = false := by unfold dotB; simpa using hd
    have hhb : hasB v r s = false := by unfold hasB; rw [decide_eq_false_iff_not]; exact fun h => hd h.1
    rw [hdb] at q
    rw [hhb]
    have Q := Lib.hid q
    clear q hdb hhb hd
    go_enter Tryz.func15, Tryz.ntmps15
    go_wp2_with fail
    generalize (w.alloc (.cells (vecA v) 32)).alloc (.cells #[.int .u8 (r : Int), .int .u32 (s : Int)] 30) = w2 at *
    have hb2 : ∀ W, Gr w2 W → W.heap[w.heap.size + 1]? = some (.cells #[.int .u8 (r : Int), .int .u32 (s : Int)] 30 (0, 0)) := fun W hW => by
      rw [hW.below.block _ (Array.getElem?_eq_some_iff.1 HROW.out).1]
      exact HROW.out
    have c0 : ∀ W, Gr w2 W → W.cell? ⟨w.heap.size + 1, 0, none⟩ = some (.int .u8 (r : Int)) := fun W hW => by rw [cell_of_row W _ 0 _ _ _ (hb2 W hW)]; rfl
    have c1 : ∀ W, Gr w2 W → W.cell? ⟨w.heap.size + 1, 1, none⟩ = some (.int .u32 (s : Int)) := fun W hW => by rw [cell_of_row W _ 1 _ _ _ (hb2 W hW)]; rfl
    clear hb2
    have g0 := fun n os => c0 _ (gr_grow w2 n os)
    have g1 := fun n os => c1 _ (gr_grow w2 n os)
    clear c0 c1
    have hmix := mix
    go_quiet_grown (first | (go_at_call 32; exact grown_gr (Q.out _)))
    all_goals
      have HGF := Lib.hid (H0.out.trans (gr_grow w2 nq osq))
      go_wp2
      go_ret
      refine ⟨?_, HGF.out⟩
      first
        | rfl
        | exact congrArg Ending.returned (congrArg Value.bool (by rw [decide_eq_decide]; omega))
end Go.Proofs.YtgogbpkcceadbaaGreatDoor.Vc
namespace Go.Proofs.YtgogbpkcceadbaaGreatDoor.Vc
open Go.RowKit Go.Proofs.YtgogbpkcceadbaaGreatDoor.Wd
set_option linter.unusedVariables false

theorem yields_vec {ops : Array Oper} {S : World → Prop} {op : Oper} {a : Act} (hgd : op.guard = none) (x : Operand) (ho : op.op = .load 32 x) (g : Nat) (hx : a.eval x = .pointer (some ⟨g, 0, none⟩)) (xs : List Nat)
    (hS : ∀ w, S w → VecAt w g xs) : YieldsIf Tryz.prog ops S op (.agg (vecA xs)) a := by
  refine .inl ⟨by simp [Region.wanted, hgd], fun w hw => ?_⟩
  unfold execOp
  simp only [ho, hx, Instr.loadAt, Instr.sureAddr, Sem.run_bind, Sem.run_pure, Result.andThen_ok, ldKx, (hS w hw).load]
theorem yields_vecG {ops : Array Oper} {S : World → Prop} {op : Oper} {a : Act} (hw : Region.wanted op (yielded ops a.tmps) = true) (x : Operand) (ho : op.op = .load 32 x) (g : Nat) (hx : a.eval x = .pointer (some ⟨g, 0, none⟩)) (xs : List Nat)
    (hS : ∀ w, S w → VecAt w g xs) : YieldsIf Tryz.prog ops S op (.agg (vecA xs)) a := by
  refine .inl ⟨hw, fun w hw => ?_⟩
  unfold execOp
  simp only [ho, hx, Instr.loadAt, Instr.sureAddr, Sem.run_bind, Sem.run_pure, Result.andThen_ok, ldKx, (hS w hw).load]
theorem yields_load {ops : Array Oper} {S : World → Prop} {op : Oper} {a : Act} (ty : TypeId) (hw : Region.wanted op (yielded ops a.tmps) = true) (x : Operand) (ho : op.op = .load ty x) (ad : Addr) (hx : a.eval x = .pointer (some ad)) (v : Value)
    (hl : ∀ w, S w → (ldK ty ad).run Tryz.prog w = .ok v w) : YieldsIf Tryz.prog ops S op v a := by
  refine .inl ⟨hw, fun w hw => ?_⟩
  unfold execOp
  simp only [ho, hx, Instr.loadAt, Instr.sureAddr, Sem.run_bind, Sem.run_pure, Result.andThen_ok, ldKx, hl w hw]
theorem held_take {md : Region.Mode} {ops : Array Oper} {Q : Exit → Act → World → Prop} {S : World → Prop} {i fuel : Nat} {listed : Array Bool} {a : Act} {w : World} {oi : Oper} (d : Option Tmp) (v : Value) (hi : ops[i]? = some oi) (hd : oi.dst = d)
    (hs : Region.noSelect ops = true) (hf : Region.free md ops listed i = true) (hr : (Region.ready md ops listed).contains i = true) (hQ : ∀ c a w, Q (.panic c) (a.put d v) w → Q (.panic c) a w) (hy : YieldsIf Tryz.prog ops S oi v a) (hS : S w)
    (h : wpAnyH Tryz.prog md ops Q S fuel (listed.setIfInBounds i true) (a.put d v) w) : wpAnyH Tryz.prog md ops Q S (fuel + 1) listed a w := by
  subst hd
  exact wpAnyH_take hi hs hf hr hQ hy hS h
end Go.Proofs.YtgogbpkcceadbaaGreatDoor.Vc
