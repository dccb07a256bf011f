/-
  Operations: how they lie; vec.Sum, op.Count, cmp.Compare, cmp.Or, op.Less and the reference's.
-/
import Derived.Test.YtkhjmegjnglkgaaVec
import Derived.Sort.Grow
namespace Go.Proofs.Ytkhjmegjnglkgaa.Vc
open Go.RowKit Go.Proofs.Ytkhjmegjnglkgaa.Wd
set_option linter.unusedVariables false

/-- The world has but grown: new blocks, and draws. -/
structure Gr (w w' : World) : Prop where
  below : Below w.heap.size w w'
  drawn : w.drawn ≤ w'.drawn
theorem Gr.refl (w : World) : Gr w w := ⟨Below.refl _ _, Nat.le_refl _⟩
theorem Gr.trans {a b c : World} (h : Gr a b) (h' : Gr b c) : Gr a c := ⟨h.below.trans (h'.below.mono h.below.size), Nat.le_trans h.drawn h'.drawn⟩
theorem Gr.alloc {a b : World} (h : Gr a b) (o : Obj) : Gr a (b.alloc o) := ⟨h.below.alloc h.below.size o, h.drawn⟩
theorem Gr.drewN {a b : World} (h : Gr a b) (n : Nat) : Gr a (b.drewN n) := ⟨drewN_below h.below n, Nat.le_trans h.drawn (Nat.le_add_right _ _)⟩
theorem Gr.drew {a b : World} (h : Gr a b) : Gr a b.drew := h.drewN 1
theorem Gr.grown {a b : World} (h : Gr a b) : ∃ q os, b = Sort.grow (a.drewN q) os := by
  refine ⟨b.drawn - a.drawn, b.heap.extract a.heap.size b.heap.size, ?_⟩
  have hh : b.heap = a.heap ++ b.heap.extract a.heap.size b.heap.size := by
    apply Array.ext_getElem?
    intro i
    by_cases hi : i < a.heap.size
    · rw [Array.getElem?_append_left hi]
      exact h.below.block i hi
    · rw [Array.getElem?_append_right (by omega), Array.getElem?_extract]
      have hs := h.below.size
      by_cases hi2 : i < b.heap.size
      · rw [if_pos (by omega)]
        congr 1
        omega
      · rw [if_neg (by omega), Array.getElem?_eq_none (by omega)]
  have hd := h.drawn
  cases b with
  | mk heap tape drawn os output =>
    have h1 := h.below.os
    have h2 := h.below.tape
    have h3 := h.below.output
    simp only at h1 h2 h3 hh hd ⊢
    subst h1 h2 h3
    unfold Sort.grow World.drewN
    congr 1
    show drawn = a.drawn + (drawn - a.drawn)
    omega

/-! ### Sums -/
def vsum : List Nat → Nat
  | [] => 0
  | x :: l => x + vsum l
theorem vsum_append (l m : List Nat) : vsum (l ++ m) = vsum l + vsum m := by
  induction l with
  | nil => simp [vsum]
  | cons x l ih => simp only [List.cons_append, vsum, ih]; omega
theorem vsum_snoc {l : List Nat} {k : Nat} (h : k < l.length) : vsum (l.take (k + 1)) = vsum (l.take k) + l.getD k 0 := by
  rw [List.take_add_one, List.getElem?_eq_getElem h, List.getD_eq_getElem?_getD, List.getElem?_eq_getElem h, vsum_append]
  simp [vsum]
theorem vsum_le : ∀ {l : List Nat}, (∀ x ∈ l, x ≤ 4294967295) → vsum l ≤ 4294967295 * l.length
  | [], _ => by simp [vsum]
  | x :: l, h => by
    have ih := vsum_le (l := l) fun c hc => h c (List.mem_cons_of_mem x hc)
    have hb := h x (by simp)
    rw [vsum, List.length_cons]
    omega

set_option maxHeartbeats 1000000 in
set_option maxRecDepth 100000 in
theorem sum_any (a : List Nat) (ha : IsVec a) (w : World) :
    Calls Try.prog 44 #[.agg (vecA a)] w fun e w' => e = .returned (.int .u64 ((vsum a : Nat) : Int)) ∧ Gr w w' := by
  have HA := Lib.hid ha
  have h1 := VecAt.new w ha
  have H1 := Lib.hid h1
  have H0 := Lib.hid ((Gr.refl w).alloc (.cells (vecA a) 24))
  clear ha h1
  go_enter Try.func44, Try.ntmps44
  go_wp2_with (refine VecAt.load_list H1.out rfl (.tmp 1) rfl rfl ?_)
  generalize w.alloc (.cells (vecA a) 24) = w2 at *
  go_loop [3, 7] (fun d i => ∃ k S : Nat, k ≤ 16 ∧ i = .int .i64 (k : Int) ∧ d = .int .u64 (S : Int) ∧ S ≤ 4294967295 * k ∧ Hid (S = vsum (a.take k))) (fun _ i => 16 - (intOf i).toNat)
  case atStart => exact ⟨0, 0, Nat.zero_le _, rfl, rfl, Nat.le_refl _, rfl⟩
  case round =>
    obtain ⟨k, S, hk, rfl, rfl, hS, HS⟩ := hrel
    by_cases hlt : k < 16
    · have hget := vec_index HA.out hlt
      have b1 := HA.out.at_ k
      have hsn := vsum_snoc (l := a) (k := k) (by rw [HA.out.len]; exact hlt)
      rw [← HS.out] at hsn
      obtain ⟨x, hx⟩ : ∃ x, x = a.getD k 0 := ⟨_, rfl⟩
      rw [← hx] at hget b1 hsn
      have HSN := Lib.hid hsn
      have wx : IntKind.u64.wrap (x : Int) = (x : Int) := by rw [IntKind.wrap_u64]; omega
      clear hx hsn
      go_wp2_with fail
      exact ⟨⟨k + 1, S + x, by omega, by go_num, by go_num, by omega, HSN.out.symm⟩, by simp [intOf]; omega⟩
    · have hkn : a.take k = a := List.take_of_length_le (by rw [HA.out.len]; omega)
      have hq := HS.out
      rw [hkn] at hq
      have HQ := Lib.hid hq
      clear hkn hq
      go_wp2_with fail
      go_ret
      exact ⟨by rw [← HQ.out]; rfl, H0.out⟩

set_option maxHeartbeats 1000000 in
set_option maxRecDepth 100000 in
theorem sumR_any (a : List Nat) (ha : IsVec a) (w : World) :
    Calls Try.prog 23 #[.agg (vecA a)] w fun e w' => e = .returned (.int .u64 ((vsum a : Nat) : Int)) ∧ Gr w w' := by
  have HA := Lib.hid ha
  have h1 := VecAt.new w ha
  have H1 := Lib.hid h1
  have H0 := Lib.hid ((Gr.refl w).alloc (.cells (vecA a) 24))
  clear ha h1
  go_enter Try.func23, Try.ntmps23
  go_wp2_with fail
  generalize w.alloc (.cells (vecA a) 24) = w2 at *
  go_loop [3, 4] (fun d i => ∃ k S : Nat, k ≤ 16 ∧ i = .int .i64 (k : Int) ∧ d = .int .u64 (S : Int) ∧ S ≤ 4294967295 * k ∧ Hid (S = vsum (a.take k))) (fun _ i => 16 - (intOf i).toNat)
  case atStart => exact ⟨0, 0, Nat.zero_le _, rfl, rfl, Nat.le_refl _, rfl⟩
  case round =>
    obtain ⟨k, S, hk, rfl, rfl, hS, HS⟩ := hrel
    by_cases hlt : k < 16
    · have hget := H1.out.cell hlt
      have b1 := HA.out.at_ k
      have hsn := vsum_snoc (l := a) (k := k) (by rw [HA.out.len]; exact hlt)
      rw [← HS.out] at hsn
      obtain ⟨x, hx⟩ : ∃ x, x = a.getD k 0 := ⟨_, rfl⟩
      rw [← hx] at hget b1 hsn
      have HSN := Lib.hid hsn
      have wx : IntKind.u64.wrap (x : Int) = (x : Int) := by rw [IntKind.wrap_u64]; omega
      have i0 : (0 : Int) ≤ (k : Int) := by omega
      have i1 : (k : Int) < 16 := by omega
      clear hx hsn
      go_wp2_with fail
      exact ⟨⟨k + 1, S + x, by omega, by go_num, by go_num, by omega, HSN.out.symm⟩, by simp [intOf]; omega⟩
    · have hkn : a.take k = a := List.take_of_length_le (by rw [HA.out.len]; omega)
      have hq := HS.out
      rw [hkn] at hq
      have HQ := Lib.hid hq
      clear hkn hq
      go_wp2_with fail
      go_ret
      exact ⟨by rw [← HQ.out]; rfl, H0.out⟩

/-! ### Operations -/
structure O where
  rep : Nat
  seq : Nat
  kind : Nat
  cart : Nat
  item : Nat
  qty : Nat
  tick : Nat
  ctx : List Nat
  deriving DecidableEq
structure OkO (o : O) : Prop where
  rep : o.rep ≤ 255
  seq : o.seq ≤ 4294967295
  kind : o.kind ≤ 255
  cart : o.cart ≤ 65535
  item : o.item ≤ 65535
  qty : o.qty ≤ 65535
  tick : o.tick ≤ 4294967295
  ctx : IsVec o.ctx
def opA (o : O) : List Value := [.int .u8 ((o.rep : Nat) : Int), .int .u32 ((o.seq : Nat) : Int), .int .u8 ((o.kind : Nat) : Int), .int .u16 ((o.cart : Nat) : Int), .int .u16 ((o.item : Nat) : Int), .int .u16 ((o.qty : Nat) : Int), .int .u32 ((o.tick : Nat) : Int)] ++
  o.ctx.map fun x => .int .u32 ((x : Nat) : Int)
theorem opA_length {o : O} (h : OkO o) : (opA o).length = 23 := by
  simp [opA, h.ctx.len]
/-- Such an operation in a variable of its own. -/
structure OpAt (w : World) (g : Nat) (o : O) : Prop where
  ok : OkO o
  row : w.heap[g]? = some (.cells (opA o).toArray 54 (0, 0))
theorem OpAt.lt {w : World} {g : Nat} {o : O} (h : OpAt w g o) : g < w.heap.size := (Array.getElem?_eq_some_iff.1 h.row).1
theorem OpAt.below {w w' : World} {g : Nat} {o : O} (h : OpAt w g o) (hb : Below w.heap.size w w') : OpAt w' g o := ⟨h.ok, by rw [hb.block g h.lt]; exact h.row⟩
theorem OpAt.new (w : World) {o : O} (h : OkO o) : OpAt (w.alloc (.cells (opA o).toArray 54)) w.heap.size o := ⟨h, heap_alloc_new w _⟩
theorem OpAt.cell {w : World} {g : Nat} {o : O} (h : OpAt w g o) (j : Nat) : w.cell? ⟨g, j, none⟩ = (opA o)[j]? := by
  rw [cell_of_row w g j _ _ _ h.row]
  simp
theorem OpAt.load_list {ops : Array Oper} {rest : List Oper} {o : Oper} {a : Act} {w : World} {Q : Exit → Act → World → Prop} {g : Nat} {x : O} (h : OpAt w g x) (hgd : o.guard = none) (t : Operand) (ho : o.op = .load 54 t)
    (hx : a.eval t = .pointer (some ⟨g, 0, none⟩)) (hk : wpList Try.prog ops Q rest (a.put o.dst (.agg (opA x).toArray)) w) : wpList Try.prog ops Q (o :: rest) a w :=
  wpList_load_row hgd 54 t ho g hx _ _ _ _ h.row Try.underlying54 rfl (by rw [List.size_toArray, opA_length h.ok]; kernel_rfl) hk
/-- .. at a step of a region that draws. -/
theorem OpAt.load_step {ops : Array Oper} {o : Oper} {a : Act} {w : World} {K : Act → World → Prop} {Q : Exit → Act → World → Prop} {E : Prop} {g : Nat} {x : O} (h : OpAt w g x) (hgd : o.guard = none) (t : Operand) (ho : o.op = .load 54 t)
    (hx : a.eval t = .pointer (some ⟨g, 0, none⟩)) (hk : K (a.put o.dst (.agg (opA x).toArray)) w) : if Region.wanted o (yielded ops a.tmps) = true then Oper.wp Try.prog o a w K Q else E := by
  have hw : Region.wanted o (yielded ops a.tmps) = true := by simp [Region.wanted, hgd]
  rw [if_pos hw]
  exact wp_load_row 54 t ho g hx _ _ _ _ h.row Try.underlying54 rfl (by rw [List.size_toArray, opA_length h.ok]; kernel_rfl) hk
/-- The context, as a part of the variable. -/
theorem OpAt.load_ctx {ops : Array Oper} {rest : List Oper} {o : Oper} {a : Act} {w : World} {Q : Exit → Act → World → Prop} {g : Nat} {x : O} (h : OpAt w g x) (hgd : o.guard = none) (t : Operand) (ho : o.op = .load 24 t)
    (hx : a.eval t = .pointer (some ⟨g, 7, none⟩)) (hk : wpList Try.prog ops Q rest (a.put o.dst (.agg (vecA x.ctx))) w) : wpList Try.prog ops Q (o :: rest) a w := by
  refine wpList_plain hgd fun _ hK => ?_
  have hl : (loadCells ⟨g, 7, none⟩ 16).run Try.prog w = .ok (vecA x.ctx) w := by
    have := run_loadCells_list (P := Try.prog) w ⟨g, 7, none⟩ (vecA x.ctx).toList (fun j v hv => by
      have hadd : (⟨g, 7, none⟩ : Addr).add j = ⟨g, 7 + j, none⟩ := by unfold Addr.add; split <;> simp_all
      rw [hadd, h.cell, ← hv]
      unfold opA vecA
      rw [List.getElem?_append_right (by simp)]
      simp)
    rw [show (vecA x.ctx).toList.length = 16 by simp [vecA, h.ok.ctx.len]] at this
    simpa using this
  have hagg : (isAgg 24).run Try.prog w = .ok true w := by
    unfold isAgg
    rw [Sem.run_bind, run_underlying Try.underlying24 w]
    simp
  obtain ⟨i, hi⟩ := info_of_underlying Try.underlying24
  have hsz : i.size = 16 := by
    have h2 : (Try.prog.info? 24).map (·.size) = some 16 := by kernel_rfl
    rw [hi] at h2
    simpa using h2
  have hv : (ldK 24 ⟨g, 7, none⟩).run Try.prog w = .ok (.agg (vecA x.ctx)) w := by
    simp [ldK, loadVar, Sem.run_bind, hagg, sizeOf, typeInfo, hi, hsz, hl]
  unfold Oper.wp execOp
  simp only [ho, hx, Instr.loadAt, Instr.sureAddr, Sem.run_bind, Sem.run_pure, Result.andThen_ok, ldKx, hv]
  exact hK _ _ hk

/-- How far an operation stands. -/
def cnt (o : O) : Nat := vsum o.ctx + 1

set_option maxHeartbeats 1000000 in
set_option maxRecDepth 100000 in
theorem count_any (o : O) (ho : OkO o) (w : World) :
    Calls Try.prog 38 #[.agg (opA o).toArray] w fun e w' => e = .returned (.int .u64 ((cnt o : Nat) : Int)) ∧ Gr w w' := by
  have H1 := Lib.hid (OpAt.new w ho)
  have H0 := Lib.hid ((Gr.refl w).alloc (.cells (opA o).toArray 54))
  have hq := fun W => sum_any o.ctx ho.ctx W
  have hl := vsum_le ho.ctx.small
  rw [ho.ctx.len] at hl
  obtain ⟨S, hS⟩ : ∃ S, S = vsum o.ctx := ⟨_, rfl⟩
  have hcn : cnt o = S + 1 := by rw [hS]; rfl
  rw [← hS] at hq hl
  rw [hcn]
  have HQ := Lib.hid hq
  clear ho hq hS
  go_enter Try.func38, Try.ntmps38
  go_wp2_with (refine OpAt.load_ctx H1.out rfl (.tmp 3) rfl rfl ?_)
  generalize w.alloc (.cells (opA o).toArray 54) = w2 at *
  refine (HQ.out _).mono ?_
  rintro e w3 ⟨rfl, hg⟩
  have HG := Lib.hid (H0.out.trans hg)
  clear hg
  go_wp2_with fail
  go_ret
  exact ⟨rfl, HG.out⟩
set_option maxHeartbeats 1000000 in
set_option maxRecDepth 100000 in
theorem countR_any (o : O) (ho : OkO o) (w : World) :
    Calls Try.prog 32 #[.agg (opA o).toArray] w fun e w' => e = .returned (.int .u64 ((cnt o : Nat) : Int)) ∧ Gr w w' := by
  have H1 := Lib.hid (OpAt.new w ho)
  have H0 := Lib.hid ((Gr.refl w).alloc (.cells (opA o).toArray 54))
  have hq := fun W => sumR_any o.ctx ho.ctx W
  have hl := vsum_le ho.ctx.small
  rw [ho.ctx.len] at hl
  obtain ⟨S, hS⟩ : ∃ S, S = vsum o.ctx := ⟨_, rfl⟩
  have hcn : cnt o = S + 1 := by rw [hS]; rfl
  rw [← hS] at hq hl
  rw [hcn]
  have HQ := Lib.hid hq
  clear ho hq hS
  go_enter Try.func32, Try.ntmps32
  go_wp2_with (refine OpAt.load_ctx H1.out rfl (.tmp 3) rfl rfl ?_)
  generalize w.alloc (.cells (opA o).toArray 54) = w2 at *
  refine (HQ.out _).mono ?_
  rintro e w3 ⟨rfl, hg⟩
  have HG := Lib.hid (H0.out.trans hg)
  clear hg
  go_wp2_with fail
  go_ret
  exact ⟨rfl, HG.out⟩
end Go.Proofs.Ytkhjmegjnglkgaa.Vc
