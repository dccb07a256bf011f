/-
  slices.IndexFunc and slices.DeleteFunc at operations, whole.
-/
import Derived.Test.YtkhjmegjnglkgaaSwapR
import Derived.Test.YtkhjmegjnglkgaaPick
import Derived.Lib.SlKept
namespace Go.Proofs.Ytkhjmegjnglkgaa.Vc
open Go.RowKit Go.Proofs.Ytkhjmegjnglkgaa.Wd Go.Sort Go.Proofs Go.Lib
set_option linter.unusedVariables false

/-- Is an operation had? -/
def hadB (v : List Nat) (x : OpN) : Bool := hasB v x.1.rep x.1.seq
/-- The first one that is had. -/
def fidx (v : List Nat) : List OpN → Nat
  | [] => 0
  | x :: l => if hadB v x then 0 else fidx v l + 1
theorem fidx_le (v : List Nat) : ∀ l, fidx v l ≤ l.length
  | [] => Nat.le_refl _
  | x :: l => by
    have := fidx_le v l
    unfold fidx
    split <;> simp <;> omega
theorem fidx_before {v : List Nat} : ∀ {l : List OpN} {j : Nat} {x : OpN}, l[j]? = some x → j < fidx v l → hadB v x = false
  | [], _, _, h, _ => by simp at h
  | y :: l, 0, x, h, hj => by
    simp only [List.getElem?_cons_zero, Option.some.injEq] at h
    subst h
    unfold fidx at hj
    cases e : hadB v y with
    | false => rfl
    | true => rw [if_pos e] at hj; omega
  | y :: l, j + 1, x, h, hj => by
    unfold fidx at hj
    split at hj
    · omega
    · exact fidx_before (l := l) (j := j) (by simpa using h) (by omega)
theorem fidx_at {v : List Nat} : ∀ {l : List OpN} {x : OpN}, l[fidx v l]? = some x → hadB v x = true
  | [], _, h => by simp at h
  | y :: l, x, h => by
    unfold fidx at h
    split at h
    · simp only [List.getElem?_cons_zero, Option.some.injEq] at h
      subst h
      assumption
    · exact fidx_at (l := l) (by simpa using h)
theorem fidx_none {v : List Nat} {l : List OpN} (h : fidx v l = l.length) : ∀ x ∈ l, hadB v x = false := fun x hx => by
  obtain ⟨i, hi, rfl⟩ := List.getElem_of_mem hx
  exact fidx_before (List.getElem?_eq_getElem hi) (by omega)

theorem grown_swk {w0 w : World} {blk off : Nat} {d : Array OpN} (S : SW w0 blk off d w) : w0.grownBy w (some blk) := by
  obtain ⟨n, os, rfl⟩ := S
  unfold sortWorldK putRowK putRow mapBlock grow Go.Sort.ahead
  refine ⟨rfl, rfl, rfl, by simp, fun k hk hne => ?_⟩
  have hne' : k ≠ blk := fun e => hne (by rw [e])
  show ((w0.heap.modify blk _) ++ os)[k]? = w0.heap[k]?
  rw [Array.getElem?_append_left (by simpa using hk), Array.getElem?_modify, if_neg (Ne.symm hne')]
theorem setMany_set (d : Array OpN) (i : Nat) (x : OpN) (hi : i < d.size) : setMany (flatK encO 23 d) (i * 23) (encO x) = flatK encO 23 (d.setIfInBounds i x) := by
  refine ext_get! (by simp) fun t ht => ?_
  have ht' : t < d.size * 23 := by simpa using ht
  rw [get_setMany _ _ _ t (by simpa using ht'), get_flatK _ _ _ t ht', get_flatK _ _ _ t (by simpa using ht'), encO_length]
  by_cases a : t / 23 = i
  · rw [if_pos (by omega), a, getElem!_set_same d i x hi]
    congr 1
    omega
  · rw [if_neg (by omega), getElem!_set_other d i _ x a]
theorem swk_set {w0 w : World} {blk off : Nat} {d : Array OpN} (S : SW w0 blk off d w) (hblk : blk < w0.heap.size) (i : Nat) (x : OpN) (hi : i < d.size) : SW w0 blk off (d.setIfInBounds i x) (w.setCells blk (off + i * 23) (encO x)) := by
  obtain ⟨n, os, rfl⟩ := S
  refine ⟨n, os, ?_⟩
  unfold sortWorldK
  rw [setCells_grow os blk _ _ _ (by rw [size_putRowK]; exact hblk)]
  congr 1
  unfold putRowK
  rw [setCells_putRow _ _ _ _ _ _ (by rw [encO_length, size_flatK]; have := rowK_bnd d 23 i hi; omega), setMany_set d i x hi]
theorem setCells_grown (b : Nat) : ∀ (vs : List Value) (o : Nat) (w : World), w.grownBy (w.setCells b o vs) (some b)
  | [], _, w => ⟨rfl, rfl, rfl, Nat.le_refl _, fun _ _ _ => rfl⟩
  | v :: r, o, w => by
    have h := setCells_grown b r (o + 1) (w.setCell ⟨b, o, none⟩ v)
    have h1 : w.grownBy (w.setCell ⟨b, o, none⟩ v) (some b) := by
      refine ⟨rfl, rfl, rfl, by simp, fun k hk hne => ?_⟩
      have hne' : k ≠ b := fun e => hne (by rw [e])
      simp [World.setCell, Array.getElem?_modify, Ne.symm hne']
    unfold World.setCells
    exact ⟨h.os.trans h1.os, h.tape.trans h1.tape, h.output.trans h1.output, Nat.le_trans h1.size h.size, fun k hk hne => (h.block k (Nat.lt_of_lt_of_le hk h1.size) hne).trans (h1.block k hk hne)⟩
theorem grownBy_trans {a b c : World} {r : Option Nat} (h1 : a.grownBy b r) (h2 : b.grownBy c r) : a.grownBy c r :=
  ⟨h2.os.trans h1.os, h2.tape.trans h1.tape, h2.output.trans h1.output, Nat.le_trans h1.size h2.size, fun k hk hne => (h2.block k (Nat.lt_of_lt_of_le hk h1.size) hne).trans (h1.block k hk hne)⟩

/-! ### clear -/
theorem zero_op (W : World) : (zeroValue 54).run Try.prog W = .ok (.agg (opA zeroOp).toArray) W := by
  obtain ⟨i, hi, hz0, _, _⟩ := info_parts infoO
  simp [zeroValue, typeInfo, hi, hz0]
theorem zeroCells_ok (n : Nat) : (Builtin.zeroCells (opA zeroOp).toArray n).toList.length = n * 23 ∧ ∀ u ∈ (Builtin.zeroCells (opA zeroOp).toArray n).toList, u.oneCell' = true := by
  have hs : (opA zeroOp).toArray.size = 23 := by rw [List.size_toArray]; exact opA_length okZero
  refine ⟨by unfold Builtin.zeroCells; simp [hs], fun u hu => ?_⟩
  unfold Builtin.zeroCells at hu
  rw [Array.toList_map] at hu
  obtain ⟨i, hi, rfl⟩ := List.mem_map.1 hu
  rw [hs]
  have hlt : i % 23 < (opA zeroOp).toArray.size := by rw [hs]; omega
  rw [getElem!_pos (opA zeroOp).toArray (i % 23) hlt]
  exact encO_one ⟨zeroOp, okZero⟩ _ (by show _ ∈ opA zeroOp; simp)
theorem clear_run {W : World} {blk : Nat} {d : Array OpN} (h : HoldsK encO 23 W blk 0 d) (i c : Nat) (hi : i < d.size) :
    ∃ vs, ∀ ty, (Builtin.clear_ #[40] ty #[.slice (some ⟨blk, i * 23, none⟩) (d.size - i) c]).run Try.prog W = .ok (.tuple #[]) (W.setCells blk (i * 23) vs) := by
  obtain ⟨h1, h2⟩ := zeroCells_ok (d.size - i)
  have hst := stores_of_holds Try.prog h (i * 23) _ (by rw [h1, size_flatK]; omega) h2
  refine ⟨(Builtin.zeroCells (opA zeroOp).toArray (d.size - i)).toList, fun ty => ?_⟩
  obtain ⟨m, hm⟩ : ∃ m, d.size - i = m + 1 := ⟨d.size - i - 1, by omega⟩
  rw [hm] at hst ⊢
  rw [Nat.zero_add] at hst
  have hz := zero_op
  simp [Builtin.clear_, run_underlying Try.underlying40, hz, Value.cells, hst]
theorem setCells_alloc_new (w : World) (zs cs : Array Value) (T : TypeId) : (w.alloc (.cells zs T)).setRow w.heap.size cs = w.alloc (.cells cs T) := by
  unfold World.setRow World.alloc
  congr 1
  apply Array.ext_getElem?
  intro k
  rw [Array.getElem?_modify, Array.getElem?_push, Array.getElem?_push]
  by_cases e : w.heap.size = k
  · subst e
    simp
  · simp [e, Ne.symm e]
theorem store_new {ops : Array Oper} {rest : List Oper} {o : Oper} {a : Act} {w : World} {Q : Exit → Act → World → Prop} {zs : Array Value} {y : O} (hy : OkO y) (hold : zs.size = 23)
    (hgd : o.guard = none) (s x : Operand) (ho : o.op = .store 54 s x) (hs : a.eval s = .pointer (some ⟨w.heap.size, 0, none⟩)) (hx : a.eval x = .agg (opA y).toArray)
    (hk : wpList Try.prog ops Q rest (a.put o.dst undef) (w.alloc (.cells (opA y).toArray 54))) : wpList Try.prog ops Q (o :: rest) a (w.alloc (.cells zs 54)) := by
  refine wpList_store_row hgd 54 s x ho w.heap.size (opA y).toArray hs hx 54 zs (heap_alloc_new w _) (by rw [List.size_toArray, opA_length hy]; kernel_rfl) (by rw [show (opA y).toArray.size = 23 by rw [List.size_toArray]; exact opA_length hy]; exact hold) ?_ ?_
  · rw [Array.all_eq_true_iff_forall_mem]
    intro v hv
    exact encO_one ⟨y, hy⟩ v (by show v ∈ opA y; simpa using hv)
  · rw [setCells_alloc_new]
    exact hk
end Go.Proofs.Ytkhjmegjnglkgaa.Vc
