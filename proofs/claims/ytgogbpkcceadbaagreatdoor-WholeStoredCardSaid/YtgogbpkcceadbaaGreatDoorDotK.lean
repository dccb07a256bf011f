/-
  Dots as keys of a map; a set of dots; what it means that operations are closed.
-/
import Derived.Test.YtgogbpkcceadbaaGreatDoorFoldN
import Derived.DeepKeys5
namespace Go.Proofs.YtgogbpkcceadbaaGreatDoor.Vc
open Go.RowKit Go.Proofs.YtgogbpkcceadbaaGreatDoor.Wd Go.Proofs.YtgogbpkcceadbaaGreatDoor.Pk
set_option linter.unusedVariables false

theorem laidOutP : laidOutB Tryz.prog = true := by kernel_rfl
theorem keyedD : Go.Maps.Keyed Tryz.prog 30 :=
  Go.Maps.Keyed.of_law (deep_law_laid laidOutP (m := 3) (by decide) (of_decide_eq_true (by kernel_rfl)) (by kernel_rfl) (by rw [Tryz.underlying30]))
def dK (r s : Nat) : Lit := .string (keyBytes [.int .u8 (r : Int), .int .u32 (s : Int)])
def dV (r s : Nat) : Value := .agg #[.int .u8 (r : Int), .int .u32 (s : Int)]
theorem keyDot {r s : Nat} (hr : r ≤ 255) (hs : s ≤ 4294967295) : keyOf Tryz.prog 30 (dV r s) = some (dK r s) := by
  have hkt : Tryz.prog.keyType 30 = true := by kernel_rfl
  have hc2 : Tryz.prog.cellsOf 30 = 2 := by kernel_rfl
  have hc8 : Tryz.prog.cellsOf 5 = 1 := by kernel_rfl
  have hc32 : Tryz.prog.cellsOf 28 = 1 := by kernel_rfl
  obtain ⟨m, hm⟩ : ∃ m, Tryz.prog.types.size = m + 1 := ⟨Tryz.prog.types.size - 1, by have : 0 < Tryz.prog.types.size := of_decide_eq_true (by kernel_rfl); omega⟩
  have w8 := wf8 hr
  have w32 := wf32 hs
  unfold keyOf dV
  simp only [Tryz.underlying30]
  rw [if_pos (by simp [hkt, Value.formed, Tryz.underlying30, hc2]), hm]
  unfold Program.keyLits
  simp [Tryz.underlying30, Value.cells, hc2, hc8, hc32, Program.keyLits, Tryz.underlying5, Tryz.underlying28, w8, w32, dK]
theorem dK_inj {r s r' s' : Nat} (hr : r ≤ 255) (hs : s ≤ 4294967295) (hr' : r' ≤ 255) (hs' : s' ≤ 4294967295) (h : dK r s = dK r' s') : r = r' ∧ s = s' := by
  have h1 := keyDot hr hs
  have h2 := keyDot hr' hs'
  rw [← h] at h2
  have h3 := keyedD.inj h1 h2
  unfold dV at h3
  simp only [Value.agg.injEq, Array.mk.injEq, List.cons.injEq, Value.int.injEq, true_and, and_true] at h3
  exact ⟨Int.ofNat.inj h3.1, Int.ofNat.inj h3.2⟩
theorem dK_key {r s : Nat} (hr : r ≤ 255) (hs : s ≤ 4294967295) : WideAt.IsKeyLit (dK r s) := keyedD.key (keyDot hr hs)
theorem dK_same (r s r' s' : Nat) : (dK r s).sameKey (dK r' s') = true ↔ dK r s = dK r' s' := by
  unfold dK
  simp [Lit.sameKey]
/-- The dots of operations, as a set. -/
abbrev MapD (w : World) (b n : Nat) (D : DataW Unit) : Prop := w.ownsMap Tryz.prog 30 (unitElem (H := Unit)) b n D
def dotsD (l : List OpN) : DataW Unit := Go.Maps.setOf (.agg []) (l.map fun x => dK x.1.rep x.1.seq)
theorem dotsD_snoc (l : List OpN) (x : OpN) : dotsD (l ++ [x]) = (dotsD l).put (dK x.1.rep x.1.seq) (.agg []) := by
  unfold dotsD
  rw [List.map_append, List.map_cons, List.map_nil, Go.Maps.setOf_snoc]
theorem has_dots (l : List OpN) {r s : Nat} (hr : r ≤ 255) (hs : s ≤ 4294967295) : Go.Maps.has (dotsD l) (dK r s) = true ↔ ∃ x ∈ l, x.1.rep = r ∧ x.1.seq = s := by
  unfold dotsD
  rw [Go.Maps.has_setOf _ _ _ (fun y hy => by obtain ⟨x, _, rfl⟩ := List.mem_map.1 hy; exact dK_key x.2.rep x.2.seq), List.any_eq_true]
  constructor
  · rintro ⟨y, hy, h⟩
    obtain ⟨x, hx, rfl⟩ := List.mem_map.1 hy
    exact ⟨x, hx, dK_inj x.2.rep x.2.seq hr hs ((dK_same _ _ _ _).1 h)⟩
  · rintro ⟨x, hx, rfl, rfl⟩
    exact ⟨_, List.mem_map.2 ⟨x, hx, rfl⟩, (dK_same _ _ _ _).2 rfl⟩
theorem zeroUnitV (w : World) : (zeroValue 68).run Tryz.prog w = .ok (.agg #[]) w := by kernel_rfl
theorem MapD.look {w : World} {b n : Nat} {D : DataW Unit} (h : MapD w b n D) {r s : Nat} (hr : r ≤ 255) (hs : s ≤ 4294967295) :
    (Instr.lookup 67 (.map (some b)) (.agg #[.int .u8 (r : Int), .int .u32 (s : Int)]) true).run Tryz.prog w = .ok (.tuple #[.agg #[], .bool (Go.Maps.has D (dK r s))]) w := by
  obtain ⟨v, ps, hrn, hv⟩ := World.ownsMap.look_ok h keyedD Tryz.underlying67 (zeroUnitV w) (unitElem_mk) (keyDot hr hs)
  obtain ⟨rfl, _⟩ := unitElem_inv hv
  exact hrn
theorem MapD.put {w : World} {b n : Nat} {D : DataW Unit} (h : MapD w b n D) {r s : Nat} (hr : r ≤ 255) (hs : s ≤ 4294967295) (hn : n ≤ 1000) :
    ∃ w', (Instr.mapUpdate 67 (.map (some b)) (.agg #[.int .u8 (r : Int), .int .u32 (s : Int)]) (.agg #[])).run Tryz.prog w = .ok () w' ∧ MapD w' b (n + 1) (D.put (dK r s) (.agg [])) ∧ w.grownBy w' (some b) :=
  World.ownsMap.update h keyedD Tryz.underlying67 (by unfold maxLen; omega) (keyDot hr hs) unitElem_mk

/-! ### Closed operations -/
def cntF (v : List Nat) (r : Nat) (y : OpN) : Bool := decide (y.1.rep = r) && hasB v y.1.rep y.1.seq
def countN (l : List OpN) (v : List Nat) (r : Nat) : Nat := (l.filter (cntF v r)).length
def sameDot (a b : OpN) : Prop := a.1.rep = b.1.rep ∧ a.1.seq = b.1.seq
structure CloP (l : List OpN) : Prop where
  ok : ∀ x ∈ l, dotB x.1.rep x.1.seq = true
  nd : l.Pairwise fun a b => ¬ sameDot a b
  cnt : ∀ x ∈ l, ∀ r, r < 16 → countN l x.1.ctx r = min (x.1.ctx.getD r 0) 1048576
theorem nodup_le : ∀ (xs ys : List Nat), xs.Nodup → (∀ x ∈ xs, x ∈ ys) → xs.length ≤ ys.length
  | [], ys, _, _ => Nat.zero_le _
  | x :: xs, ys, hn, hm => by
    have hx := hm x (by simp)
    have hn2 := List.nodup_cons.1 hn
    have ih := nodup_le xs (ys.erase x) hn2.2 fun y hy => (List.mem_erase_of_ne (fun e => hn2.1 (by rw [← e]; exact hy))).2 (hm y (by simp [hy]))
    rw [List.length_erase_of_mem hx] at ih
    have := List.length_pos_of_mem hx
    rw [List.length_cons]
    omega
/-- As many different numbers from one on as there may be are all of them. -/
theorem all_there (xs : List Nat) (M : Nat) (hn : xs.Nodup) (hm : ∀ x ∈ xs, 1 ≤ x ∧ x ≤ M) (hl : xs.length = M) (s : Nat) (h1 : 1 ≤ s) (h2 : s ≤ M) : s ∈ xs := by
  by_cases hs : s ∈ xs
  · exact hs
  · exfalso
    have hsr : s ∈ List.range' 1 M := by rw [List.mem_range'_1]; omega
    have := nodup_le xs ((List.range' 1 M).erase s) hn fun x hx => (List.mem_erase_of_ne (fun e => hs (by rw [← e]; exact hx))).2 (by rw [List.mem_range'_1]; have := hm x hx; omega)
    rw [List.length_erase_of_mem hsr, List.length_range'] at this
    omega
theorem CloP.there {l : List OpN} (h : CloP l) {x : OpN} (hx : x ∈ l) {r s : Nat} (hr : r < 16) (h1 : 1 ≤ s) (h2 : s ≤ min (x.1.ctx.getD r 0) 1048576) : Go.Maps.has (dotsD l) (dK r s) = true := by
  rw [has_dots l (by omega) (by omega)]
  have hlen := h.cnt x hx r hr
  unfold countN at hlen
  have hmem := all_there ((l.filter (cntF x.1.ctx r)).map fun y => y.1.seq) (min (x.1.ctx.getD r 0) 1048576) ?_ ?_ (by rw [List.length_map]; exact hlen) s h1 h2
  · obtain ⟨y, hy, rfl⟩ := List.mem_map.1 hmem
    obtain ⟨hyl, hyf⟩ := List.mem_filter.1 hy
    unfold cntF at hyf
    rw [Bool.and_eq_true, decide_eq_true_eq] at hyf
    exact ⟨y, hyl, hyf.1, rfl⟩
  · show List.Pairwise _ _
    rw [List.pairwise_map]
    refine (h.nd.filter _).imp_of_mem fun {a b} ha hb hab e => hab ?_
    have h1 := (List.mem_filter.1 ha).2
    have h2 := (List.mem_filter.1 hb).2
    unfold cntF at h1 h2
    rw [Bool.and_eq_true, decide_eq_true_eq] at h1 h2
    exact ⟨by rw [h1.1, h2.1], e⟩
  · intro y hy
    obtain ⟨z, hz, rfl⟩ := List.mem_map.1 hy
    have h1 := (List.mem_filter.1 hz).2
    unfold cntF hasB at h1
    rw [Bool.and_eq_true, decide_eq_true_eq, decide_eq_true_eq] at h1
    obtain ⟨e, ⟨_, h3, h4⟩, h5⟩ := h1
    rw [e] at h5
    omega
theorem CloP.fresh {l : List OpN} (h : CloP l) {k : Nat} {x : OpN} (hx : l[k]? = some x) : Go.Maps.has (dotsD (l.take k)) (dK x.1.rep x.1.seq) = false := by
  rw [← Bool.not_eq_true, has_dots _ x.2.rep x.2.seq]
  rintro ⟨y, hy, e1, e2⟩
  obtain ⟨j, hj, he⟩ := List.getElem_of_mem hy
  rw [List.length_take] at hj
  obtain ⟨hk, hxe⟩ := List.getElem?_eq_some_iff.1 hx
  have := List.pairwise_iff_getElem.1 h.nd j k (by omega) hk (by omega)
  rw [List.getElem_take] at he
  rw [he, hxe] at this
  exact this ⟨e1, e2⟩
end Go.Proofs.YtgogbpkcceadbaaGreatDoor.Vc
