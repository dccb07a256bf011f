/-
  Words on memory for this seat's walks: a slice of bytes that reads as a list of numbers; nothing of the program's functions.
-/
import Derived.Test.YtgogbpkcceadbaaGreatDoorRows
import Derived.WalkKit
import Derived.Below
import Derived.Laws.OwnMore
import Derived.Deep.AppendLies
import Derived.Deep.Draws
import Derived.Laws.BitsAll
import Derived.Maps.AppendAt
import Derived.OwnWalk
import Derived.KernelRfl
import Derived.Laws.BytesString
import Derived.Laws.Cells
import Derived.Laws.Strings
import Derived.RegionTactic
import Derived.Deep.OwnRows
import Derived.Deep.RegionHeld3
import Derived.Deep.QuietTactic
import Derived.BigQuiet
import Derived.Lib.Hide
import Derived.IntWalk
namespace Go.Proofs.YtgogbpkcceadbaaGreatDoor.Wd
open Go.RowKit

/-- The slice value '.slice A n c' reads as the bytes xs; nil, empty and other slices alike. -/
structure RdB (w : World) (A : Option Addr) (n : Nat) (xs : List Nat) : Prop where
  len : xs.length = n
  fits : n ≤ 9223372036854775807
  small : ∀ x ∈ xs, x < 256
  cell : 0 < n → ∃ ad, A = some ad ∧ ∀ j, j < n → w.cell? (ad.add j) = some (.int .u8 ((xs.getD j 0 : Nat) : Int))

/-- The slice value '.slice A n c' reads as the numbers xs of kind kd, each at most top. -/
structure RdN (kd : IntKind) (top : Nat) (w : World) (A : Option Addr) (n : Nat) (xs : List Nat) : Prop where
  len : xs.length = n
  fits : n ≤ 9223372036854775807
  small : ∀ x ∈ xs, x ≤ top
  cell : 0 < n → ∃ ad, A = some ad ∧ ∀ j, j < n → w.cell? (ad.add j) = some (.int kd ((xs.getD j 0 : Nat) : Int))
theorem getD_le {xs : List Nat} {top : Nat} (h : ∀ x ∈ xs, x ≤ top) (j : Nat) : xs.getD j 0 ≤ top := by
  by_cases hj : j < xs.length
  · rw [List.getD_eq_getElem?_getD, List.getElem?_eq_getElem hj]; exact h _ (List.getElem_mem hj)
  · rw [List.getD_eq_getElem?_getD, List.getElem?_eq_none (by omega)]; exact Nat.zero_le _
theorem RdN.at_ {kd : IntKind} {top : Nat} {w : World} {A : Option Addr} {n : Nat} {xs : List Nat} (h : RdN kd top w A n xs) {k : Nat} (hk : k < n) :
    ∃ ad, A = some ad ∧ w.cell? (ad.add k) = some (.int kd ((xs.getD k 0 : Nat) : Int)) ∧ xs.getD k 0 ≤ top := by
  obtain ⟨ad, e, hc⟩ := h.cell (by omega)
  exact ⟨ad, e, hc k hk, getD_le h.small k⟩
theorem RdN.below {kd : IntKind} {top : Nat} {w w1 : World} {A : Option Addr} {n : Nat} {xs : List Nat} (h : RdN kd top w A n xs) (hb : Below w.heap.size w w1) : RdN kd top w1 A n xs :=
  ⟨h.len, h.fits, h.small, fun hn => by
    obtain ⟨ad, e, hc⟩ := h.cell hn
    exact ⟨ad, e, fun j hj => (hb.cell (World.block_lt_of_cell? w _ (hc j hj))).trans (hc j hj)⟩⟩
theorem RdN.nil_ (kd : IntKind) (top : Nat) (w : World) : RdN kd top w none 0 [] := ⟨rfl, by decide, by simp, fun h => absurd h (by decide)⟩
theorem getD_lt {xs : List Nat} (h : ∀ x ∈ xs, x < 256) (j : Nat) : xs.getD j 0 < 256 := by
  by_cases hj : j < xs.length
  · rw [List.getD_eq_getElem?_getD, List.getElem?_eq_getElem hj]; exact h _ (List.getElem_mem hj)
  · rw [List.getD_eq_getElem?_getD, List.getElem?_eq_none (by omega)]; decide
theorem RdB.at_ {w : World} {A : Option Addr} {n : Nat} {xs : List Nat} (h : RdB w A n xs) {k : Nat} (hk : k < n) :
    ∃ ad, A = some ad ∧ w.cell? (ad.add k) = some (.int .u8 ((xs.getD k 0 : Nat) : Int)) ∧ xs.getD k 0 < 256 := by
  obtain ⟨ad, e, hc⟩ := h.cell (by omega)
  exact ⟨ad, e, hc k hk, getD_lt h.small k⟩
theorem RdB.below {w w1 : World} {A : Option Addr} {n : Nat} {xs : List Nat} (h : RdB w A n xs) (hb : Below w.heap.size w w1) : RdB w1 A n xs :=
  ⟨h.len, h.fits, h.small, fun hn => by
    obtain ⟨ad, e, hc⟩ := h.cell hn
    exact ⟨ad, e, fun j hj => (hb.cell (World.block_lt_of_cell? w _ (hc j hj))).trans (hc j hj)⟩⟩
theorem take_snoc {xs : List Nat} {k : Nat} (h : k < xs.length) : xs.take (k + 1) = xs.take k ++ [xs.getD k 0] := by
  rw [List.take_succ_eq_append_getElem h, List.getD_eq_getElem?_getD, List.getElem?_eq_getElem h]; rfl
theorem add_of_add (a : Addr) (i j : Nat) : (a.add i).add j = a.add (i + j) := by
  unfold Addr.add
  by_cases hi : i = 0 <;> by_cases hj : j = 0 <;> simp [hi, hj, Nat.add_assoc]
theorem RdB.take {w : World} {A : Option Addr} {n : Nat} {xs : List Nat} (h : RdB w A n xs) {k : Nat} (hk : k ≤ n) : RdB w A k (xs.take k) := by
  have hl := h.len
  refine ⟨by simp; omega, by have := h.fits; omega, fun x hx => h.small x (List.mem_of_mem_take hx), fun h0 => ?_⟩
  obtain ⟨ad, e, hc⟩ := h.cell (by omega)
  refine ⟨ad, e, fun j hj => ?_⟩
  rw [hc j (by omega), List.getD_eq_getElem?_getD, List.getD_eq_getElem?_getD, List.getElem?_take_of_lt hj]
theorem RdB.drop {w : World} {A : Option Addr} {n : Nat} {xs : List Nat} (h : RdB w A n xs) {k cap : Nat} (hk : k ≤ n) (hc : n ≤ cap) :
    RdB w (if cap = k then A else A.map (·.add k)) (n - k) (xs.drop k) := by
  have hl := h.len
  refine ⟨by simp; omega, by have := h.fits; omega, fun x hx => h.small x (List.mem_of_mem_drop hx), fun h0 => ?_⟩
  obtain ⟨ad, rfl, hcell⟩ := h.cell (by omega)
  rw [if_neg (by omega)]
  refine ⟨ad.add k, rfl, fun j hj => ?_⟩
  rw [add_of_add, hcell (k + j) (by omega), List.getD_eq_getElem?_getD, List.getD_eq_getElem?_getD, List.getElem?_drop]
theorem RdB.drewN {w : World} {A : Option Addr} {n : Nat} {xs : List Nat} (h : RdB w A n xs) (k : Nat) : RdB (w.drewN k) A n xs := ⟨h.len, h.fits, h.small, h.cell⟩
theorem RdB.drew {w : World} {A : Option Addr} {n : Nat} {xs : List Nat} (h : RdB w A n xs) : RdB w.drew A n xs := ⟨h.len, h.fits, h.small, h.cell⟩
/-- Bytes as a row of cells. -/
def byteVals (xs : List Nat) : Array Value := (xs.map fun x => Value.int .u8 ((x : Nat) : Int)).toArray
theorem RdB.new (w : World) (e : TypeId) (fr : Nat × Nat) (xs : List Nat) (h : ∀ x ∈ xs, x < 256) (hl : xs.length ≤ 9223372036854775807) :
    RdB (w.alloc (.cells (byteVals xs) e fr)) (some ⟨w.heap.size, 0, none⟩) xs.length xs :=
  ⟨rfl, hl, h, fun _ => ⟨_, rfl, fun j hj => by
    have hb : (w.alloc (.cells (byteVals xs) e fr)).heap[w.heap.size]? = some (.cells (byteVals xs) e fr) := by
      show (w.heap.push _)[w.heap.size]? = _
      simp
    have hadd : (⟨w.heap.size, 0, none⟩ : Addr).add j = ⟨w.heap.size, j, none⟩ := by unfold Addr.add; split <;> simp_all
    rw [hadd, cell_of_row _ _ j _ _ _ hb]
    simp [byteVals, List.getD_eq_getElem?_getD, List.getElem?_eq_getElem hj]⟩⟩
theorem RdB.one (w : World) (e : TypeId) (x : Nat) (h : x < 256) : RdB (w.alloc (.cells #[.int .u8 (x : Int)] e)) (some ⟨w.heap.size, 0, none⟩) 1 [x] := RdB.new w e (0, 0) [x] (by simpa using h) (by simp)
theorem RdB.nil_ (w : World) : RdB w none 0 [] := ⟨rfl, by decide, by simp, fun h => absurd h (by decide)⟩
theorem drewN_below {B : Nat} {a w : World} (h : Below B a w) (n : Nat) : Below B a (w.drewN n) := ⟨h.os, h.tape, h.output, h.size, h.block⟩
theorem below_cells {w w' : World} (h : Below w.heap.size w w') : (∀ b o, b < w.heap.size → w'.cell? ⟨b, o, none⟩ = w.cell? ⟨b, o, none⟩) ∧ (∀ b o, b < w.heap.size → w'.frozen? ⟨b, o, none⟩ = w.frozen? ⟨b, o, none⟩) :=
  ⟨fun b o hb => h.cell (p := ⟨b, o, none⟩) hb, fun b o hb => h.frozen (p := ⟨b, o, none⟩) hb⟩

/-! ### A row of bytes of the call's own -/
def vals (xs : List Nat) : List Value := xs.map fun x => Value.int .u8 ((x : Nat) : Int)
theorem vals_length (xs : List Nat) : (vals xs).length = xs.length := by simp [vals]
theorem vals_append (xs ys : List Nat) : vals (xs ++ ys) = vals xs ++ vals ys := by simp [vals]
theorem vals_get {xs : List Nat} {j : Nat} (h : j < xs.length) : (vals xs)[j]? = some (.int .u8 ((xs.getD j 0 : Nat) : Int)) := by
  simp [vals, List.getElem?_eq_getElem h, List.getD_eq_getElem?_getD]
theorem info8 : (Tryz.prog.info? 5).map (fun i => (i.zero, i.size, i.bytes)) = some (some (.int .u8 0), 1, 1) := by kernel_rfl
theorem own_base {w : World} {b b' : Nat} {e : TypeId} {size n : Nat} {v : Value} {xs : List Value} (h : w.ownsRow b e size v n xs) (hb : b' ≤ b) : w.ownsRow b' e size v n xs := by
  refine ⟨h.1, ?_⟩
  rcases h.2 with h2 | ⟨g, cap, cur, h1, h2, h3⟩
  · exact .inl h2
  · exact .inr ⟨g, cap, cur, h1, by omega, h3⟩
structure OwnB (w : World) (base : Nat) (v : Value) (xs : List Nat) : Prop where
  row : w.ownsRow base 5 1 v xs.length (vals xs)
  small : ∀ x ∈ xs, x < 256
theorem OwnB.nil_ (w : World) (base : Nat) : OwnB w base (.slice none 0 0) [] := ⟨World.ownsRow_nil _ _ _ _, by simp⟩
theorem OwnB.lit0 (w : World) (base : Nat) (hb : base ≤ w.heap.size) : OwnB (w.alloc (.cells #[] 5)) base (.slice (some ⟨w.heap.size, 0, none⟩) 0 0) [] :=
  ⟨World.ownsRow_lit w #[] 0 hb (by decide) rfl, by simp⟩
theorem OwnB.alloc {w : World} {base : Nat} {v : Value} {xs : List Nat} (h : OwnB w base v xs) (o : Obj) : OwnB (w.alloc o) base v xs := ⟨h.row.alloc o, h.small⟩
theorem OwnB.drewN {w : World} {base : Nat} {v : Value} {xs : List Nat} (h : OwnB w base v xs) (n : Nat) : OwnB (w.drewN n) base v xs := ⟨h.row, h.small⟩
theorem OwnB.drew {w : World} {base : Nat} {v : Value} {xs : List Nat} (h : OwnB w base v xs) : OwnB w.drew base v xs := ⟨h.row, h.small⟩
theorem OwnB.kept {w w' : World} {base : Nat} {v : Value} {xs : List Nat} {row : Option Nat} (h : OwnB w base v xs) (hg : w.grownBy w' row) (hne : v.ownBlock = none ∨ v.ownBlock ≠ row) : OwnB w' base v xs :=
  ⟨h.row.kept hg hne, h.small⟩
theorem OwnB.ne {w : World} {base : Nat} {v : Value} {xs : List Nat} (h : OwnB w base v xs) {k : Nat} (hk : k < base) : v.ownBlock ≠ some k := fun e => by
  have := (h.row.lt k e).1
  omega
theorem OwnB.to_below {w0 w w' : World} {base : Nat} {v : Value} {xs : List Nat} (h : OwnB w base v xs) (hb : Below base w0 w) (hbase : base ≤ w.heap.size) (hg : w.grownBy w' v.ownBlock) : Below base w0 w' :=
  hb.grown hg hbase fun k hk => (h.row.lt k hk).1
theorem grown_none {w w' : World} (h : Below w.heap.size w w') : w.grownBy w' none := ⟨h.os, h.tape, h.output, h.size, fun i hi _ => h.block i hi⟩
theorem OwnB.below {w w' : World} {base : Nat} {v : Value} {xs : List Nat} (h : OwnB w base v xs) (hb : Below w.heap.size w w') : OwnB w' base v xs :=
  h.kept (grown_none hb) (by cases v.ownBlock <;> simp)
theorem OwnB.rd {w : World} {base : Nat} {v : Value} {xs : List Nat} (h : OwnB w base v xs) : ∃ A c, v = .slice A xs.length c ∧ xs.length ≤ c ∧ RdB w A xs.length xs := by
  rcases h.row.2 with ⟨rfl, h0⟩ | ⟨g, cap, cur, rfl, _, _, hnc, hcm, _⟩
  · have : xs = [] := List.eq_nil_of_length_eq_zero h0
    subst this
    exact ⟨none, 0, rfl, Nat.le_refl _, RdB.nil_ _⟩
  · unfold maxLen at hcm
    refine ⟨_, cap, rfl, hnc, rfl, by omega, h.small, fun _ => ⟨_, rfl, fun j hj => ?_⟩⟩
    exact h.row.cells (g := g) rfl j _ (vals_get hj)
theorem OwnB.rds {w : World} {base : Nat} {A : Option Addr} {n c : Nat} {xs : List Nat} (h : OwnB w base (.slice A n c) xs) : RdB w A n xs ∧ xs.length = n := by
  obtain ⟨A', c', e, _, hr⟩ := h.rd
  simp only [Value.slice.injEq] at e
  obtain ⟨rfl, rfl, rfl⟩ := e
  exact ⟨hr, rfl⟩
theorem OwnB.form {w : World} {base : Nat} {v : Value} {xs : List Nat} (h : OwnB w base v xs) (h0 : 0 < xs.length) :
    ∃ g cap, v = .slice (some ⟨g, 0, none⟩) xs.length cap ∧ xs.length ≤ cap ∧ cap ≤ 9223372036854775807 ∧ base ≤ g ∧ g < w.heap.size ∧
      (∀ j, j < xs.length → w.cell? ⟨g, j, none⟩ = some (.int .u8 ((xs.getD j 0 : Nat) : Int))) ∧ ∀ j, w.frozen? ⟨g, j, none⟩ = false := by
  rcases h.row.2 with ⟨_, h1⟩ | ⟨g, cap, cur, rfl, hb, hg, hnc, hcm, _⟩
  · omega
  · unfold maxLen at hcm
    refine ⟨g, cap, rfl, hnc, by omega, hb, (Array.getElem?_eq_some_iff.1 hg).1, fun j hj => ?_, fun j => h.row.frozenAt j⟩
    rw [h.row.cellAt j (by omega), vals_get hj]
set_option maxRecDepth 100000 in
/-- What an append of bytes, wherever they lie, comes to. -/
theorem app_run (w : World) (base : Nat) (ty : TypeId) {v : Value} {xs ys : List Nat} (h : OwnB w base v xs) {A : Option Addr} {m : Nat} (c : Nat) (hy : RdB w A m ys)
    (hb : xs.length + m ≤ 70368744177664) (hbase : base ≤ w.heap.size) :
    ∃ v' w', (Builtin.append_ #[41, 41] ty #[v, .slice A m c]).run Tryz.prog w = .ok v' w' ∧ OwnB w' base v' (xs ++ ys) ∧ w.grownBy w' v.ownBlock ∧
      (v'.ownBlock = v.ownBlock ∨ v'.ownBlock = some w.heap.size) := by
  obtain ⟨i0, hi0, hz0, hz1, hz2⟩ := info_parts info8
  have hsm : ∀ x ∈ xs ++ ys, x < 256 := fun x hx => by
    rcases List.mem_append.1 hx with h1 | h1
    · exact h.small x h1
    · exact hy.small x h1
  have hyl := hy.len
  rcases A with _ | ad
  · have h0 : m = 0 := by
      rcases Nat.eq_zero_or_pos m with h0 | h0
      · exact h0
      · obtain ⟨ad, h1, _⟩ := hy.cell h0
        cases h1
    subst h0
    have hn : ys = [] := List.eq_nil_of_length_eq_zero hyl
    subst hn
    rw [List.append_nil]
    rcases h.row.2 with ⟨rfl, hx0⟩ | ⟨g, cap, cur, rfl, _, _, hnc, _⟩
    · exact ⟨.slice none 0 0, w, by simp [Builtin.append_, run_underlying Tryz.underlying41, sizeOf, typeInfo, hi0, Builtin.lenOf, Builtin.firstCells], h, ⟨rfl, rfl, rfl, Nat.le_refl _, fun _ _ _ => rfl⟩, .inl rfl⟩
    · exact ⟨_, w, by simp [Builtin.append_, run_underlying Tryz.underlying41, sizeOf, typeInfo, hi0, Builtin.lenOf, Builtin.firstCells, hnc, storeCells], h, ⟨rfl, rfl, rfl, Nat.le_refl _, fun _ _ _ => rfl⟩, .inl rfl⟩
  · have hc : ∀ j, j < m → w.cell? (ad.add j) = some (.int .u8 ((ys.getD j 0 : Nat) : Int)) := fun j hj => by
      obtain ⟨ad', e, hc⟩ := hy.cell (by omega)
      injection e with e
      subst e
      exact hc j hj
    obtain ⟨v', w', hr, h2, h3, _, h5⟩ := run_append_own_at (P := Tryz.prog) w base 41 ty 5 i0 _ 1 1 Tryz.underlying41 hi0 hz0 hz1 hz2 rfl (by decide) v xs.length (vals xs) h.row ad m c (vals ys)
      (by rw [vals_length]; omega) (fun j u hu => by
        have hj : j < ys.length := by
          have := (List.getElem?_eq_some_iff.1 hu).1
          rwa [vals_length] at this
        rw [vals_get hj] at hu
        rw [← hu]
        exact hc j (by omega))
      (fun u hu => by
        obtain ⟨x, _, rfl⟩ := List.mem_map.1 hu
        rfl) (by unfold maxLen; omega) (by omega) hbase
    refine ⟨v', w', hr, ⟨?_, hsm⟩, h3, h5⟩
    rw [vals_append, List.length_append, hyl]
    exact h2
theorem app_wp {o : Oper} {a : Act} {K : Act → World → Prop} {Q : Exit → Act → World → Prop} (w : World) (base : Nat) (s x : Operand)
    (ho : o.op = .call { callee := .builtin .append, args := #[s, x], argTypes := #[41, 41] })
    {v : Value} {xs ys : List Nat} {A : Option Addr} {m c : Nat} (hs : a.eval s = v) (hx : a.eval x = .slice A m c) (h : OwnB w base v xs) (hy : RdB w A m ys)
    (hb : xs.length + m ≤ 70368744177664) (hbase : base ≤ w.heap.size)
    (hk : ∀ v' w', OwnB w' base v' (xs ++ ys) → w.grownBy w' v.ownBlock → (v'.ownBlock = v.ownBlock ∨ v'.ownBlock = some w.heap.size) → K (a.put o.dst v') w') : o.wp Tryz.prog a w K Q := by
  obtain ⟨v', w', hrun, h2, h3, h4⟩ := app_run w base o.type h c hy hb hbase
  unfold Oper.wp execOp
  simp only [ho, resolve, invoke, builtin, Sem.run_bind, Sem.run_pure, Result.andThen_ok, List.map_toArray, List.map_cons, List.map_nil, hs, hx, hrun]
  exact hk v' w' h2 h3 h4
/-- At the list of a plain region's operations. -/
theorem app_list {ops : Array Oper} {rest : List Oper} {o : Oper} {a : Act} {Q : Exit → Act → World → Prop} {w : World} (base : Nat) (hgd : o.guard = none) (s x : Operand)
    (ho : o.op = .call { callee := .builtin .append, args := #[s, x], argTypes := #[41, 41] })
    {v : Value} {xs ys : List Nat} {A : Option Addr} {m c : Nat} (hs : a.eval s = v) (hx : a.eval x = .slice A m c) (h : OwnB w base v xs) (hy : RdB w A m ys)
    (hb : xs.length + m ≤ 70368744177664) (hbase : base ≤ w.heap.size)
    (hk : ∀ v' w', OwnB w' base v' (xs ++ ys) → w.grownBy w' v.ownBlock → (v'.ownBlock = v.ownBlock ∨ v'.ownBlock = some w.heap.size) → wpList Tryz.prog ops Q rest (a.put o.dst v') w') : wpList Tryz.prog ops Q (o :: rest) a w :=
  wpList_plain hgd fun _ hK => app_wp w base s x ho hs hx h hy hb hbase fun v' w' h2 h3 h4 => hK _ _ (hk v' w' h2 h3 h4)
/-- At a step of a region that draws its order. -/
theorem app_step {ops : Array Oper} {o : Oper} {a : Act} {K : Act → World → Prop} {Q : Exit → Act → World → Prop} {E : Prop} {w : World} (base : Nat) (hgd : o.guard = none) (s x : Operand)
    (ho : o.op = .call { callee := .builtin .append, args := #[s, x], argTypes := #[41, 41] })
    {v : Value} {xs ys : List Nat} {A : Option Addr} {m c : Nat} (hs : a.eval s = v) (hx : a.eval x = .slice A m c) (h : OwnB w base v xs) (hy : RdB w A m ys)
    (hb : xs.length + m ≤ 70368744177664) (hbase : base ≤ w.heap.size)
    (hk : ∀ v' w', OwnB w' base v' (xs ++ ys) → w.grownBy w' v.ownBlock → (v'.ownBlock = v.ownBlock ∨ v'.ownBlock = some w.heap.size) → K (a.put o.dst v') w') :
    if Region.wanted o (yielded ops a.tmps) = true then Oper.wp Tryz.prog o a w K Q else E := by
  have hw : Region.wanted o (yielded ops a.tmps) = true := by simp [Region.wanted, hgd]
  rw [if_pos hw]
  exact app_wp w base s x ho hs hx h hy hb hbase hk
/-- A byte of its own row is written. -/
theorem OwnB.stored {w : World} {base g n cap : Nat} {xs : List Nat} (h : OwnB w base (.slice (some ⟨g, 0, none⟩) n cap) xs) (j x : Nat) (hx : x < 256) :
    OwnB (w.setCell ⟨g, j, none⟩ (.int .u8 (x : Int))) base (.slice (some ⟨g, 0, none⟩) n cap) (xs.set j x) ∧ w.grownBy (w.setCell ⟨g, j, none⟩ (.int .u8 (x : Int))) (some g) := by
  have hn : n = xs.length := by
    rcases h.row.2 with ⟨e, _⟩ | ⟨_, _, _, e, _⟩
    · simp at e
    · simp only [Value.slice.injEq] at e; omega
  subst hn
  have h1 := h.row.stored j (.int .u8 (x : Int))
  refine ⟨⟨?_, fun y hy => ?_⟩, h1.2⟩
  · have e : vals (xs.set j x) = (vals xs).set j (.int .u8 (x : Int)) := by simp [vals, List.map_set]
    rw [e, List.length_set]
    exact h1.1
  · rcases List.mem_or_eq_of_mem_set hy with h2 | rfl
    · exact h.small y h2
    · exact hx
/-- Bytes as a string. -/
def strB (xs : List Nat) : ByteArray := ⟨(xs.map fun x => UInt8.ofNat x).toArray⟩
theorem strB_inj {xs ys : List Nat} (hx : ∀ x ∈ xs, x < 256) (hy : ∀ x ∈ ys, x < 256) (h : strB xs = strB ys) : xs = ys := by
  have h1 : xs.map (fun x => UInt8.ofNat x) = ys.map (fun x => UInt8.ofNat x) := by
    have := congrArg (fun b => b.data.toList) h
    simpa [strB] using this
  have h2 : xs.map (fun x => (UInt8.ofNat x).toNat) = ys.map (fun x => (UInt8.ofNat x).toNat) := by
    have := congrArg (List.map UInt8.toNat) h1
    simpa [List.map_map, Function.comp_def] using this
  have e : ∀ l : List Nat, (∀ x ∈ l, x < 256) → l.map (fun x => (UInt8.ofNat x).toNat) = l := by
    intro l hl
    induction l with
    | nil => rfl
    | cons a l ih =>
      rw [List.map_cons, ih (fun x h => hl x (by simp [h]))]
      congr 1
      rw [UInt8.toNat_ofNat']
      exact Nat.mod_eq_of_lt (hl a (by simp))
  rw [e xs hx, e ys hy] at h2
  exact h2
theorem strB_toList (xs : List Nat) : (strB xs).toList = xs.map fun x => UInt8.ofNat x := by
  rw [ByteArray.toList_eq]
  simp [strB]
theorem strB_beq {xs ys : List Nat} (hx : ∀ x ∈ xs, x < 256) (hy : ∀ x ∈ ys, x < 256) (h : xs ≠ ys) : ((strB xs).toList == (strB ys).toList) = false := by
  rw [beq_eq_false_iff_ne]
  intro e
  rw [ByteArray.toList_eq, ByteArray.toList_eq] at e
  exact h (strB_inj hx hy (by
    have : (strB xs).data = (strB ys).data := Array.toList_inj.1 e
    cases hx1 : strB xs
    cases hy1 : strB ys
    rw [hx1, hy1] at this
    simp at this
    rw [this]))
theorem strB_foldl : ∀ (xs : List Nat) (s : ByteArray), (xs.map fun x => ((x : Nat) : Int)).foldl (fun (r : ByteArray) n => r.push (UInt8.ofNat n.toNat)) s = ⟨s.data ++ (xs.map fun x => UInt8.ofNat x).toArray⟩
  | [], s => by simp
  | x :: xs, s => by
    rw [List.map_cons, List.foldl_cons, strB_foldl xs]
    simp [ByteArray.push]
/-- string(b). -/
theorem conv_str {w : World} {A : Option Addr} {n : Nat} {xs : List Nat} (h : RdB w A n xs) (c : Nat) :
    (convert 41 9 (.slice A n c)).run Tryz.prog w = .ok (.string (strB xs)) w := by
  have hl := h.len
  rcases A with _ | ad
  · have h0 : n = 0 := by
      rcases Nat.eq_zero_or_pos n with h0 | h0
      · exact h0
      · obtain ⟨ad, h1, _⟩ := h.cell h0
        cases h1
    subst h0
    have hn : xs = [] := List.eq_nil_of_length_eq_zero hl
    subst hn
    rw [run_convert_bytes_string w 41 9 5 none 0 c Tryz.underlying41 Tryz.underlying5 Tryz.underlying9]
    rfl
  · have hc : (loadCells ad n).run Tryz.prog w = .ok ((xs.map fun x => ((x : Nat) : Int)).map (Value.int .u8)).toArray w := by
      have := run_loadCells_list (P := Tryz.prog) w ad (vals xs) (fun j v hj => by
        have hjl : j < xs.length := by
          have := (List.getElem?_eq_some_iff.1 hj).1
          rwa [vals_length] at this
        obtain ⟨ad', e, hcell⟩ := h.cell (by omega)
        injection e with e
        subst e
        rw [hcell j (by omega), ← vals_get hjl, hj])
      rw [vals_length, hl] at this
      rw [this]
      simp [vals]
    rw [run_convert_bytes_string w 41 9 5 _ n c Tryz.underlying41 Tryz.underlying5 Tryz.underlying9, run_bytesToString w ad n c _ hc, strB_foldl]
    simp [strB, ByteArray.empty, ByteArray.emptyWithCapacity]
    rfl
/-- make([]byte, n). -/
theorem make8 (n : Nat) (hn : n ≤ 70368744177664) (W : World) : (Instr.makeSlice 41 (.int .i64 (n : Int)) (.int .i64 (n : Int))).run Tryz.prog W =
    .ok (.slice (some ⟨W.heap.size, 0, none⟩) n n) (W.alloc (.cells (byteVals (List.replicate n 0)) 5)) := by
  rw [run_make_row' 41 5 (.int .u8 0) 1 Tryz.underlying41 info8 rfl .i64 .i64 n (by omega) (by omega) W]
  have e : madeCells #[Value.int .u8 0] n = byteVals (List.replicate n 0) := by
    apply Array.ext'
    rw [toList_madeCells_one]
    simp [byteVals]
  rw [e]
end Go.Proofs.YtgogbpkcceadbaaGreatDoor.Wd
