/-
  Rows of operations.
  Rows of ints that a function owns: appended to one by one.
  segment.Scan: what it tells of a segment, step by step.
-/
import Derived.Test.YtgogbpkcceadbaaGreatDoorOpN
import Derived.Great.Walk
import Derived.Test.YtgogbpkcceadbaaGreatDoorPackA
import Derived.Test.YtgogbpkcceadbaaGreatDoorSegN
import Derived.Lib.OwnKind
namespace Go.Proofs.YtgogbpkcceadbaaGreatDoor.Vc
open Go.RowKit Go.Proofs.YtgogbpkcceadbaaGreatDoor.Wd Go.Sort Go.Proofs Go.Lib
set_option linter.unusedVariables false

abbrev OpN := {o : O // OkO o}
theorem okZero : OkO ⟨0, 0, 0, 0, 0, 0, 0, List.replicate 16 0⟩ :=
  ⟨by decide, by decide, by decide, by decide, by decide, by decide, by decide, ⟨by decide, by decide⟩⟩
instance : Inhabited OpN := ⟨⟨_, okZero⟩⟩
def encO (x : OpN) : List Value := opA x.1
theorem encO_length (x : OpN) : (encO x).length = 23 := opA_length x.2
theorem encO_one (x : OpN) : ∀ v ∈ encO x, v.oneCell' = true := by
  intro v hv
  unfold encO opA at hv
  simp only [List.mem_append, List.mem_cons, List.not_mem_nil, or_false, List.mem_map] at hv
  rcases hv with (rfl | rfl | rfl | rfl | rfl | rfl | rfl) | ⟨x, _, rfl⟩ <;> rfl
/-! ### Rows of operations -/
def flatL (l : List OpN) : List Value := l.flatMap encO
theorem flatL_length (l : List OpN) : (flatL l).length = l.length * 23 := by
  induction l with
  | nil => rfl
  | cons x l ih =>
    unfold flatL at ih ⊢
    rw [List.flatMap_cons, List.length_append, ih, encO_length, List.length_cons]
    omega
theorem flatL_get : ∀ (l : List OpN) (j i : Nat) (x : OpN), l[j]? = some x → i < 23 → (flatL l)[j * 23 + i]? = (encO x)[i]?
  | [], j, i, x, h, _ => by simp at h
  | s :: l, 0, i, x, h, hi => by
    simp only [List.getElem?_cons_zero, Option.some.injEq] at h
    subst h
    unfold flatL
    rw [List.flatMap_cons, List.getElem?_append_left (by rw [encO_length]; omega)]
    congr 1
    omega
  | s :: l, j + 1, i, x, h, hi => by
    have ih := flatL_get l j i x (by simpa using h) hi
    unfold flatL at ih ⊢
    rw [List.flatMap_cons, List.getElem?_append_right (by rw [encO_length]; omega), encO_length, show (j + 1) * 23 + i - 23 = j * 23 + i by omega, ih]
/-- The slice value '.slice A n c' reads as operations. -/
structure RdO (w : World) (A : Option Addr) (n : Nat) (l : List OpN) : Prop where
  len : l.length = n
  fits : n ≤ 9223372036854775807
  cell : 0 < n → ∃ ad, A = some ad ∧ ∀ t u, (flatL l)[t]? = some u → w.cell? (ad.add t) = some u
theorem RdO.below {w w1 : World} {A : Option Addr} {n : Nat} {l : List OpN} (h : RdO w A n l) (hb : Below w.heap.size w w1) : RdO w1 A n l :=
  ⟨h.len, h.fits, fun h0 => by
    obtain ⟨ad, e, hc⟩ := h.cell h0
    refine ⟨ad, e, fun t u hu => ?_⟩
    rw [hb.cell (World.block_lt_of_cell? w _ (hc t u hu))]
    exact hc t u hu⟩
structure OwnO (w : World) (base : Nat) (v : Value) (l : List OpN) : Prop where
  row : w.ownsRow base 34 23 v l.length (flatL l)
theorem OwnO.below {w w' : World} {base : Nat} {v : Value} {l : List OpN} (h : OwnO w base v l) (hb : Below w.heap.size w w') : OwnO w' base v l :=
  ⟨h.row.kept (grown_none hb) (by cases v.ownBlock <;> simp)⟩
theorem OwnO.form {w : World} {base : Nat} {v : Value} {l : List OpN} (h : OwnO w base v l) (h0 : 0 < l.length) : ∃ g c, v = .slice (some ⟨g, 0, none⟩) l.length c ∧ l.length ≤ c ∧ base ≤ g ∧ g < w.heap.size ∧ RdO w (some ⟨g, 0, none⟩) l.length l ∧
    (∀ j, w.frozen? ⟨g, j, none⟩ = false) := by
  rcases h.row.2 with ⟨_, h1⟩ | ⟨g, cap, cur, rfl, hb, hg, hnc, hcm, _⟩
  · omega
  · unfold maxLen at hcm
    refine ⟨g, cap, rfl, hnc, hb, (Array.getElem?_eq_some_iff.1 hg).1, ⟨rfl, by omega, fun _ => ⟨_, rfl, fun t u hu => h.row.cells (g := g) rfl t u hu⟩⟩, fun j => h.row.frozenAt j⟩
theorem loadOp_at {o : O} (ho : OkO o) (a : Addr) (W : World) (h : ∀ i u, (opA o)[i]? = some u → W.cell? (a.add i) = some u) : (ldK 34 a).run Tryz.prog W = .ok (.agg (opA o).toArray) W := by
  have hl := run_loadCells_list (P := Tryz.prog) W a (opA o) h
  rw [opA_length ho] at hl
  obtain ⟨i, hi⟩ := info_of_underlying Tryz.underlying34
  have hsz : i.size = 23 := by
    have h2 : (Tryz.prog.info? 34).map (·.size) = some 23 := by kernel_rfl
    rw [hi] at h2
    simpa using h2
  simp [ldK, loadVar, Sem.run_bind, Tryz.isAgg34, sizeOf, typeInfo, hi, hsz, hl]
theorem RdO.load {w : World} {ad : Addr} {n : Nat} {l : List OpN} (h : RdO w (some ad) n l) {k : Nat} {x : OpN} (hk : l[k]? = some x) (W : World) (hb : Below w.heap.size w W) : (ldK 34 (ad.add (k * 23))).run Tryz.prog W = .ok (.agg (opA x.1).toArray) W := by
  refine loadOp_at x.2 _ W fun i u hu => ?_
  have hkl := (List.getElem?_eq_some_iff.1 hk).1
  have hi : i < 23 := by
    have := (List.getElem?_eq_some_iff.1 hu).1
    rwa [opA_length x.2] at this
  obtain ⟨ad', e, hc⟩ := (h.below hb).cell (by rw [← h.len]; omega)
  injection e with e
  subst e
  rw [add_of_add]
  exact hc _ _ (by rw [flatL_get l k i x hk hi]; exact hu)
attribute [local go_sem ↓] ldKx stKx
def zeroOp : O := ⟨0, 0, 0, 0, 0, 0, 0, List.replicate 16 0⟩
theorem infoO : (Tryz.prog.info? 34).map (fun i => (i.zero, i.size, i.bytes)) = some (some (.agg (opA zeroOp).toArray), 23, 84) := by kernel_rfl
theorem flatL_one (l : List OpN) : ∀ u ∈ flatL l, u.oneCell' = true := by
  intro u hu
  unfold flatL at hu
  obtain ⟨x, _, hx⟩ := List.mem_flatMap.1 hu
  exact encO_one x u hx
/-- The call returns operations in new memory. -/
def GivesO (w : World) (l : List OpN) (e : Ending) (w' : World) : Prop := ∃ v, e = .returned v ∧ OwnO w' w.heap.size v l ∧ Below w.heap.size w w'
theorem list16 {l : List Nat} (h : l.length = 16) : ∃ a0 a1 a2 a3 a4 a5 a6 a7 a8 a9 a10 a11 a12 a13 a14 a15, l = [a0, a1, a2, a3, a4, a5, a6, a7, a8, a9, a10, a11, a12, a13, a14, a15] := by
  rcases l with _ | ⟨a0, _ | ⟨a1, _ | ⟨a2, _ | ⟨a3, _ | ⟨a4, _ | ⟨a5, _ | ⟨a6, _ | ⟨a7, _ | ⟨a8, _ | ⟨a9, _ | ⟨a10, _ | ⟨a11, _ | ⟨a12, _ | ⟨a13, _ | ⟨a14, _ | ⟨a15, _ | ⟨x, r⟩⟩⟩⟩⟩⟩⟩⟩⟩⟩⟩⟩⟩⟩⟩⟩⟩
  all_goals first
    | (exact ⟨_, _, _, _, _, _, _, _, _, _, _, _, _, _, _, _, rfl⟩)
    | (simp at h; done)
theorem build_one (x : OpN) : Tryz.prog.builtSlice 34 1 [(0, .agg (opA x.1).toArray)] = some (flatL [x]).toArray := by
  obtain ⟨⟨r, s, k, c, i, q, t, ctx⟩, ok⟩ := x
  obtain ⟨a0, a1, a2, a3, a4, a5, a6, a7, a8, a9, a10, a11, a12, a13, a14, a15, rfl⟩ := list16 ok.ctx.len
  kernel_rfl
theorem rdOne (w : World) (x : OpN) : RdO (w.alloc (.cells (flatL [x]).toArray 34)) (some ⟨w.heap.size, 0, none⟩) 1 [x] :=
  ⟨rfl, by decide, fun _ => ⟨_, rfl, fun t u hu => by
    have hadd : (⟨w.heap.size, 0, none⟩ : Addr).add t = ⟨w.heap.size, t, none⟩ := by unfold Addr.add; split <;> simp_all
    rw [hadd, cell_of_row _ w.heap.size t _ _ _ (heap_alloc_new w _)]
    simpa using hu⟩⟩
theorem OwnO.nil_ (w : World) (base : Nat) : OwnO w base (.slice none 0 0) [] := ⟨World.ownsRow_nil _ _ _ _⟩
theorem OwnO.sl {w : World} {base : Nat} {v : Value} {l : List OpN} (h : OwnO w base v l) : ∃ A c, v = .slice A l.length c := by
  rcases h.row.2 with ⟨h1, h2⟩ | ⟨g, c, cur, h1, _⟩
  · exact ⟨none, 0, by rw [h1, h2]⟩
  · exact ⟨_, c, h1⟩
theorem OwnO.rdo {w : World} {base n : Nat} {A : Option Addr} {c : Nat} {l : List OpN} (h : OwnO w base (.slice A n c) l) : n = l.length ∧ RdO w A l.length l := by
  by_cases h0 : 0 < l.length
  · obtain ⟨g, c', e, _, _, _, hr, _⟩ := h.form h0
    injection e with e1 e2 e3
    subst e1 e2
    exact ⟨rfl, hr⟩
  · obtain ⟨B, c', e⟩ := h.sl
    injection e with e1 e2 e3
    subst e2
    have hl : l = [] := List.eq_nil_of_length_eq_zero (by omega)
    subst hl
    exact ⟨rfl, ⟨rfl, by decide, fun h => absurd h (by decide)⟩⟩
/-- The block of a slice's address. -/
theorem own_block {A : Option Addr} {n c : Nat} : (Value.slice A n c).ownBlock = A.map (·.block) := by cases A <;> rfl
theorem appO_lies {ops : Array Oper} {rest : List Oper} {o : Oper} {a : Act} {Q : Exit → Act → World → Prop} {w : World} (base : Nat) (hgd : o.guard = none) (s x : Operand)
    (ho : o.op = .call { callee := .builtin .append, args := #[s, x], argTypes := #[22, 22] })
    {v : Value} {l m : List OpN} {ad : Addr} {k c : Nat} (hs : a.eval s = v) (hx : a.eval x = .slice (some ad) k c) (h : OwnO w base v l) (hm : RdO w (some ad) k m) (h0 : 0 < k)
    (hb : l.length + k ≤ 1000000) (hbase : base ≤ w.heap.size)
    (hk : ∀ v' w', OwnO w' base v' (l ++ m) → w.grownBy w' v.ownBlock → (v'.ownBlock = v.ownBlock ∨ v'.ownBlock = some w.heap.size) → wpList Tryz.prog ops Q rest (a.put o.dst v') w') : wpList Tryz.prog ops Q (o :: rest) a w := by
  refine wpList_plain hgd fun _ hK => ?_
  obtain ⟨i0, hi0, hz0, hz1, hz2⟩ := info_parts infoO
  obtain ⟨ad', e, hc⟩ := hm.cell h0
  injection e with e
  subst e
  obtain ⟨v', w', hrun, h2, h3, _, h7⟩ := run_append_own_at (P := Tryz.prog) w base 22 o.type 34 i0 _ 23 84 Tryz.underlying22 hi0 hz0 hz1 hz2 (by show (opA zeroOp).toArray.size = 23; rw [List.size_toArray]; exact opA_length okZero) (by decide) v l.length (flatL l) h.row ad k c (flatL m)
      (by rw [flatL_length, hm.len]) hc (flatL_one m) (by unfold maxLen; omega) (by omega) hbase
  have h6 : OwnO w' base v' (l ++ m) := ⟨by
    rw [List.length_append, hm.len, show flatL (l ++ m) = flatL l ++ flatL m by simp [flatL]]
    exact h2⟩
  unfold Oper.wp execOp
  simp only [ho, resolve, invoke, builtin, Sem.run_bind, Sem.run_pure, Result.andThen_ok, List.map_toArray, List.map_cons, List.map_nil, hs, hx, hrun]
  exact hK _ _ (hk v' w' h6 h3 h7)
/-- What is read stays, where another row has grown. -/
theorem RdO.kept {w w' : World} {A : Option Addr} {n : Nat} {l : List OpN} {row : Option Nat} (h : RdO w A n l) (hg : w.grownBy w' row) (hne : ∀ b, row = some b → ∀ ad, A = some ad → ad.block ≠ b) : RdO w' A n l :=
  ⟨h.len, h.fits, fun h0 => by
    obtain ⟨ad, e, hc⟩ := h.cell h0
    refine ⟨ad, e, fun t u hu => ?_⟩
    have h1 := hc t u hu
    have hb : (ad.add t).block = ad.block := by unfold Addr.add; split <;> rfl
    have hlt := World.block_lt_of_cell? w _ h1
    rw [hb] at hlt
    have hx : w'.heap[(ad.add t).block]? = w.heap[(ad.add t).block]? := by rw [hb]; exact hg.block _ hlt (fun e2 => hne ad.block e2.symm ad e rfl)
    rw [World.cell?_of_block hx]
    exact h1⟩
theorem load_own {w : World} {A : Option Addr} {n : Nat} {l : List OpN} (h : RdO w A n l) {k : Nat} (hk : k < n) : ∃ ad, A = some ad ∧ (ldK 34 (ad.add (k * 23))).run Tryz.prog w = .ok (.agg (opA l[k]!.1).toArray) w := by
  obtain ⟨ad, e, _⟩ := h.cell (by omega)
  subst e
  refine ⟨ad, rfl, h.load (k := k) (x := l[k]!) ?_ w (Below.refl _ _)⟩
  have hl : k < l.length := by rw [h.len]; exact hk
  rw [List.getElem?_eq_getElem hl, getElem!_pos l k hl]
theorem RdO.take {w : World} {A : Option Addr} {n k : Nat} {l : List OpN} (h : RdO w A n l) (hk : k ≤ n) : RdO w A k (l.take k) := by
  refine ⟨by rw [List.length_take, h.len]; omega, by have := h.fits; omega, fun h0 => ?_⟩
  obtain ⟨ad, e, hc⟩ := h.cell (by omega)
  refine ⟨ad, e, fun t u hu => hc t u ?_⟩
  have ht : t < k * 23 := by
    have := (List.getElem?_eq_some_iff.1 hu).1
    rw [flatL_length, List.length_take, h.len] at this
    omega
  have hl : flatL l = flatL (l.take k) ++ flatL (l.drop k) := by rw [show flatL (l.take k) ++ flatL (l.drop k) = flatL (l.take k ++ l.drop k) by simp only [flatL, List.flatMap_append], List.take_append_drop]
  rw [hl, List.getElem?_append_left (by rw [flatL_length, List.length_take, h.len]; omega)]
  exact hu

end Go.Proofs.YtgogbpkcceadbaaGreatDoor.Vc
namespace Go.Proofs.YtgogbpkcceadbaaGreatDoor.Wd
open Go.RowKit

theorem infoI : (Tryz.prog.info? 3).map (fun i => (i.zero, i.size, i.bytes)) = some (some (.int .i64 0), 1, 8) := by kernel_rfl
def ivals (xs : List Nat) : List Value := xs.map fun x => Value.int .i64 ((x : Nat) : Int)
theorem ivals_length (xs : List Nat) : (ivals xs).length = xs.length := by simp [ivals]
theorem ivals_get {xs : List Nat} {j : Nat} (h : j < xs.length) : (ivals xs)[j]? = some (.int .i64 ((xs.getD j 0 : Nat) : Int)) := by
  simp [ivals, List.getElem?_eq_getElem h, List.getD_eq_getElem?_getD]
structure OwnI (w : World) (base : Nat) (v : Value) (xs : List Nat) : Prop where
  row : w.ownsRow base 3 1 v xs.length (ivals xs)
theorem OwnI.nil_ (w : World) (base : Nat) : OwnI w base (.slice none 0 0) [] := ⟨World.ownsRow_nil _ _ _ _⟩
theorem OwnI.grown {w w' : World} {base : Nat} {v : Value} {xs : List Nat} {row : Option Nat} (h : OwnI w base v xs) (hg : w.grownBy w' row) (hne : v.ownBlock = none ∨ v.ownBlock ≠ row) : OwnI w' base v xs := ⟨h.row.kept hg hne⟩
theorem OwnI.below {w w' : World} {base : Nat} {v : Value} {xs : List Nat} (h : OwnI w base v xs) (hb : Below w.heap.size w w') : OwnI w' base v xs :=
  ⟨h.row.kept (grown_none hb) (by cases v.ownBlock <;> simp)⟩
theorem OwnI.alloc {w : World} {base : Nat} {v : Value} {xs : List Nat} (h : OwnI w base v xs) (o : Obj) : OwnI (w.alloc o) base v xs := ⟨h.row.alloc o⟩
theorem OwnI.to_below {w0 w w' : World} {base : Nat} {v : Value} {xs : List Nat} (h : OwnI w base v xs) (hb : Below base w0 w) (hbase : base ≤ w.heap.size) (hg : w.grownBy w' v.ownBlock) : Below base w0 w' :=
  hb.grown hg hbase fun k hk => (h.row.lt k hk).1
theorem OwnI.rd {w : World} {base : Nat} {v : Value} {xs : List Nat} (h : OwnI w base v xs) : ∃ A c, v = .slice A xs.length c ∧ xs.length ≤ c ∧ (0 < xs.length → ∃ ad, A = some ad ∧ ∀ j, j < xs.length → w.cell? (ad.add j) = some (.int .i64 ((xs.getD j 0 : Nat) : Int))) := by
  rcases h.row.2 with ⟨rfl, h0⟩ | ⟨g, cap, cur, rfl, _, _, hnc, hcm, _⟩
  · have : xs = [] := List.eq_nil_of_length_eq_zero h0
    subst this
    exact ⟨none, 0, rfl, Nat.le_refl _, fun h => absurd h (by decide)⟩
  · exact ⟨_, cap, rfl, hnc, fun _ => ⟨_, rfl, fun j hj => h.row.cells (g := g) rfl j _ (ivals_get hj)⟩⟩
theorem appI_wp {o : Oper} {a : Act} {K : Act → World → Prop} {Q : Exit → Act → World → Prop} (w : World) (base : Nat) (s x : Operand)
    (ho : o.op = .call { callee := .builtin .append, args := #[s, x], argTypes := #[45, 45] })
    {v : Value} {xs : List Nat} {y : Nat} {ad : Addr} {c : Nat} (hs : a.eval s = v) (hx : a.eval x = .slice (some ad) 1 c) (h : OwnI w base v xs) (hu : w.cell? ad = some (.int .i64 ((y : Nat) : Int)))
    (hb : xs.length ≤ 1000000) (hbase : base ≤ w.heap.size)
    (hk : ∀ v' w', OwnI w' base v' (xs ++ [y]) → w.grownBy w' v.ownBlock → (v'.ownBlock = v.ownBlock ∨ v'.ownBlock = some w.heap.size) → K (a.put o.dst v') w') : o.wp Tryz.prog a w K Q := by
  obtain ⟨i0, hi0, hz0, hz1, hz2⟩ := info_parts infoI
  obtain ⟨v', w', hrun, h2, h3, _, h5⟩ := run_append_own_at (P := Tryz.prog) w base 45 o.type 3 i0 _ 1 8 Tryz.underlying45 hi0 hz0 hz1 hz2 rfl (by decide) v xs.length (ivals xs) h.row ad 1 c (ivals [y])
      (by simp [ivals]) (fun j z hz => by
        rcases j with _ | j
        · simp only [ivals, List.map_cons, List.map_nil, List.getElem?_cons_zero, Option.some.injEq] at hz
          subst hz
          rw [show ad.add 0 = ad from add_zero_ ad]
          exact hu
        · simp [ivals] at hz)
      (fun z hz => by
        obtain ⟨x, _, rfl⟩ := List.mem_map.1 hz
        rfl) (by unfold maxLen; omega) (by omega) hbase
  have h6 : OwnI w' base v' (xs ++ [y]) := ⟨by
    have e : ivals (xs ++ [y]) = ivals xs ++ ivals [y] := by simp [ivals]
    rw [e, List.length_append]
    exact h2⟩
  unfold Oper.wp execOp
  simp only [ho, resolve, invoke, builtin, Sem.run_bind, Sem.run_pure, Result.andThen_ok, List.map_toArray, List.map_cons, List.map_nil, hs, hx, hrun]
  exact hk v' w' h6 h3 h5
theorem appI_list {ops : Array Oper} {rest : List Oper} {o : Oper} {a : Act} {Q : Exit → Act → World → Prop} {w : World} (base : Nat) (hgd : o.guard = none) (s x : Operand)
    (ho : o.op = .call { callee := .builtin .append, args := #[s, x], argTypes := #[45, 45] })
    {v : Value} {xs : List Nat} {y : Nat} {ad : Addr} {c : Nat} (hs : a.eval s = v) (hx : a.eval x = .slice (some ad) 1 c) (h : OwnI w base v xs) (hu : w.cell? ad = some (.int .i64 ((y : Nat) : Int)))
    (hb : xs.length ≤ 1000000) (hbase : base ≤ w.heap.size)
    (hk : ∀ v' w', OwnI w' base v' (xs ++ [y]) → w.grownBy w' v.ownBlock → (v'.ownBlock = v.ownBlock ∨ v'.ownBlock = some w.heap.size) → wpList Tryz.prog ops Q rest (a.put o.dst v') w') : wpList Tryz.prog ops Q (o :: rest) a w :=
  wpList_plain hgd fun _ hK => appI_wp w base s x ho hs hx h hu hb hbase fun v' w' h2 h3 h4 => hK _ _ (hk v' w' h2 h3 h4)
end Go.Proofs.YtgogbpkcceadbaaGreatDoor.Wd
namespace Go.Proofs.YtgogbpkcceadbaaGreatDoor.Sg
open Go.RowKit Go.Proofs.YtgogbpkcceadbaaGreatDoor.Wd Go.Proofs.YtgogbpkcceadbaaGreatDoor.VintP Go.Proofs.YtgogbpkcceadbaaGreatDoor.VintW Go.Proofs.YtgogbpkcceadbaaGreatDoor.Pk Go.Proofs.YtgogbpkcceadbaaGreatDoor.Vc Go.Proofs.YtgogbpkcceadbaaGreatDoor.CrcW Go.Proofs.YtgogbpkcceadbaaGreatDoor.FrameP Go.Proofs.YtgogbpkcceadbaaGreatDoor.FrameW
set_option linter.unusedVariables false

/-- What is told so far. -/
structure InfAt (w : World) (B X id : Nat) (vo va : Value) (sl : Bool) (u : Nat) (l : List OpN) (ats_ : List Nat) : Prop where
  base : B ≤ X
  row : w.heap[X]? = some (.cells #[.int .u32 (id : Int), vo, va, .bool sl, .int .i64 (u : Int)] 47 (0, 0))
  ops : OwnO w B vo l
  ats : OwnI w B va ats_
theorem InfAt.lt {w : World} {B X id u : Nat} {vo va : Value} {sl : Bool} {l : List OpN} {ats_ : List Nat} (h : InfAt w B X id vo va sl u l ats_) : X < w.heap.size := (Array.getElem?_eq_some_iff.1 h.row).1
theorem InfAt.below {w w' : World} {B X id u : Nat} {vo va : Value} {sl : Bool} {l : List OpN} {ats_ : List Nat} (h : InfAt w B X id vo va sl u l ats_) (hb : Below w.heap.size w w') : InfAt w' B X id vo va sl u l ats_ :=
  ⟨h.base, by rw [hb.block X h.lt]; exact h.row, h.ops.below hb, h.ats.below hb⟩
theorem InfAt.c {w : World} {B X id u : Nat} {vo va : Value} {sl : Bool} {l : List OpN} {ats_ : List Nat} (h : InfAt w B X id vo va sl u l ats_) (k : Nat) : w.cell? ⟨X, k, none⟩ = (#[.int .u32 (id : Int), vo, va, .bool sl, .int .i64 (u : Int)] : Array Value)[k]? := cell_of_row w X k _ _ _ h.row
theorem InfAt.fz {w : World} {B X id u : Nat} {vo va : Value} {sl : Bool} {l : List OpN} {ats_ : List Nat} (h : InfAt w B X id vo va sl u l ats_) (k : Nat) : w.frozen? ⟨X, k, none⟩ = false := by simp [World.frozen?, h.row]
theorem own_ne {w : World} {B : Nat} {e T : TypeId} {size n : Nat} {v : Value} {xs : List Value} {X : Nat} {cs : Array Value} {fr : Nat × Nat} (h : w.ownsRow B e size v n xs) (hb : w.heap[X]? = some (.cells cs T fr)) (hT : T ≠ e) : v.ownBlock ≠ some X := by
  intro hv
  obtain ⟨c, fz, h1⟩ := Lib.ownsRow_kind h X hv
  rw [h1] at hb
  injection hb with hb
  injection hb with _ hb _
  exact hT hb.symm
theorem InfAt.neo {w : World} {B X id u : Nat} {vo va : Value} {sl : Bool} {l : List OpN} {ats_ : List Nat} (h : InfAt w B X id vo va sl u l ats_) : vo.ownBlock ≠ some X := own_ne h.ops.row h.row (by decide)
theorem InfAt.nea {w : World} {B X id u : Nat} {vo va : Value} {sl : Bool} {l : List OpN} {ats_ : List Nat} (h : InfAt w B X id vo va sl u l ats_) : va.ownBlock ≠ some X := own_ne h.ats.row h.row (by decide)
theorem InfAt.sep {w : World} {B X id u : Nat} {vo va : Value} {sl : Bool} {l : List OpN} {ats_ : List Nat} (h : InfAt w B X id vo va sl u l ats_) : vo.ownBlock = none ∨ vo.ownBlock ≠ va.ownBlock := by
  cases hv : vo.ownBlock with
  | none => exact .inl rfl
  | some g =>
    refine .inr fun e => ?_
    obtain ⟨c, fz, h1⟩ := Lib.ownsRow_kind h.ops.row g hv
    exact own_ne h.ats.row h1 (by decide) e.symm
theorem OwnO.kept {w w' : World} {base : Nat} {v : Value} {l : List OpN} {row : Option Nat} (h : OwnO w base v l) (hg : w.grownBy w' row) (hne : v.ownBlock = none ∨ v.ownBlock ≠ row) : OwnO w' base v l := ⟨h.row.kept hg hne⟩
/-- A cell of its own is stored. -/
theorem InfAt.used {w : World} {B X id u : Nat} {vo va : Value} {sl : Bool} {l : List OpN} {ats_ : List Nat} (h : InfAt w B X id vo va sl u l ats_) (u' : Nat) : InfAt (w.setCell ⟨X, 4, none⟩ (.int .i64 (u' : Int))) B X id vo va sl u' l ats_ := by
  have hg := grown_setCell w X 4 (.int .i64 (u' : Int))
  refine ⟨h.base, ?_, OwnO.kept h.ops hg (.inr h.neo), h.ats.grown hg (.inr h.nea)⟩
  rw [setCell_eq_setRow w X 4 _ _ _ _ h.row, setRow_heap w X _ _ _ _ h.row]
  rfl
theorem InfAt.shuts {w : World} {B X id u : Nat} {vo va : Value} {sl : Bool} {l : List OpN} {ats_ : List Nat} (h : InfAt w B X id vo va sl u l ats_) : InfAt (w.setCell ⟨X, 3, none⟩ (.bool true)) B X id vo va true u l ats_ := by
  have hg := grown_setCell w X 3 (.bool true)
  refine ⟨h.base, ?_, OwnO.kept h.ops hg (.inr h.neo), h.ats.grown hg (.inr h.nea)⟩
  rw [setCell_eq_setRow w X 3 _ _ _ _ h.row, setRow_heap w X _ _ _ _ h.row]
  rfl
/-- An operation has been appended, and the slice is stored. -/
theorem InfAt.addO {w w' : World} {B X id u : Nat} {vo va vo' : Value} {sl : Bool} {l l' : List OpN} {ats_ : List Nat} (h : InfAt w B X id vo va sl u l ats_) (ho : OwnO w' B vo' l') (hg : w.grownBy w' vo.ownBlock) :
    w'.cell? ⟨X, 1, none⟩ = some vo ∧ w'.frozen? ⟨X, 1, none⟩ = false ∧ InfAt (w'.setCell ⟨X, 1, none⟩ vo') B X id vo' va sl u l' ats_ := by
  have hrow : w'.heap[X]? = some (.cells #[.int .u32 (id : Int), vo, va, .bool sl, .int .i64 (u : Int)] 47 (0, 0)) := by rw [hg.block X h.lt (fun e => h.neo e.symm)]; exact h.row
  have hgs := grown_setCell w' X 1 vo'
  have hats : OwnI w' B va ats_ := h.ats.grown hg (by
    rcases h.sep with e | e
    · by_cases hv : va.ownBlock = none
      · exact .inl hv
      · exact .inr (fun e2 => hv (e2.trans e))
    · exact .inr (fun e2 => e e2.symm))
  refine ⟨by rw [cell_of_row w' X 1 _ _ _ hrow]; rfl, by simp [World.frozen?, hrow], h.base, ?_, OwnO.kept ho hgs (.inr (own_ne ho.row hrow (by decide))), hats.grown hgs (.inr (own_ne hats.row hrow (by decide)))⟩
  rw [setCell_eq_setRow w' X 1 _ _ _ _ hrow, setRow_heap w' X _ _ _ _ hrow]
  rfl
theorem InfAt.addI {w w' : World} {B X id u : Nat} {vo va va' : Value} {sl : Bool} {l : List OpN} {ats_ ats2 : List Nat} (h : InfAt w B X id vo va sl u l ats_) (hi : OwnI w' B va' ats2) (hg : w.grownBy w' va.ownBlock) :
    w'.cell? ⟨X, 2, none⟩ = some va ∧ w'.frozen? ⟨X, 2, none⟩ = false ∧ InfAt (w'.setCell ⟨X, 2, none⟩ va') B X id vo va' sl u l ats2 := by
  have hrow : w'.heap[X]? = some (.cells #[.int .u32 (id : Int), vo, va, .bool sl, .int .i64 (u : Int)] 47 (0, 0)) := by rw [hg.block X h.lt (fun e => h.nea e.symm)]; exact h.row
  have hgs := grown_setCell w' X 2 va'
  have hops : OwnO w' B vo l := OwnO.kept h.ops hg h.sep
  refine ⟨by rw [cell_of_row w' X 2 _ _ _ hrow]; rfl, by simp [World.frozen?, hrow], h.base, ?_, OwnO.kept hops hgs (.inr (own_ne hops.row hrow (by decide))), hi.grown hgs (.inr (own_ne hi.row hrow (by decide)))⟩
  rw [setCell_eq_setRow w' X 2 _ _ _ _ hrow, setRow_heap w' X _ _ _ _ hrow]
  rfl

/-- .. with what lies around it. -/
structure StAt (w0 w : World) (X id : Nat) (vo va : Value) (sl : Bool) (u : Nat) (l : List OpN) (ats_ : List Nat) : Prop where
  inf : InfAt w w0.heap.size X id vo va sl u l ats_
  blw : Below w0.heap.size w0 w
  res : w.heap[w0.heap.size]? = some (.cells #[.int .u32 0, .slice none 0 0, .slice none 0 0, .bool false, .int .i64 0] 47 (0, 0))
  hx : w0.heap.size < X
theorem StAt.below {w0 w w' : World} {X id u : Nat} {vo va : Value} {sl : Bool} {l : List OpN} {ats_ : List Nat} (h : StAt w0 w X id vo va sl u l ats_) (hb : Below w.heap.size w w') : StAt w0 w' X id vo va sl u l ats_ :=
  ⟨h.inf.below hb, h.blw.trans (hb.mono h.blw.size), by rw [hb.block _ (Array.getElem?_eq_some_iff.1 h.res).1]; exact h.res, h.hx⟩
theorem StAt.cellX {w0 w : World} {X id u : Nat} {vo va : Value} {sl : Bool} {l : List OpN} {ats_ : List Nat} (h : StAt w0 w X id vo va sl u l ats_) {w' : World} (hg : w.grownBy w' (some X)) :
    Below w0.heap.size w0 w' ∧ w'.heap[w0.heap.size]? = some (.cells #[.int .u32 0, .slice none 0 0, .slice none 0 0, .bool false, .int .i64 0] 47 (0, 0)) :=
  ⟨h.blw.grown hg h.blw.size (fun j hj => by injection hj with hj; have := h.hx; omega), by rw [hg.block _ (Array.getElem?_eq_some_iff.1 h.res).1 (fun e => by injection e with e; have := h.hx; omega)]; exact h.res⟩
theorem StAt.used {w0 w : World} {X id u : Nat} {vo va : Value} {sl : Bool} {l : List OpN} {ats_ : List Nat} (h : StAt w0 w X id vo va sl u l ats_) (u' : Nat) : StAt w0 (w.setCell ⟨X, 4, none⟩ (.int .i64 (u' : Int))) X id vo va sl u' l ats_ := by
  have hg := grown_setCell w X 4 (.int .i64 (u' : Int))
  exact ⟨h.inf.used u', (h.cellX hg).1, (h.cellX hg).2, h.hx⟩
theorem StAt.shuts {w0 w : World} {X id u : Nat} {vo va : Value} {sl : Bool} {l : List OpN} {ats_ : List Nat} (h : StAt w0 w X id vo va sl u l ats_) : StAt w0 (w.setCell ⟨X, 3, none⟩ (.bool true)) X id vo va true u l ats_ := by
  have hg := grown_setCell w X 3 (.bool true)
  exact ⟨h.inf.shuts, (h.cellX hg).1, (h.cellX hg).2, h.hx⟩
theorem StAt.addO {w0 w w' : World} {X id u : Nat} {vo va vo' : Value} {sl : Bool} {l l' : List OpN} {ats_ : List Nat} (h : StAt w0 w X id vo va sl u l ats_) (ho : OwnO w' w0.heap.size vo' l') (hg : w.grownBy w' vo.ownBlock) :
    w'.cell? ⟨X, 1, none⟩ = some vo ∧ w'.frozen? ⟨X, 1, none⟩ = false ∧ StAt w0 (w'.setCell ⟨X, 1, none⟩ vo') X id vo' va sl u l' ats_ := by
  obtain ⟨e1, e2, hi⟩ := h.inf.addO ho hg
  have hx := h.hx
  have hb := h.blw.grown hg h.blw.size (fun kk hkk => (h.inf.ops.row.lt kk hkk).1)
  have hr : w'.heap[w0.heap.size]? = some (.cells #[.int .u32 0, .slice none 0 0, .slice none 0 0, .bool false, .int .i64 0] 47 (0, 0)) := by rw [hg.block _ (Array.getElem?_eq_some_iff.1 h.res).1 (fun e => own_ne h.inf.ops.row h.res (by decide) e.symm)]; exact h.res
  have hgs := grown_setCell w' X 1 vo'
  exact ⟨e1, e2, hi, hb.grown hgs hb.size (fun j hj => by injection hj with hj; omega), by rw [hgs.block _ (Array.getElem?_eq_some_iff.1 hr).1 (fun e => by injection e with e; omega)]; exact hr, hx⟩
theorem StAt.addI {w0 w w' : World} {X id u : Nat} {vo va va' : Value} {sl : Bool} {l : List OpN} {ats_ ats2 : List Nat} (h : StAt w0 w X id vo va sl u l ats_) (hi : OwnI w' w0.heap.size va' ats2) (hg : w.grownBy w' va.ownBlock) :
    w'.cell? ⟨X, 2, none⟩ = some va ∧ w'.frozen? ⟨X, 2, none⟩ = false ∧ StAt w0 (w'.setCell ⟨X, 2, none⟩ va') X id vo va' sl u l ats2 := by
  obtain ⟨e1, e2, hj⟩ := h.inf.addI hi hg
  have hx := h.hx
  have hb := h.blw.grown hg h.blw.size (fun kk hkk => (h.inf.ats.row.lt kk hkk).1)
  have hr : w'.heap[w0.heap.size]? = some (.cells #[.int .u32 0, .slice none 0 0, .slice none 0 0, .bool false, .int .i64 0] 47 (0, 0)) := by rw [hg.block _ (Array.getElem?_eq_some_iff.1 h.res).1 (fun e => own_ne h.inf.ats.row h.res (by decide) e.symm)]; exact h.res
  have hgs := grown_setCell w' X 2 va'
  exact ⟨e1, e2, hj, hb.grown hgs hb.size (fun j hj => by injection hj with hj; omega), by rw [hgs.block _ (Array.getElem?_eq_some_iff.1 hr).1 (fun e => by injection e with e; omega)]; exact hr, hx⟩

/-! ### A segment's bytes -/
def recs : List OpN → List Nat
  | [] => []
  | o :: l => recB o.1 ++ recs l
def headB (id : Nat) : List Nat := wrap (enc 1 ++ enc id)
def footB (n : Nat) : List Nat := wrap (enc 3 ++ enc n)
def segB (id : Nat) (l : List OpN) (s : Bool) : List Nat := headB id ++ (recs l ++ if s then footB l.length else [])
theorem recs_append (l m : List OpN) : recs (l ++ m) = recs l ++ recs m := by
  induction l with
  | nil => rfl
  | cons o l ih => simp only [List.cons_append, recs, ih, List.append_assoc]
theorem wrap_le {b : List Nat} (h : b.length ≤ 300) : (wrap b).length ≤ 314 := by
  have := (enc_length b.length).2
  rw [wrap_length]
  omega
theorem recBody_le (o : O) : (enc 2 ++ (enc (encOp o).length ++ encOp o)).length ≤ 270 := by
  have h1 := encOp_length o
  have h2 := (enc_length (encOp o).length).2
  have h3 := (enc_length 2).2
  rw [List.length_append, List.length_append]
  omega
theorem recs_length (l : List OpN) : (recs l).length ≤ 314 * l.length := by
  induction l with
  | nil => exact Nat.le_refl _
  | cons o l ih =>
    have h := wrap_le (b := enc 2 ++ (enc (encOp o.1).length ++ encOp o.1)) (by have := recBody_le o.1; omega)
    simp only [recs, recB, List.length_append, List.length_cons]
    omega
/-- Behind some records stands the next one. -/
theorem seg_drop {id : Nat} {l : List OpN} {s : Bool} {k : Nat} (hk : k ≤ l.length) :
    (segB id l s).drop ((headB id).length + (recs (l.take k)).length) = recs (l.drop k) ++ if s then footB l.length else [] := by
  have e : segB id l s = (headB id ++ recs (l.take k)) ++ (recs (l.drop k) ++ if s then footB l.length else []) := by
    unfold segB
    conv => lhs; rw [← List.take_append_drop k l, recs_append]
    simp
  rw [e, ← List.length_append, List.drop_left]
end Go.Proofs.YtgogbpkcceadbaaGreatDoor.Sg
