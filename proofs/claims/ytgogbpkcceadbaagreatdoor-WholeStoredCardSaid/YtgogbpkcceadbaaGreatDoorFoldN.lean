/-
  The map of tallies; what fold.View comes to; rows of lines.
  fold.View: what it keeps from step to step.
-/
import Derived.Test.YtgogbpkcceadbaaGreatDoorFoldT
import Derived.Test.YtgogbpkcceadbaaGreatDoorEqSO
import Derived.Test.YtgogbpkcceadbaaGreatDoorSrtU
import Derived.Maps.OwnOps
import Derived.Maps.OwnSet
import Derived.Carry
namespace Go.Proofs.YtgogbpkcceadbaaGreatDoor.Vc
open Go.RowKit Go.Proofs.YtgogbpkcceadbaaGreatDoor.Wd Go.Proofs.YtgogbpkcceadbaaGreatDoor.Pk
set_option linter.unusedVariables false

open Classical in
noncomputable def taR (v : Value) : Option (DataW Ta × List MemPlace) := if h : ∃ t, OkTa t ∧ v = .agg (taA t).toArray then some (.held h.choose, []) else none
theorem taR_mk {t : Ta} (ht : OkTa t) : taR (.agg (taA t).toArray) = some (.held t, []) := by
  have h : ∃ s, OkTa s ∧ Value.agg (taA t).toArray = .agg (taA s).toArray := ⟨t, ht, rfl⟩
  unfold taR
  rw [dif_pos h]
  obtain ⟨h1, h2⟩ := h.choose_spec
  have h3 : taA t = taA h.choose := by
    injection h2 with h2
    have := congrArg Array.toList h2
    simpa using this
  rw [← taA_inj ht h1 h3]
theorem taR_inv {v : Value} {z : DataW Ta × List MemPlace} (h : taR v = some z) : ∃ t, OkTa t ∧ v = .agg (taA t).toArray ∧ z = (.held t, []) := by
  unfold taR at h
  split at h
  · rename_i hx
    injection h with h
    exact ⟨hx.choose, hx.choose_spec.1, hx.choose_spec.2, h.symm⟩
  · cases h
def tAt (D : DataW Ta) (n : Nat) : Ta := match D.atKey (.int .u16 (n : Int)) (.held zeroTa) with | .held t => t | _ => zeroTa
abbrev MapT (w : World) (b n : Nat) (D : DataW Ta) : Prop := w.ownsMap Tryz.prog 23 taR b n D
theorem keyedT : Go.Maps.Keyed Tryz.prog 23 := Go.Maps.int_keyed Tryz.underlying23
theorem key16 {n : Nat} (hn : n ≤ 65535) : keyOf Tryz.prog 23 (.int .u16 (n : Int)) = some (.int .u16 (n : Int)) :=
  Go.Maps.keyOf_int_mk Tryz.underlying23 (wf16 hn)
theorem zeroTaV (w : World) : (zeroValue 60).run Tryz.prog w = .ok (.agg (taA zeroTa).toArray) w := by kernel_rfl
theorem MapT.look {w : World} {b n : Nat} {D : DataW Ta} (h : MapT w b n D) {k : Nat} (hk : k ≤ 65535) :
    OkTa (tAt D k) ∧ (Instr.lookup 57 (.map (some b)) (.int .u16 (k : Int)) false).run Tryz.prog w = .ok (.agg (taA (tAt D k)).toArray) w := by
  obtain ⟨v, ps, hr, hv⟩ := World.ownsMap.lookup h keyedT Tryz.underlying57 (zeroTaV w) (taR_mk okZeroTa) (key16 hk)
  obtain ⟨t, ht, rfl, hz⟩ := taR_inv hv
  injection hz with hz _
  have e : tAt D k = t := by unfold tAt; rw [hz]
  rw [e]
  exact ⟨ht, hr⟩
theorem MapT.put {w : World} {b n : Nat} {D : DataW Ta} (h : MapT w b n D) {k : Nat} (hk : k ≤ 65535) (hn : n ≤ 1000) {t : Ta} (ht : OkTa t) :
    ∃ w', (Instr.mapUpdate 57 (.map (some b)) (.int .u16 (k : Int)) (.agg (taA t).toArray)).run Tryz.prog w = .ok () w' ∧ MapT w' b (n + 1) (D.put (.int .u16 (k : Int)) (.held t)) ∧ w.grownBy w' (some b) :=
  World.ownsMap.update h keyedT Tryz.underlying57 (by unfold maxLen; omega) (key16 hk) (taR_mk ht)

/-! ### What is seen -/
structure VS where
  tick : Nat
  out : Bool
  map : DataW Ta
def vStep (L : List OpN) (cart : Nat) (s : VS) (x : OpN) : VS :=
  if x.1.cart = cart then
    if liveB L x.1 = true then
      if x.1.kind = 4 then ⟨max s.tick x.1.tick, true, s.map⟩ else ⟨max s.tick x.1.tick, s.out, s.map.put (.int .u16 (x.1.item : Int)) (.held (takeT (tAt s.map x.1.item) x.1))⟩
    else ⟨max s.tick x.1.tick, s.out, s.map⟩
  else s
def vFold (L : List OpN) (cart : Nat) (l : List OpN) : VS := l.foldl (vStep L cart) ⟨0, false, .map []⟩
theorem vFold_snoc (L : List OpN) (cart : Nat) (l : List OpN) (x : OpN) : vFold L cart (l ++ [x]) = vStep L cart (vFold L cart l) x := by
  unfold vFold
  rw [List.foldl_append]
  rfl
def keysN (D : DataW Ta) : List Nat := ((intKeys D).mergeSort leI).map Int.toNat
def lineOf (D : DataW Ta) (n : Nat) : Nat × Nat := (n, ((tAt D n).sum + (tAt D n).set.qty) % 4294967296)
def linesV (L : List OpN) (cart : Nat) : List (Nat × Nat) := (keysN (vFold L cart L).map).map (lineOf (vFold L cart L).map)
/-- What is seen of a cart. -/
def viewV (L : List OpN) (cart : Nat) : Nat × Bool × List (Nat × Nat) := ((vFold L cart L).tick, (vFold L cart L).out, linesV L cart)
theorem MapT.keys {w : World} {b n : Nat} {D : DataW Ta} (h : MapT w b n D) : (∀ x ∈ keysN D, x ≤ 65535) ∧ ((intKeys D).mergeSort leI).map Srt.encU = (keysN D).map (fun x => .int .u16 ((x : Nat) : Int)) ∧ (keysN D).length = (intKeys D).length ∧ (intKeys D).length ≤ n := by
  have hw := Srt.intKeys_wf h Tryz.underlying23
  have hw2 : ∀ x ∈ (intKeys D).mergeSort leI, 0 ≤ x ∧ x ≤ 65535 := fun x hx => by
    have := hw x ((List.mergeSort_perm _ _).mem_iff.1 hx)
    have e1 : IntKind.u16.min = 0 := by decide
    have e2 : IntKind.u16.max = 65535 := by decide
    simpa [Lit.wf, e1, e2] using this
  refine ⟨fun x hx => ?_, ?_, by simp [keysN], ?_⟩
  · unfold keysN at hx
    obtain ⟨y, hy, rfl⟩ := List.mem_map.1 hx
    have := hw2 y hy
    omega
  · unfold keysN
    rw [List.map_map]
    refine List.map_congr_left fun x hx => ?_
    have := hw2 x hx
    show Value.int .u16 x = Value.int .u16 ((x.toNat : Nat) : Int)
    rw [Int.toNat_of_nonneg this.1]
  · have := h.size_le
    obtain ⟨es, hes⟩ := h.isMap
    rw [hes] at this ⊢
    simpa [Go.Maps.size, intKeys] using this

/-! ### Rows of lines -/
def lnA (s : Nat × Nat) : List Value := [.int .u16 ((s.1 : Nat) : Int), .int .u32 ((s.2 : Nat) : Int)]
def lnsA (l : List (Nat × Nat)) : List Value := l.flatMap lnA
theorem lnsA_length (l : List (Nat × Nat)) : (lnsA l).length = l.length * 2 := by
  induction l with
  | nil => rfl
  | cons s l ih =>
    unfold lnsA at ih ⊢
    rw [List.flatMap_cons, List.length_append, ih, List.length_cons, show (lnA s).length = 2 from rfl]
    omega
theorem lnsA_append (l m : List (Nat × Nat)) : lnsA (l ++ m) = lnsA l ++ lnsA m := by simp [lnsA]
theorem lnsA_get : ∀ (l : List (Nat × Nat)) (j i : Nat) (x : Nat × Nat), l[j]? = some x → i < 2 → (lnsA l)[j * 2 + i]? = (lnA x)[i]?
  | [], j, i, x, h, _ => by simp at h
  | s :: l, 0, i, x, h, hi => by
    simp only [List.getElem?_cons_zero, Option.some.injEq] at h
    subst h
    unfold lnsA
    rw [List.flatMap_cons, List.getElem?_append_left (by show _ < 2; omega)]
    congr 1
    omega
  | s :: l, j + 1, i, x, h, hi => by
    have ih := lnsA_get l j i x (by simpa using h) hi
    unfold lnsA at ih ⊢
    rw [List.flatMap_cons, List.getElem?_append_right (by show 2 ≤ _; omega), show (lnA s).length = 2 from rfl, show (j + 1) * 2 + i - 2 = j * 2 + i by omega, ih]
structure OwnL (w : World) (base : Nat) (v : Value) (l : List (Nat × Nat)) : Prop where
  row : w.ownsRow base 52 2 v l.length (lnsA l)
theorem OwnL.nil_ (w : World) (base : Nat) : OwnL w base (.slice none 0 0) [] := ⟨World.ownsRow_nil _ _ _ _⟩
theorem OwnL.below {w w' : World} {base : Nat} {v : Value} {l : List (Nat × Nat)} (h : OwnL w base v l) (hb : Below w.heap.size w w') : OwnL w' base v l :=
  ⟨h.row.kept (grown_none hb) (by cases v.ownBlock <;> simp)⟩
theorem OwnL.kept {w w' : World} {base : Nat} {v : Value} {l : List (Nat × Nat)} {row : Option Nat} (h : OwnL w base v l) (hg : w.grownBy w' row) (hne : v.ownBlock = none ∨ v.ownBlock ≠ row) : OwnL w' base v l := ⟨h.row.kept hg hne⟩
theorem OwnL.sl {w : World} {base : Nat} {v : Value} {l : List (Nat × Nat)} (h : OwnL w base v l) : ∃ A c, v = .slice A l.length c := by
  rcases h.row.2 with ⟨h1, h2⟩ | ⟨g, c, cur, h1, _⟩
  · exact ⟨none, 0, by rw [h1, h2]⟩
  · exact ⟨_, c, h1⟩
theorem infoLn : (Tryz.prog.info? 52).map (fun i => (i.zero, i.size, i.bytes)) = some (some (.agg #[.int .u16 0, .int .u32 0]), 2, 8) := by kernel_rfl
theorem appL_list {ops : Array Oper} {rest : List Oper} {o : Oper} {a : Act} {Q : Exit → Act → World → Prop} {w : World} (base : Nat) (hgd : o.guard = none) (s x : Operand)
    (ho : o.op = .call { callee := .builtin .append, args := #[s, x], argTypes := #[36, 36] })
    {v : Value} {l : List (Nat × Nat)} {y : Nat × Nat} {ad : Addr} {c : Nat} (hs : a.eval s = v) (hx : a.eval x = .slice (some ad) 1 c) (h : OwnL w base v l) (hu : ∀ j u, (lnA y)[j]? = some u → w.cell? (ad.add j) = some u)
    (hb : l.length ≤ 1000000) (hbase : base ≤ w.heap.size)
    (hk : ∀ v' w', OwnL w' base v' (l ++ [y]) → w.grownBy w' v.ownBlock → wpList Tryz.prog ops Q rest (a.put o.dst v') w') : wpList Tryz.prog ops Q (o :: rest) a w := by
  refine wpList_plain hgd fun _ hK => ?_
  obtain ⟨i0, hi0, hz0, hz1, hz2⟩ := info_parts infoLn
  obtain ⟨v', w', hrun, h2, h3, _, _⟩ := run_append_own_at (P := Tryz.prog) w base 36 o.type 52 i0 _ 2 8 Tryz.underlying36 hi0 hz0 hz1 hz2 rfl (by decide) v l.length (lnsA l) h.row ad 1 c (lnA y) rfl hu
      (fun u hu => by
        simp only [lnA, List.mem_cons, List.not_mem_nil, or_false] at hu
        rcases hu with rfl | rfl <;> rfl) (by unfold maxLen; omega) (by omega) hbase
  have h6 : OwnL w' base v' (l ++ [y]) := ⟨by
    rw [List.length_append, lnsA_append, show lnsA [y] = lnA y by simp [lnsA]]
    exact h2⟩
  unfold Oper.wp execOp
  simp only [ho, resolve, invoke, builtin, Sem.run_bind, Sem.run_pure, Result.andThen_ok, List.map_toArray, List.map_cons, List.map_nil, hs, hx, hrun]
  exact hK _ _ (hk v' w' h6 h3)
theorem lnA_new (w : World) (ty : TypeId) (x y : Nat) : ∀ (j : Nat) (u : Value), (lnA (x, y))[j]? = some u → (w.alloc (.cells #[.int .u16 ((x : Nat) : Int), .int .u32 ((y : Nat) : Int)] ty)).cell? ((⟨w.heap.size, 0, none⟩ : Addr).add j) = some u := by
  intro j u hu
  have hadd : (⟨w.heap.size, 0, none⟩ : Addr).add j = ⟨w.heap.size, j, none⟩ := by unfold Addr.add; split <;> simp_all
  rw [hadd, cell_of_row _ w.heap.size j _ _ _ (heap_alloc_new w _), ← hu]
  simp [lnA]
/-- The slice value '.slice A n c' reads as lines. -/
structure RdL2 (w : World) (A : Option Addr) (n : Nat) (l : List (Nat × Nat)) : Prop where
  len : l.length = n
  fits : n ≤ 9223372036854775807
  cell : 0 < n → ∃ ad, A = some ad ∧ ∀ t u, (lnsA l)[t]? = some u → w.cell? (ad.add t) = some u
theorem OwnL.rd {w : World} {base : Nat} {v : Value} {l : List (Nat × Nat)} (h : OwnL w base v l) : ∃ A c, v = .slice A l.length c ∧ RdL2 w A l.length l := by
  rcases h.row.2 with ⟨h1, h2⟩ | ⟨g, cap, cur, rfl, hb, hg, hnc, hcm, _⟩
  · have hl : l = [] := List.eq_nil_of_length_eq_zero h2
    subst hl
    exact ⟨none, 0, h1, ⟨rfl, by decide, fun h => absurd h (by decide)⟩⟩
  · unfold maxLen at hcm
    exact ⟨_, cap, rfl, ⟨rfl, by omega, fun _ => ⟨_, rfl, fun t u hu => h.row.cells (g := g) rfl t u hu⟩⟩⟩
end Go.Proofs.YtgogbpkcceadbaaGreatDoor.Vc
namespace Go.Proofs.YtgogbpkcceadbaaGreatDoor.Vc
open Go.RowKit Go.Proofs.YtgogbpkcceadbaaGreatDoor.Wd Go.Proofs.YtgogbpkcceadbaaGreatDoor.Pk Go.Proofs.YtgogbpkcceadbaaGreatDoor.Sg
set_option linter.unusedVariables false

theorem own_neM {w : World} {B : Nat} {e : TypeId} {size n : Nat} {v : Value} {xs : List Value} {X : Nat} {es : Array MapEntry} {k : Nat} (h : w.ownsRow B e size v n xs) (hb : w.heap[X]? = some (.map es k)) : v.ownBlock ≠ some X := by
  intro hv
  obtain ⟨c, fz, h1⟩ := Lib.ownsRow_kind h X hv
  rw [h1] at hb
  injection hb with hb
  cases hb
structure ViAt (w0 w : World) (V M cart : Nat) (lv : Value) (out : Bool) (tick : Nat) (D : DataW Ta) (n : Nat) (ls : List (Nat × Nat)) : Prop where
  res : w.heap[w0.heap.size]? = some (.cells #[.int .u16 0, .slice none 0 0, .bool false, .int .u32 0] 38 (0, 0))
  row : w.heap[V]? = some (.cells #[.int .u16 (cart : Int), lv, .bool out, .int .u32 (tick : Int)] 38 (0, 0))
  map : MapT w M n D
  blw : Below w0.heap.size w0 w
  lines : OwnL w w0.heap.size lv ls
  hV : w0.heap.size < V
  hM : V < M
section
variable {w0 w w' : World} {V M cart : Nat} {lv : Value} {out : Bool} {tick : Nat} {D : DataW Ta} {n : Nat} {ls : List (Nat × Nat)}
theorem ViAt.ltR (h : ViAt w0 w V M cart lv out tick D n ls) : w0.heap.size < w.heap.size := (Array.getElem?_eq_some_iff.1 h.res).1
theorem ViAt.ltV (h : ViAt w0 w V M cart lv out tick D n ls) : V < w.heap.size := (Array.getElem?_eq_some_iff.1 h.row).1
theorem ViAt.ltM (h : ViAt w0 w V M cart lv out tick D n ls) : M < w.heap.size := h.map.lt
theorem ViAt.below (h : ViAt w0 w V M cart lv out tick D n ls) (hb : Below w.heap.size w w') : ViAt w0 w' V M cart lv out tick D n ls :=
  ⟨by rw [hb.block _ h.ltR]; exact h.res, by rw [hb.block _ h.ltV]; exact h.row, World.ownsMap.kept h.map (grown_none hb) (by simp), h.blw.trans (hb.mono h.blw.size), h.lines.below hb, h.hV, h.hM⟩
theorem ViAt.neV (h : ViAt w0 w V M cart lv out tick D n ls) : lv.ownBlock ≠ some V := own_ne h.lines.row h.row (by decide)
theorem ViAt.neR (h : ViAt w0 w V M cart lv out tick D n ls) : lv.ownBlock ≠ some w0.heap.size := own_ne h.lines.row h.res (by decide)
theorem ViAt.neM (h : ViAt w0 w V M cart lv out tick D n ls) : lv.ownBlock ≠ some M := by
  obtain ⟨es, k, hb, _⟩ := h.map
  exact own_neM h.lines.row hb
theorem ViAt.c (h : ViAt w0 w V M cart lv out tick D n ls) (k : Nat) : w.cell? ⟨V, k, none⟩ = (#[.int .u16 (cart : Int), lv, .bool out, .int .u32 (tick : Int)] : Array Value)[k]? := cell_of_row w V k _ _ _ h.row
theorem ViAt.fz (h : ViAt w0 w V M cart lv out tick D n ls) (k : Nat) : w.frozen? ⟨V, k, none⟩ = false := by simp [World.frozen?, h.row]
/-- A cell of the view is stored. -/
theorem ViAt.setV (h : ViAt w0 w V M cart lv out tick D n ls) (j : Nat) (v : Value) {lv' : Value} {out' : Bool} {tick' : Nat} {ls' : List (Nat × Nat)}
    (hl : OwnL w w0.heap.size lv' ls') (he : (#[.int .u16 (cart : Int), lv, .bool out, .int .u32 (tick : Int)] : Array Value).setIfInBounds j v = #[.int .u16 (cart : Int), lv', .bool out', .int .u32 (tick' : Int)]) :
    ViAt w0 (w.setCell ⟨V, j, none⟩ v) V M cart lv' out' tick' D n ls' := by
  have hg := grown_setCell w V j v
  have h1 := h.hV
  have h2 := h.hM
  refine ⟨by rw [hg.block _ h.ltR (fun e => by injection e; omega)]; exact h.res, ?_, World.ownsMap.kept h.map hg (fun e => by injection e; omega), h.blw.grown hg h.blw.size (fun k hk => by injection hk; omega), hl.kept hg (.inr (own_ne hl.row h.row (by decide))), h1, h2⟩
  rw [setCell_eq_setRow w V j _ _ _ _ h.row, setRow_heap w V _ _ _ _ h.row, he]
theorem ViAt.putM (h : ViAt w0 w V M cart lv out tick D n ls) {D' : DataW Ta} {n' : Nat} (hm : MapT w' M n' D') (hg : w.grownBy w' (some M)) : ViAt w0 w' V M cart lv out tick D' n' ls := by
  have h1 := h.hV
  have h2 := h.hM
  exact ⟨by rw [hg.block _ h.ltR (fun e => by injection e; omega)]; exact h.res, by rw [hg.block _ h.ltV (fun e => by injection e; omega)]; exact h.row, hm, h.blw.grown hg h.blw.size (fun k hk => by injection hk; omega), h.lines.kept hg (.inr h.neM), h1, h2⟩
/-- A line has been appended. -/
theorem ViAt.app (h : ViAt w0 w V M cart lv out tick D n ls) {lv' : Value} {ls' : List (Nat × Nat)} (hl : OwnL w' w0.heap.size lv' ls') (hg : w.grownBy w' lv.ownBlock) :
    w'.cell? ⟨V, 1, none⟩ = some lv ∧ w'.frozen? ⟨V, 1, none⟩ = false ∧ ViAt w0 (w'.setCell ⟨V, 1, none⟩ lv') V M cart lv' out tick D n ls' ∧ w'.heap[V]? = some (.cells #[.int .u16 (cart : Int), lv, .bool out, .int .u32 (tick : Int)] 38 (0, 0)) := by
  have h1 := h.hV
  have h2 := h.hM
  have hres : w'.heap[w0.heap.size]? = _ := (hg.block _ h.ltR (fun e => h.neR e.symm)).trans h.res
  have hrow : w'.heap[V]? = _ := (hg.block _ h.ltV (fun e => h.neV e.symm)).trans h.row
  have hmap : MapT w' M n D := World.ownsMap.kept h.map hg (fun e => h.neM e.symm)
  have hblw := h.blw.grown hg h.blw.size (fun k hk => (h.lines.row.lt k hk).1)
  have hgs := grown_setCell w' V 1 lv'
  refine ⟨by rw [cell_of_row w' V 1 _ _ _ hrow]; rfl, by simp [World.frozen?, hrow], ⟨by rw [hgs.block _ (Array.getElem?_eq_some_iff.1 hres).1 (fun e => by injection e; omega)]; exact hres, ?_, World.ownsMap.kept hmap hgs (fun e => by injection e; omega), hblw.grown hgs hblw.size (fun k hk => by injection hk; omega), hl.kept hgs (.inr (own_ne hl.row hrow (by decide))), h1, h2⟩, hrow⟩
  rw [setCell_eq_setRow w' V 1 _ _ _ _ hrow, setRow_heap w' V _ _ _ _ hrow]
  rfl
end
theorem store_view (W : World) (a b c d : Value) (h1 : (#[a, b, c, d] : Array Value).all (·.oneCell') = true) (z : Array Value) (hz : z.size = 4) : (stK 38 ⟨W.heap.size, 0, none⟩ (.agg #[a, b, c, d])).run Tryz.prog (W.alloc (.cells z 38)) = .ok () (W.alloc (.cells #[a, b, c, d] 38)) := by
  rw [stK, run_storeVar_row _ W.heap.size 38 38 z #[a, b, c, d] (heap_alloc_new W _) (by kernel_rfl) hz h1, setCells_alloc_new]
theorem load_lns {w : World} {a : Addr} {v : Value} (h : w.cell? a = some v) : (ldK 36 a).run Tryz.prog w = .ok v w := by
  simp [ldK, loadVar, Sem.run_bind, isAgg, run_underlying Tryz.underlying36, go_sem, h]
theorem store_lns {w : World} {a : Addr} {old : Value} (A : Option Addr) (n c : Nat) (h : w.cell? a = some old) (hf : w.frozen? a = false) : (stK 36 a (.slice A n c)).run Tryz.prog w = .ok () (w.setCell a (.slice A n c)) := by
  simp [stK, storeVar, Sem.run_bind, go_sem, h, hf]
theorem store_tally (W : World) {t : Ta} (ht : OkTa t) : (stK 60 ⟨W.heap.size, 0, none⟩ (.agg (taA t).toArray)).run Tryz.prog (W.alloc (.cells (taA zeroTa).toArray 60)) = .ok () (W.alloc (.cells (taA t).toArray 60)) := by
  rw [stK, run_storeVar_row _ W.heap.size 60 60 _ _ (heap_alloc_new W _) (by rw [List.size_toArray, taA_length ht]; kernel_rfl) (by rw [List.size_toArray, List.size_toArray, taA_length ht]; rfl) (by rw [Array.all_eq_true_iff_forall_mem]; intro v hv; exact taA_one t v (by simpa using hv)), setCells_alloc_new]
theorem ViAt.loads {w0 w : World} {V M cart : Nat} {lv : Value} {out : Bool} {tick : Nat} {D : DataW Ta} {n : Nat} {ls : List (Nat × Nat)} (h : ViAt w0 w V M cart lv out tick D n ls) :
    (ldK 38 ⟨V, 0, none⟩).run Tryz.prog w = .ok (.agg #[.int .u16 (cart : Int), lv, .bool out, .int .u32 (tick : Int)]) w :=
  run_loadVar_row w V _ 38 _ _ _ h.row Tryz.underlying38 rfl (by kernel_rfl)
/-- The whole is stored where the result lies. -/
theorem ViAt.fin {w0 w : World} {V M cart : Nat} {lv : Value} {out : Bool} {tick : Nat} {D : DataW Ta} {n : Nat} {ls : List (Nat × Nat)} (h : ViAt w0 w V M cart lv out tick D n ls) :
    (stK 38 ⟨w0.heap.size, 0, none⟩ (.agg #[.int .u16 (cart : Int), lv, .bool out, .int .u32 (tick : Int)])).run Tryz.prog w = .ok () (w.setRow w0.heap.size #[.int .u16 (cart : Int), lv, .bool out, .int .u32 (tick : Int)]) ∧
    (w.setRow w0.heap.size #[.int .u16 (cart : Int), lv, .bool out, .int .u32 (tick : Int)]).heap[w0.heap.size]? = some (.cells #[.int .u16 (cart : Int), lv, .bool out, .int .u32 (tick : Int)] 38 (0, 0)) ∧
    OwnL (w.setRow w0.heap.size #[.int .u16 (cart : Int), lv, .bool out, .int .u32 (tick : Int)]) w0.heap.size lv ls ∧ Below w0.heap.size w0 (w.setRow w0.heap.size #[.int .u16 (cart : Int), lv, .bool out, .int .u32 (tick : Int)]) := by
  have hone : (#[.int .u16 (cart : Int), lv, .bool out, .int .u32 (tick : Int)] : Array Value).all (·.oneCell') = true := by
    obtain ⟨A, c, e⟩ := h.lines.sl
    rw [e]
    simp [Value.oneCell']
  have hg : w.grownBy (w.setRow w0.heap.size #[.int .u16 (cart : Int), lv, .bool out, .int .u32 (tick : Int)]) (some w0.heap.size) := ⟨rfl, rfl, rfl, by simp [World.setRow], fun j _ hne => setRow_other _ _ j _ (fun e => hne (by rw [e]))⟩
  exact ⟨run_storeVar_row w w0.heap.size 38 38 _ _ h.res (by kernel_rfl) rfl hone, setRow_heap w _ _ _ _ _ h.res, h.lines.kept hg (.inr h.neR), h.blw.grown hg h.blw.size (fun k hk => by injection hk; omega)⟩
/-- A row of one's own of keys. -/
structure OwnK (w : World) (base : Nat) (v : Value) (xs : List Nat) : Prop where
  row : w.ownsRow base 23 1 v xs.length (xs.map fun x => .int .u16 ((x : Nat) : Int))
  small : ∀ x ∈ xs, x ≤ 65535
theorem OwnK.kept {w w' : World} {base : Nat} {v : Value} {l : List Nat} {row : Option Nat} (h : OwnK w base v l) (hg : w.grownBy w' row) (hne : v.ownBlock = none ∨ v.ownBlock ≠ row) : OwnK w' base v l := ⟨h.row.kept hg hne, h.small⟩
theorem OwnK.below {w w' : World} {base : Nat} {v : Value} {l : List Nat} (h : OwnK w base v l) (hb : Below w.heap.size w w') : OwnK w' base v l :=
  ⟨h.row.kept (grown_none hb) (by cases v.ownBlock <;> simp), h.small⟩
theorem OwnK.rd {w : World} {base : Nat} {v : Value} {xs : List Nat} (h : OwnK w base v xs) : ∃ A c, v = .slice A xs.length c ∧ RdN .u16 65535 w A xs.length xs := by
  rcases h.row.2 with ⟨h1, h0⟩ | ⟨g, cap, cur, rfl, _, _, hnc, hcm, _⟩
  · have : xs = [] := List.eq_nil_of_length_eq_zero h0
    subst this
    exact ⟨none, 0, h1, RdN.nil_ _ _ _⟩
  · unfold maxLen at hcm
    refine ⟨_, cap, rfl, rfl, by omega, h.small, fun _ => ⟨_, rfl, fun j hj => ?_⟩⟩
    exact h.row.cells (g := g) rfl j _ (by rw [List.getElem?_map, List.getElem?_eq_getElem hj, List.getD_eq_getElem?_getD, List.getElem?_eq_getElem hj]; rfl)
/-- Keys and lines lie apart. -/
theorem OwnK.apart {w : World} {base : Nat} {v lv : Value} {xs : List Nat} {ls : List (Nat × Nat)} (h : OwnK w base v xs) (hl : OwnL w base lv ls) : v.ownBlock = none ∨ v.ownBlock ≠ lv.ownBlock := by
  cases hv : v.ownBlock with
  | none => exact .inl rfl
  | some g =>
    refine .inr fun e => ?_
    obtain ⟨c, fz, h1⟩ := Lib.ownsRow_kind h.row g hv
    exact own_ne hl.row h1 (by decide) e.symm
theorem OwnK.neV {w0 w : World} {V M cart : Nat} {v lv : Value} {out : Bool} {tick : Nat} {D : DataW Ta} {n : Nat} {xs : List Nat} {ls : List (Nat × Nat)} (h : OwnK w w0.heap.size v xs) (hv : ViAt w0 w V M cart lv out tick D n ls) : v.ownBlock ≠ some V :=
  own_ne h.row hv.row (by decide)
theorem isL {w : World} {B : Nat} {v : Value} {l : List (Nat × Nat)} (h : OwnL w B v l) : ∃ A n c, v = .slice A n c := by
  obtain ⟨A, c, e⟩ := h.sl
  exact ⟨A, _, c, e⟩
/-- The call returns what is seen, its lines in new memory. -/
def GivesV (w : World) (cart : Nat) (x : Nat × Bool × List (Nat × Nat)) (e : Ending) (w' : World) : Prop :=
  ∃ v, e = .returned (.agg #[.int .u16 (cart : Int), v, .bool x.2.1, .int .u32 (x.1 : Int)]) ∧ OwnL w' w.heap.size v x.2.2 ∧ Below w.heap.size w w' ∧ ∀ y ∈ x.2.2, y.1 ≤ 65535 ∧ y.2 ≤ 4294967295
end Go.Proofs.YtgogbpkcceadbaaGreatDoor.Vc
