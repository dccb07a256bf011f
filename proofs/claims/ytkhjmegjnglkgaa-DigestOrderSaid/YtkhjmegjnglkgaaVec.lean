/-
  Vectors (arrays of sixteen numbers) and spans: how they lie, and what digest.Need comes to.
-/
import Derived.Test.YtkhjmegjnglkgaaBase
import Derived.Laws.Rows
import Derived.WalkSpells
import Derived.Laws.Cover3
namespace Go.Proofs.Ytkhjmegjnglkgaa.Vc
open Go.RowKit Go.Proofs.Ytkhjmegjnglkgaa.Wd
set_option linter.unusedVariables false

/-- A vector's numbers. -/
structure IsVec (xs : List Nat) : Prop where
  len : xs.length = 16
  small : ∀ x ∈ xs, x ≤ 4294967295
def vecA (xs : List Nat) : Array Value := (xs.map fun x => Value.int .u32 ((x : Nat) : Int)).toArray
def vecV (xs : List Nat) : Value := .agg (vecA xs)
theorem vecA_size (xs : List Nat) : (vecA xs).size = xs.length := by simp [vecA]
theorem vecA_get {xs : List Nat} {j : Nat} (h : j < xs.length) : (vecA xs)[j]? = some (.int .u32 ((xs.getD j 0 : Nat) : Int)) := by
  simp [vecA, List.getElem?_eq_getElem h, List.getD_eq_getElem?_getD]
theorem IsVec.at_ {xs : List Nat} (h : IsVec xs) (j : Nat) : xs.getD j 0 ≤ 4294967295 := getD_le h.small j
/-- A variable that holds a vector. -/
structure VecAt (w : World) (g : Nat) (xs : List Nat) : Prop where
  vec : IsVec xs
  row : w.heap[g]? = some (.cells (vecA xs) 24 (0, 0))
theorem VecAt.cell {w : World} {g : Nat} {xs : List Nat} (h : VecAt w g xs) {j : Nat} (hj : j < 16) : w.cell? ⟨g, j, none⟩ = some (.int .u32 ((xs.getD j 0 : Nat) : Int)) := by
  rw [cell_of_row w g j _ _ _ h.row, vecA_get (by rw [h.vec.len]; exact hj)]
theorem VecAt.lt {w : World} {g : Nat} {xs : List Nat} (h : VecAt w g xs) : g < w.heap.size := (Array.getElem?_eq_some_iff.1 h.row).1
theorem VecAt.below {w w' : World} {g : Nat} {xs : List Nat} (h : VecAt w g xs) (hb : Below w.heap.size w w') : VecAt w' g xs :=
  ⟨h.vec, by rw [hb.block g h.lt]; exact h.row⟩
theorem VecAt.kept {w w' : World} {g : Nat} {xs : List Nat} {row : Option Nat} (h : VecAt w g xs) (hg : w.grownBy w' row) (hne : row ≠ some g) : VecAt w' g xs :=
  ⟨h.vec, by rw [hg.block g h.lt (fun e => hne e.symm)]; exact h.row⟩
theorem VecAt.new (w : World) {xs : List Nat} (h : IsVec xs) : VecAt (w.alloc (.cells (vecA xs) 24)) w.heap.size xs := ⟨h, heap_alloc_new w _⟩
theorem VecAt.load {w : World} {g : Nat} {xs : List Nat} (h : VecAt w g xs) : (ldK 24 ⟨g, 0, none⟩).run Try.prog w = .ok (.agg (vecA xs)) w :=
  run_loadVar_row w g _ 24 _ _ _ h.row Try.underlying24 rfl (by rw [vecA_size, h.vec.len]; kernel_rfl)

theorem VecAt.load_list {ops : Array Oper} {rest : List Oper} {o : Oper} {a : Act} {w : World} {Q : Exit → Act → World → Prop} {g : Nat} {xs : List Nat} (h : VecAt w g xs) (hgd : o.guard = none) (x : Operand) (ho : o.op = .load 24 x)
    (hx : a.eval x = .pointer (some ⟨g, 0, none⟩)) (hk : wpList Try.prog ops Q rest (a.put o.dst (.agg (vecA xs))) w) : wpList Try.prog ops Q (o :: rest) a w :=
  wpList_load_row hgd 24 x ho g hx _ _ _ _ h.row Try.underlying24 rfl (by rw [vecA_size, h.vec.len]; kernel_rfl) hk

/-- A vector's number, by its place. -/
theorem vec_index {xs : List Nat} (h : IsVec xs) {k : Nat} (hk : k < 16) (W : World) : (Instr.index 24 (.agg (vecA xs)) (.int .i64 (k : Int))).run Try.prog W = .ok (.int .u32 ((xs.getD k 0 : Nat) : Int)) W := by
  have hget := vecA_get (xs := xs) (j := k) (by rw [h.len]; exact hk)
  obtain ⟨i8, hi8⟩ := info_of_underlying Try.underlying22
  have hsz : i8.size = 1 := by
    have h2 : (Try.prog.info? 22).map (·.size) = some 1 := by kernel_rfl
    rw [hi8] at h2
    simpa using h2
  simp [Instr.index, run_underlying Try.underlying24, asIntOf, part, sizeOf, typeInfo, hi8, hsz, isAgg, run_underlying Try.underlying22, go_sem]
  rw [if_pos hk, hget]
  simp

/-! ### Spans -/
abbrev Sp := Nat × Nat × Nat
def spA (s : Sp) : List Value := [.int .u8 ((s.1 : Nat) : Int), .int .u32 ((s.2.1 : Nat) : Int), .int .u32 ((s.2.2 : Nat) : Int)]
def spsA (l : List Sp) : List Value := l.flatMap spA
theorem spA_new (w : World) (ty : TypeId) (x y z : Nat) : ∀ (j : Nat) (u : Value), (spA (x, y, z))[j]? = some u → (w.alloc (.cells #[.int .u8 ((x : Nat) : Int), .int .u32 ((y : Nat) : Int), .int .u32 ((z : Nat) : Int)] ty)).cell? ((⟨w.heap.size, 0, none⟩ : Addr).add j) = some u := by
  intro j u hu
  have hadd : (⟨w.heap.size, 0, none⟩ : Addr).add j = ⟨w.heap.size, j, none⟩ := by unfold Addr.add; split <;> simp_all
  rw [hadd, cell_of_row _ w.heap.size j _ _ _ (heap_alloc_new w _), ← hu]
  simp [spA]
theorem spA_newD (w : World) (ty : TypeId) (x y z : Nat) : ∀ (j : Nat) (u : Value), (spA (x, y, z))[j]? = some u → (w.alloc (.cells #[.int .u8 ((x : Nat) : Int), .int .u32 ((y : Nat) : Int), .int .u32 ((z : Nat) : Int)] ty)).drew.cell? ((⟨w.heap.size, 0, none⟩ : Addr).add j) = some u := spA_new w ty x y z
theorem spsA_length (l : List Sp) : (spsA l).length = l.length * 3 := by
  induction l with
  | nil => rfl
  | cons s l ih =>
    unfold spsA at ih ⊢
    rw [List.flatMap_cons, List.length_append, ih, List.length_cons, show (spA s).length = 3 from rfl]
    omega
theorem spsA_append (l m : List Sp) : spsA (l ++ m) = spsA l ++ spsA m := by simp [spsA]
/-- The spans that one misses of another one's first k replicas. -/
def needTo (a b : List Nat) (k : Nat) : List Sp := (List.range k).filterMap fun i => if a.getD i 0 < b.getD i 0 then some (i, a.getD i 0 + 1, b.getD i 0) else none
theorem needTo_in {a b : List Nat} {k : Nat} (h : a.getD k 0 < b.getD k 0) : needTo a b (k + 1) = needTo a b k ++ [(k, a.getD k 0 + 1, b.getD k 0)] := by
  unfold needTo
  rw [List.range_succ, List.filterMap_append, List.filterMap_cons_some (by rw [if_pos h]), List.filterMap_nil]
theorem needTo_out {a b : List Nat} {k : Nat} (h : ¬ a.getD k 0 < b.getD k 0) : needTo a b (k + 1) = needTo a b k := by
  unfold needTo
  rw [List.range_succ, List.filterMap_append, List.filterMap_cons_none (by rw [if_neg h]), List.filterMap_nil, List.append_nil]
theorem needTo_length (a b : List Nat) (k : Nat) : (needTo a b k).length ≤ k := by
  unfold needTo
  have := List.length_filterMap_le (fun i => if a.getD i 0 < b.getD i 0 then some (i, a.getD i 0 + 1, b.getD i 0) else none) (List.range k)
  simpa using this

/-- A row of one's own of spans (of the struct type ty). -/
structure OwnS (ty : TypeId) (w : World) (base : Nat) (v : Value) (l : List Sp) : Prop where
  row : w.ownsRow base ty 3 v l.length (spsA l)
theorem OwnS.nil_ (ty : TypeId) (w : World) (base : Nat) : OwnS ty w base (.slice none 0 0) [] := ⟨World.ownsRow_nil _ _ _ _⟩
theorem OwnS.below {ty : TypeId} {w w' : World} {base : Nat} {v : Value} {l : List Sp} (h : OwnS ty w base v l) (hb : Below w.heap.size w w') : OwnS ty w' base v l :=
  ⟨h.row.kept (grown_none hb) (by cases v.ownBlock <;> simp)⟩
theorem OwnS.alloc {ty : TypeId} {w : World} {base : Nat} {v : Value} {l : List Sp} (h : OwnS ty w base v l) (o : Obj) : OwnS ty (w.alloc o) base v l := ⟨h.row.alloc o⟩
theorem OwnS.drew {ty : TypeId} {w : World} {base : Nat} {v : Value} {l : List Sp} (h : OwnS ty w base v l) : OwnS ty w.drew base v l := ⟨h.row⟩
theorem OwnS.to_below {ty : TypeId} {w0 w w' : World} {base : Nat} {v : Value} {l : List Sp} (h : OwnS ty w base v l) (hb : Below base w0 w) (hbase : base ≤ w.heap.size) (hg : w.grownBy w' v.ownBlock) : Below base w0 w' :=
  hb.grown hg hbase fun k hk => (h.row.lt k hk).1
theorem OwnS.ne {ty : TypeId} {w : World} {base : Nat} {v : Value} {l : List Sp} (h : OwnS ty w base v l) {k : Nat} (hk : k < base) : v.ownBlock ≠ some k := fun e => by
  have := (h.row.lt k e).1
  omega
theorem appS_run (t ty : TypeId) (ht : Try.prog.underlying t = some (.slice ty)) (i0 : (Try.prog.info? ty).map (fun i => (i.zero, i.size, i.bytes)) = some (some (.agg #[.int .u8 0, .int .u32 0, .int .u32 0]), 3, 12))
    (w : World) (base : Nat) (rt : TypeId) {v : Value} {l : List Sp} {s : Sp} (h : OwnS ty w base v l) {ad : Addr} (c : Nat) (hu : ∀ j u, (spA s)[j]? = some u → w.cell? (ad.add j) = some u)
    (hb : l.length ≤ 1000000) (hbase : base ≤ w.heap.size) :
    ∃ v' w', (Builtin.append_ #[t, t] rt #[v, .slice (some ad) 1 c]).run Try.prog w = .ok v' w' ∧ OwnS ty w' base v' (l ++ [s]) ∧ w.grownBy w' v.ownBlock := by
  obtain ⟨i1, hi0, hz0, hz1, hz2⟩ := info_parts i0
  obtain ⟨v', w', hr, h2, h3, _, h5⟩ := run_append_own_at (P := Try.prog) w base t rt ty i1 _ 3 12 ht hi0 hz0 hz1 hz2 rfl (by decide) v l.length (spsA l) h.row ad 1 c (spA s) rfl hu
    (fun u hu => by
      simp only [spA, List.mem_cons, List.not_mem_nil, or_false] at hu
      rcases hu with rfl | rfl | rfl <;> rfl) (by unfold maxLen; omega) (by omega) hbase
  refine ⟨v', w', hr, ⟨?_⟩, h3⟩
  rw [spsA_append, List.length_append, show spsA [s] = spA s by simp [spsA]]
  exact h2
theorem appS_wp {t ty : TypeId} (ht : Try.prog.underlying t = some (.slice ty)) (i0 : (Try.prog.info? ty).map (fun i => (i.zero, i.size, i.bytes)) = some (some (.agg #[.int .u8 0, .int .u32 0, .int .u32 0]), 3, 12))
    {o : Oper} {a : Act} {K : Act → World → Prop} {Q : Exit → Act → World → Prop} (w : World) (base : Nat) (s x : Operand)
    (ho : o.op = .call { callee := .builtin .append, args := #[s, x], argTypes := #[t, t] })
    {v : Value} {l : List Sp} {sp : Sp} {ad : Addr} {c : Nat} (hs : a.eval s = v) (hx : a.eval x = .slice (some ad) 1 c) (h : OwnS ty w base v l) (hu : ∀ j u, (spA sp)[j]? = some u → w.cell? (ad.add j) = some u)
    (hb : l.length ≤ 1000000) (hbase : base ≤ w.heap.size)
    (hk : ∀ v' w', OwnS ty w' base v' (l ++ [sp]) → w.grownBy w' v.ownBlock → K (a.put o.dst v') w') : o.wp Try.prog a w K Q := by
  obtain ⟨v', w', hrun, h2, h3⟩ := appS_run t ty ht i0 w base o.type h c hu hb hbase
  unfold Oper.wp execOp
  simp only [ho, resolve, invoke, builtin, Sem.run_bind, Sem.run_pure, Result.andThen_ok, List.map_toArray, List.map_cons, List.map_nil, hs, hx, hrun]
  exact hk v' w' h2 h3
theorem appS_list {t ty : TypeId} (ht : Try.prog.underlying t = some (.slice ty)) (i0 : (Try.prog.info? ty).map (fun i => (i.zero, i.size, i.bytes)) = some (some (.agg #[.int .u8 0, .int .u32 0, .int .u32 0]), 3, 12))
    {ops : Array Oper} {rest : List Oper} {o : Oper} {a : Act} {Q : Exit → Act → World → Prop} {w : World} (base : Nat) (hgd : o.guard = none) (s x : Operand)
    (ho : o.op = .call { callee := .builtin .append, args := #[s, x], argTypes := #[t, t] })
    {v : Value} {l : List Sp} {sp : Sp} {ad : Addr} {c : Nat} (hs : a.eval s = v) (hx : a.eval x = .slice (some ad) 1 c) (h : OwnS ty w base v l) (hu : ∀ j u, (spA sp)[j]? = some u → w.cell? (ad.add j) = some u)
    (hb : l.length ≤ 1000000) (hbase : base ≤ w.heap.size)
    (hk : ∀ v' w', OwnS ty w' base v' (l ++ [sp]) → w.grownBy w' v.ownBlock → wpList Try.prog ops Q rest (a.put o.dst v') w') : wpList Try.prog ops Q (o :: rest) a w :=
  wpList_plain hgd fun _ hK => appS_wp ht i0 w base s x ho hs hx h hu hb hbase fun v' w' h2 h3 => hK _ _ (hk v' w' h2 h3)
theorem appS_step {t ty : TypeId} (ht : Try.prog.underlying t = some (.slice ty)) (i0 : (Try.prog.info? ty).map (fun i => (i.zero, i.size, i.bytes)) = some (some (.agg #[.int .u8 0, .int .u32 0, .int .u32 0]), 3, 12))
    {ops : Array Oper} {o : Oper} {a : Act} {K : Act → World → Prop} {Q : Exit → Act → World → Prop} {E : Prop} {w : World} (base : Nat) (hgd : o.guard = none) (s x : Operand)
    (ho : o.op = .call { callee := .builtin .append, args := #[s, x], argTypes := #[t, t] })
    {v : Value} {l : List Sp} {sp : Sp} {ad : Addr} {c : Nat} (hs : a.eval s = v) (hx : a.eval x = .slice (some ad) 1 c) (h : OwnS ty w base v l) (hu : ∀ j u, (spA sp)[j]? = some u → w.cell? (ad.add j) = some u)
    (hb : l.length ≤ 1000000) (hbase : base ≤ w.heap.size)
    (hk : ∀ v' w', OwnS ty w' base v' (l ++ [sp]) → w.grownBy w' v.ownBlock → K (a.put o.dst v') w') : if Region.wanted o (yielded ops a.tmps) = true then Oper.wp Try.prog o a w K Q else E := by
  have hw : Region.wanted o (yielded ops a.tmps) = true := by simp [Region.wanted, hgd]
  rw [if_pos hw]
  exact appS_wp ht i0 w base s x ho hs hx h hu hb hbase hk
theorem infoS : (Try.prog.info? 38).map (fun i => (i.zero, i.size, i.bytes)) = some (some (.agg #[.int .u8 0, .int .u32 0, .int .u32 0]), 3, 12) := by kernel_rfl
theorem infoR : (Try.prog.info? 37).map (fun i => (i.zero, i.size, i.bytes)) = some (some (.agg #[.int .u8 0, .int .u32 0, .int .u32 0]), 3, 12) := by kernel_rfl
/-- The call returns spans in new memory. -/
def GivesSp (ty : TypeId) (w : World) (l : List Sp) (e : Ending) (w' : World) : Prop := ∃ v, e = .returned v ∧ OwnS ty w' w.heap.size v l ∧ Below w.heap.size w w'

set_option maxHeartbeats 1000000 in
set_option maxRecDepth 100000 in
theorem need_any (a b : List Nat) (ha : IsVec a) (hb : IsVec b) (w : World) :
    Calls Try.prog 10 #[vecV a, vecV b] w (GivesSp 38 w (needTo a b 16)) := by
  have HA := Lib.hid ha
  have HB := Lib.hid hb
  clear ha hb
  unfold vecV
  have h2 : VecAt ((w.alloc (.cells (vecA a) 24)).alloc (.cells (vecA b) 24)) (w.heap.size + 1) b := by simpa using VecAt.new (w.alloc (.cells (vecA a) 24)) HB.out
  have h1 : VecAt ((w.alloc (.cells (vecA a) 24)).alloc (.cells (vecA b) 24)) w.heap.size a := (VecAt.new w HA.out).below ((Below.refl _ _).alloc (Nat.le_refl _) _)
  have h0 : Below w.heap.size w ((w.alloc (.cells (vecA a) 24)).alloc (.cells (vecA b) 24)) := ((Below.refl _ _).alloc (Nat.le_refl _) _).alloc (by simp) _
  have H1 := Lib.hid h1
  have H2 := Lib.hid h2
  have H0 := Lib.hid h0
  clear h0 h1 h2
  go_enter Try.func10, Try.ntmps10
  go_wp2_with (refine VecAt.load_list H2.out rfl (.tmp 3) rfl rfl ?_)
  generalize (w.alloc (.cells (vecA a) 24)).alloc (.cells (vecA b) 24) = w2 at *
  go_loopw [5, 9] (fun d i wr => ∃ k : Nat, k ≤ 16 ∧ i = .int .i64 (k : Int) ∧ Hid (OwnS 38 wr w2.heap.size d (needTo a b k)) ∧ Hid (Below w2.heap.size w2 wr)) (fun _ i _ => 16 - (intOf i).toNat)
  case atStart => exact ⟨0, Nat.zero_le _, rfl, OwnS.nil_ _ _ _, Below.refl _ _⟩
  case round =>
    obtain ⟨k, hk, rfl, HO, HW⟩ := hrel
    have hsz := HW.out.size
    by_cases hlt : k < 16
    · have hget := vec_index HB.out hlt
      have hcell := (H1.out.below HW.out).cell hlt
      have i0 : (0 : Int) ≤ (k : Int) := by omega
      have i1 : (k : Int) < 16 := by omega
      have b1 := HB.out.at_ k
      have b2 := HA.out.at_ k
      obtain ⟨x, hx⟩ : ∃ x, x = b.getD k 0 := ⟨_, rfl⟩
      obtain ⟨y, hy⟩ : ∃ y, y = a.getD k 0 := ⟨_, rfl⟩
      rw [← hx] at hget b1
      rw [← hy] at hcell b2
      by_cases hc : y < x
      · have hn := needTo_in (a := a) (b := b) (k := k) (by rw [← hx, ← hy]; exact hc)
        rw [← hx, ← hy] at hn
        have HN := Lib.hid hn
        obtain ⟨z, hz⟩ : ∃ z, z = y + 1 := ⟨_, rfl⟩
        have ez : (y : Int) + 1 = (z : Int) := by omega
        have hz2 : z ≤ 4294967295 := by omega
        have HZ := Lib.hid hz
        have hnl := needTo_length a b k
        clear hx hy hn hz
        go_wp2_with (at_builtin; refine appS_list (sp := (k, z, x)) Try.underlying26 infoS w2.heap.size rfl (.tmp 18) (.tmp 27) rfl rfl rfl (HO.out.alloc _) (spA_new _ _ k z x) (by omega) (by simp; omega) ?_; intro v4 w4 ho4 hg4; have HB4 := Lib.hid ((HO.out.alloc _).to_below (HW.out.alloc hsz _) (by simp; omega) hg4); have HO4 := Lib.hid ho4; clear ho4 hg4)
        go_roundw
        case rel => exact ⟨k + 1, by omega, by go_num, by unfold Hid; rw [HN.out, ← HZ.out]; exact HO4.out, HB4.out⟩
        case measure => simp [intOf]; omega
      · have hn := needTo_out (a := a) (b := b) (k := k) (by rw [← hx, ← hy]; exact hc)
        have HN := Lib.hid hn
        clear hx hy hn
        go_wp2_with fail
        go_roundw
        case rel => exact ⟨k + 1, by omega, by go_num, by unfold Hid; rw [HN.out]; exact HO.out, HW.out⟩
        case measure => simp [intOf]; omega
    · have hk16 : k = 16 := by omega
      have HK := Lib.hid hk16
      clear hk16
      go_wp2_with fail
      go_ret
      refine ⟨_, rfl, ?_, H0.out.trans (HW.out.mono H0.out.size)⟩
      have h := HO.out
      rw [HK.out] at h
      exact ⟨own_base h.row H0.out.size⟩
end Go.Proofs.Ytkhjmegjnglkgaa.Vc
