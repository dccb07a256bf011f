/-
  Rows of ints that a function owns: appended to one by one.
-/
import Derived.Test.YtchncgniiohgdaaDoorBRows
namespace Go.Proofs.YtchncgniiohgdaaDoor.Wd
open Go.RowKit

theorem infoI : (Tryd.prog.info? 3).map (fun i => (i.zero, i.size, i.bytes)) = some (some (.int .i64 0), 1, 8) := by kernel_rfl
def ivals (xs : List Nat) : List Value := xs.map fun x => Value.int .i64 ((x : Nat) : Int)
theorem ivals_length (xs : List Nat) : (ivals xs).length = xs.length := by simp [ivals]
theorem ivals_get {xs : List Nat} {j : Nat} (h : j < xs.length) : (ivals xs)[j]? = some (.int .i64 ((xs.getD j 0 : Nat) : Int)) := by
  simp [ivals, List.getElem?_eq_getElem h, List.getD_eq_getElem?_getD]
structure OwnI (w : World) (base : Nat) (v : Value) (xs : List Nat) : Prop where
  row : w.ownsRow base 3 1 v xs.length (ivals xs)
theorem OwnI.nil_ (w : World) (base : Nat) : OwnI w base (.slice none 0 0) [] := ⟨World.ownsRow_nil _ _ _ _⟩
theorem OwnI.grown {w w' : World} {base : Nat} {v : Value} {xs : List Nat} {row : Option Nat} (h : OwnI w base v xs) (hg : w.grownBy w' row) (hne : v.ownBlock = none ∨ v.ownBlock ≠ row) : OwnI w' base v xs := ⟨h.row.kept hg hne⟩
theorem OwnI.below {w w' : World} {base : Nat} {v : Value} {xs : List Nat} (h : OwnI w base v xs) (hb : Below w.heap.size w w') : OwnI w' base v xs :=
  ⟨h.row.kept (grown_none hb) (by cases v.ownBlock <;> simp)⟩
theorem OwnI.alloc {w : World} {base : Nat} {v : Value} {xs : List Nat} (h : OwnI w base v xs) (o : Obj) : OwnI (w.alloc o) base v xs := ⟨h.row.alloc o⟩
theorem OwnI.to_below {w0 w w' : World} {base : Nat} {v : Value} {xs : List Nat} (h : OwnI w base v xs) (hb : Below base w0 w) (hbase : base ≤ w.heap.size) (hg : w.grownBy w' v.ownBlock) : Below base w0 w' :=
  hb.grown hg hbase fun k hk => (h.row.lt k hk).1
theorem OwnI.rd {w : World} {base : Nat} {v : Value} {xs : List Nat} (h : OwnI w base v xs) : ∃ A c, v = .slice A xs.length c ∧ xs.length ≤ c ∧ (0 < xs.length → ∃ ad, A = some ad ∧ ∀ j, j < xs.length → w.cell? (ad.add j) = some (.int .i64 ((xs.getD j 0 : Nat) : Int))) := by
  rcases h.row.2 with ⟨rfl, h0⟩ | ⟨g, cap, cur, rfl, _, _, hnc, hcm, _⟩
  · have : xs = [] := List.eq_nil_of_length_eq_zero h0
    subst this
    exact ⟨none, 0, rfl, Nat.le_refl _, fun h => absurd h (by decide)⟩
  · exact ⟨_, cap, rfl, hnc, fun _ => ⟨_, rfl, fun j hj => h.row.cells (g := g) rfl j _ (ivals_get hj)⟩⟩
theorem appI_wp {o : Oper} {a : Act} {K : Act → World → Prop} {Q : Exit → Act → World → Prop} (w : World) (base : Nat) (s x : Operand)
    (ho : o.op = .call { callee := .builtin .append, args := #[s, x], argTypes := #[38, 38] })
    {v : Value} {xs : List Nat} {y : Nat} {ad : Addr} {c : Nat} (hs : a.eval s = v) (hx : a.eval x = .slice (some ad) 1 c) (h : OwnI w base v xs) (hu : w.cell? ad = some (.int .i64 ((y : Nat) : Int)))
    (hb : xs.length ≤ 1000000) (hbase : base ≤ w.heap.size)
    (hk : ∀ v' w', OwnI w' base v' (xs ++ [y]) → w.grownBy w' v.ownBlock → (v'.ownBlock = v.ownBlock ∨ v'.ownBlock = some w.heap.size) → K (a.put o.dst v') w') : o.wp Tryd.prog a w K Q := by
  obtain ⟨i0, hi0, hz0, hz1, hz2⟩ := info_parts infoI
  obtain ⟨v', w', hrun, h2, h3, _, h5⟩ := run_append_own_at (P := Tryd.prog) w base 38 o.type 3 i0 _ 1 8 Tryd.underlying38 hi0 hz0 hz1 hz2 rfl (by decide) v xs.length (ivals xs) h.row ad 1 c (ivals [y])
      (by simp [ivals]) (fun j z hz => by
        rcases j with _ | j
        · simp only [ivals, List.map_cons, List.map_nil, List.getElem?_cons_zero, Option.some.injEq] at hz
          subst hz
          rw [show ad.add 0 = ad from add_zero_ ad]
          exact hu
        · simp [ivals] at hz)
      (fun z hz => by
        obtain ⟨x, _, rfl⟩ := List.mem_map.1 hz
        rfl) (by unfold maxLen; omega) (by omega) hbase
  have h6 : OwnI w' base v' (xs ++ [y]) := ⟨by
    have e : ivals (xs ++ [y]) = ivals xs ++ ivals [y] := by simp [ivals]
    rw [e, List.length_append]
    exact h2⟩
  unfold Oper.wp execOp
  simp only [ho, resolve, invoke, builtin, Sem.run_bind, Sem.run_pure, Result.andThen_ok, List.map_toArray, List.map_cons, List.map_nil, hs, hx, hrun]
  exact hk v' w' h6 h3 h5
theorem appI_list {ops : Array Oper} {rest : List Oper} {o : Oper} {a : Act} {Q : Exit → Act → World → Prop} {w : World} (base : Nat) (hgd : o.guard = none) (s x : Operand)
    (ho : o.op = .call { callee := .builtin .append, args := #[s, x], argTypes := #[38, 38] })
    {v : Value} {xs : List Nat} {y : Nat} {ad : Addr} {c : Nat} (hs : a.eval s = v) (hx : a.eval x = .slice (some ad) 1 c) (h : OwnI w base v xs) (hu : w.cell? ad = some (.int .i64 ((y : Nat) : Int)))
    (hb : xs.length ≤ 1000000) (hbase : base ≤ w.heap.size)
    (hk : ∀ v' w', OwnI w' base v' (xs ++ [y]) → w.grownBy w' v.ownBlock → (v'.ownBlock = v.ownBlock ∨ v'.ownBlock = some w.heap.size) → wpList Tryd.prog ops Q rest (a.put o.dst v') w') : wpList Tryd.prog ops Q (o :: rest) a w :=
  wpList_plain hgd fun _ hK => appI_wp w base s x ho hs hx h hu hb hbase fun v' w' h2 h3 h4 => hK _ _ (hk v' w' h2 h3 h4)
end Go.Proofs.YtchncgniiohgdaaDoor.Wd
