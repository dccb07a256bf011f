/-
  Rows of bytes ('[][]byte'): read, owned, appended to.
-/
import Derived.Test.YtchncgniiohgdaaDoorWords
namespace Go.Proofs.YtchncgniiohgdaaDoor.Wd
open Go.RowKit

theorem info22 : (Tryd.prog.info? 22).map (fun i => (i.zero, i.size, i.bytes)) = some (some (.slice none 0 0), 1, 24) := by kernel_rfl

theorem add_block (ad : Addr) (j : Nat) : (ad.add j).block = ad.block := by
  unfold Addr.add
  split <;> rfl
theorem add_zero_ (ad : Addr) : ad.add 0 = ad := by
  cases ad
  simp [Addr.add]

/-- The value u reads as the bytes x, and they do not lie in the block k. -/
def Part (w : World) (k : Option Nat) (x : List Nat) (u : Value) : Prop :=
  ∃ A c, u = .slice A x.length c ∧ x.length ≤ c ∧ RdB w A x.length x ∧ ∀ ad, A = some ad → 0 < x.length → k ≠ some ad.block
theorem Part.move {w w' : World} {k k' : Option Nat} {x : List Nat} {u : Value} (h : Part w k x u) (hg : w.grownBy w' k) (hk : k' = k ∨ k' = some w.heap.size) : Part w' k' x u := by
  obtain ⟨A, c, rfl, hc, hr, hn⟩ := h
  refine ⟨A, c, rfl, hc, ⟨hr.len, hr.fits, hr.small, fun h0 => ?_⟩, fun ad hA h0 => ?_⟩
  · obtain ⟨ad, rfl, hcell⟩ := hr.cell h0
    refine ⟨ad, rfl, fun j hj => hg.cell (hcell j hj) ?_⟩
    rw [show (ad.add j).block = ad.block from add_block ad j]
    exact fun e => hn ad rfl h0 e.symm
  · rcases hk with rfl | rfl
    · exact hn ad hA h0
    · obtain ⟨ad', e, hcell⟩ := hr.cell h0
      rw [hA] at e
      injection e with e
      subst e
      have := World.block_lt_of_cell? w _ (hcell 0 h0)
      rw [show (ad.add 0).block = ad.block from add_block ad 0] at this
      intro e
      injection e with e
      omega
theorem Part.keep {w w' : World} {k : Option Nat} {x : List Nat} {u : Value} (h : Part w k x u) (hb : Below w.heap.size w w') : Part w' k x u := by
  obtain ⟨A, c, rfl, hc, hr, hn⟩ := h
  exact ⟨A, c, rfl, hc, hr.below hb, hn⟩

/-- The value v is a row of its own, of which the members read as l. -/
def OwnL (w : World) (base : Nat) (v : Value) (l : List (List Nat)) : Prop :=
  ∃ us : List Value, w.ownsRow base 22 1 v us.length us ∧ us.length = l.length ∧ ∀ (j : Nat) (x : List Nat), l[j]? = some x → ∃ u, us[j]? = some u ∧ Part w v.ownBlock x u
theorem OwnL.nil_ (w : World) (base : Nat) : OwnL w base (.slice none 0 0) [] := ⟨[], World.ownsRow_nil _ _ _ _, rfl, by simp⟩
theorem OwnL.below {w w' : World} {base : Nat} {v : Value} {l : List (List Nat)} (h : OwnL w base v l) (hb : Below w.heap.size w w') : OwnL w' base v l := by
  obtain ⟨us, h1, h2, h3⟩ := h
  refine ⟨us, h1.kept (grown_none hb) (by cases v.ownBlock <;> simp), h2, fun j x hx => ?_⟩
  obtain ⟨u, hu, hp⟩ := h3 j x hx
  exact ⟨u, hu, hp.keep hb⟩
theorem OwnL.alloc {w : World} {base : Nat} {v : Value} {l : List (List Nat)} (h : OwnL w base v l) (o : Obj) : OwnL (w.alloc o) base v l :=
  h.below ((Below.refl _ _).alloc (Nat.le_refl _) _)
theorem OwnL.drew {w : World} {base : Nat} {v : Value} {l : List (List Nat)} (h : OwnL w base v l) : OwnL w.drew base v l := h.below ((Below.refl _ _).drew)
theorem OwnL.rebase {w : World} {base base' : Nat} {v : Value} {l : List (List Nat)} (h : OwnL w base v l) (hb : base' ≤ base) : OwnL w base' v l := by
  obtain ⟨us, h1, h2⟩ := h
  exact ⟨us, own_base h1 hb, h2⟩
theorem OwnL.lt {w : World} {base : Nat} {v : Value} {l : List (List Nat)} (h : OwnL w base v l) : ∀ k, v.ownBlock = some k → base ≤ k ∧ k < w.heap.size := by
  obtain ⟨us, h1, _⟩ := h
  exact h1.lt
theorem OwnL.to_below {w0 w w' : World} {base : Nat} {v : Value} {l : List (List Nat)} (h : OwnL w base v l) (hb : Below base w0 w) (hbase : base ≤ w.heap.size) (hg : w.grownBy w' v.ownBlock) : Below base w0 w' :=
  hb.grown hg hbase fun k hk => (h.lt k hk).1
/-- The slice value '.slice A n c' reads as rows of bytes. -/
structure RdL (w : World) (A : Option Addr) (n : Nat) (l : List (List Nat)) : Prop where
  len : l.length = n
  fits : n ≤ 9223372036854775807
  cell : 0 < n → ∃ ad, A = some ad ∧ ∀ j, j < n → ∃ B c, w.cell? (ad.add j) = some (.slice B (l.getD j []).length c) ∧ (l.getD j []).length ≤ c ∧ RdB w B (l.getD j []).length (l.getD j [])
theorem RdL.below {w w1 : World} {A : Option Addr} {n : Nat} {l : List (List Nat)} (h : RdL w A n l) (hb : Below w.heap.size w w1) : RdL w1 A n l :=
  ⟨h.len, h.fits, fun h0 => by
    obtain ⟨ad, e, hc⟩ := h.cell h0
    refine ⟨ad, e, fun j hj => ?_⟩
    obtain ⟨B, c, h1, h2, h3⟩ := hc j hj
    refine ⟨B, c, ?_, h2, h3.below hb⟩
    rw [hb.cell (World.block_lt_of_cell? w _ h1)]
    exact h1⟩
theorem OwnL.rd {w : World} {base : Nat} {v : Value} {l : List (List Nat)} (h : OwnL w base v l) : ∃ A c, v = .slice A l.length c ∧ l.length ≤ c ∧ RdL w A l.length l := by
  obtain ⟨us, hrow, hlen, hp⟩ := h
  rcases hrow.2 with ⟨rfl, h0⟩ | ⟨g, cap, cur, rfl, _, _, hnc, hcm, _⟩
  · have : l = [] := List.eq_nil_of_length_eq_zero (by omega)
    subst this
    exact ⟨none, 0, rfl, Nat.le_refl _, rfl, by decide, fun h => absurd h (by decide)⟩
  · unfold maxLen at hcm
    rw [hlen] at hnc ⊢
    refine ⟨_, cap, rfl, hnc, rfl, by omega, fun _ => ⟨_, rfl, fun j hj => ?_⟩⟩
    obtain ⟨u, hu, B, c, rfl, h1, h2, _⟩ := hp j (l.getD j []) (by rw [List.getD_eq_getElem?_getD, List.getElem?_eq_getElem hj]; rfl)
    exact ⟨B, c, hrow.cells (g := g) rfl j _ hu, h1, h2⟩

/-- One member more. -/
theorem appL_run (w : World) (base : Nat) (ty : TypeId) {v u : Value} {l : List (List Nat)} {x : List Nat} (h : OwnL w base v l) (hp : Part w v.ownBlock x u) {ad : Addr} (c : Nat) (hu : w.cell? ad = some u)
    (hb : l.length ≤ 1000000) (hbase : base ≤ w.heap.size) :
    ∃ v' w', (Builtin.append_ #[34, 34] ty #[v, .slice (some ad) 1 c]).run Tryd.prog w = .ok v' w' ∧ OwnL w' base v' (l ++ [x]) ∧ w.grownBy w' v.ownBlock := by
  obtain ⟨i0, hi0, hz0, hz1, hz2⟩ := info_parts info22
  obtain ⟨us, hrow, hlen, hpp⟩ := h
  have ho : u.oneCell' = true := by
    obtain ⟨A, c, rfl, _⟩ := hp
    rfl
  obtain ⟨v', w', hr, h2, h3, _, h5⟩ := run_append_own_at (P := Tryd.prog) w base 34 ty 22 i0 _ 1 24 Tryd.underlying34 hi0 hz0 hz1 hz2 rfl (by decide) v us.length us hrow ad 1 c [u]
      (by simp) (fun j y hy => by
        rcases j with _ | j
        · simp only [List.getElem?_cons_zero, Option.some.injEq] at hy
          subst hy
          rw [show ad.add 0 = ad from add_zero_ ad]
          exact hu
        · simp at hy)
      (fun y hy => by rw [List.mem_singleton.1 hy]; exact ho) (by unfold maxLen; omega) (by omega) hbase
  refine ⟨v', w', hr, ⟨us ++ [u], ?_, by simp [hlen], fun j y hy => ?_⟩, h3⟩
  · rw [List.length_append]
    exact h2
  · by_cases hj : j < l.length
    · rw [List.getElem?_append_left hj] at hy
      obtain ⟨y', h6, h7⟩ := hpp j y hy
      refine ⟨y', ?_, h7.move h3 h5⟩
      rw [List.getElem?_append_left (by omega)]
      exact h6
    · have hj2 : j = l.length := by
        have := (List.getElem?_eq_some_iff.1 hy).1
        simp at this
        omega
      subst hj2
      simp at hy
      subst hy
      refine ⟨u, ?_, hp.move h3 h5⟩
      rw [← hlen]
      simp
theorem appL_wp {o : Oper} {a : Act} {K : Act → World → Prop} {Q : Exit → Act → World → Prop} (w : World) (base : Nat) (s x : Operand)
    (ho : o.op = .call { callee := .builtin .append, args := #[s, x], argTypes := #[34, 34] })
    {v u : Value} {l : List (List Nat)} {ys : List Nat} {ad : Addr} {c : Nat} (hs : a.eval s = v) (hx : a.eval x = .slice (some ad) 1 c) (h : OwnL w base v l) (hp : Part w v.ownBlock ys u) (hu : w.cell? ad = some u)
    (hb : l.length ≤ 1000000) (hbase : base ≤ w.heap.size)
    (hk : ∀ v' w', OwnL w' base v' (l ++ [ys]) → w.grownBy w' v.ownBlock → K (a.put o.dst v') w') : o.wp Tryd.prog a w K Q := by
  obtain ⟨v', w', hrun, h2, h3⟩ := appL_run w base o.type h hp c hu hb hbase
  unfold Oper.wp execOp
  simp only [ho, resolve, invoke, builtin, Sem.run_bind, Sem.run_pure, Result.andThen_ok, List.map_toArray, List.map_cons, List.map_nil, hs, hx, hrun]
  exact hk v' w' h2 h3
theorem appL_list {ops : Array Oper} {rest : List Oper} {o : Oper} {a : Act} {Q : Exit → Act → World → Prop} {w : World} (base : Nat) (hgd : o.guard = none) (s x : Operand)
    (ho : o.op = .call { callee := .builtin .append, args := #[s, x], argTypes := #[34, 34] })
    {v u : Value} {l : List (List Nat)} {ys : List Nat} {ad : Addr} {c : Nat} (hs : a.eval s = v) (hx : a.eval x = .slice (some ad) 1 c) (h : OwnL w base v l) (hp : Part w v.ownBlock ys u) (hu : w.cell? ad = some u)
    (hb : l.length ≤ 1000000) (hbase : base ≤ w.heap.size)
    (hk : ∀ v' w', OwnL w' base v' (l ++ [ys]) → w.grownBy w' v.ownBlock → wpList Tryd.prog ops Q rest (a.put o.dst v') w') : wpList Tryd.prog ops Q (o :: rest) a w :=
  wpList_plain hgd fun _ hK => appL_wp w base s x ho hs hx h hp hu hb hbase fun v' w' h2 h3 => hK _ _ (hk v' w' h2 h3)
end Go.Proofs.YtchncgniiohgdaaDoor.Wd
