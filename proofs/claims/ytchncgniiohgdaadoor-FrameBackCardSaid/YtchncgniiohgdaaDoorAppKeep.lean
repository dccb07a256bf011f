/-
  An append leaves what it was appended to as it was.
-/
import Derived.Test.YtchncgniiohgdaaDoorWords
namespace Go.Proofs.YtchncgniiohgdaaDoor.Wd
open Go.RowKit

theorem app_kept (w : World) (base : Nat) (ty : TypeId) {v : Value} {xs ys : List Nat} (h : OwnB w base v xs) {ad : Addr} {m : Nat} (c : Nat) (hy : RdB w (some ad) m ys)
    (hb : xs.length + m ≤ 70368744177664) {v' : Value} {w' : World}
    (hrun : (Builtin.append_ #[22, 22] ty #[v, .slice (some ad) m c]).run Tryd.prog w = .ok v' w') : OwnB w' base v xs := by
  obtain ⟨i0, hi0, hz0, hz1, hz2⟩ := info_parts info8
  have hyl := hy.len
  rcases h.row.2 with ⟨rfl, h0⟩ | ⟨g, cap, cur, rfl, hbg, hg, hnc, hcm, hcs, htake⟩
  · have hx : xs = [] := List.eq_nil_of_length_eq_zero h0
    subst hx
    exact OwnB.nil_ _ _
  · have hnews : ∀ j u, (vals ys)[j]? = some u → w.cell? (ad.add j) = some u := fun j u hu => by
      have hj : j < ys.length := by
        have := (List.getElem?_eq_some_iff.1 hu).1
        rwa [vals_length] at this
      rw [vals_get hj] at hu
      rw [← hu]
      obtain ⟨ad', e, hc⟩ := hy.cell (by omega)
      injection e with e
      subst e
      exact hc j (by omega)
    have h1 : ∀ u ∈ vals ys, u.oneCell' = true := fun u hu => by
      obtain ⟨x, _, rfl⟩ := List.mem_map.1 hu
      rfl
    by_cases hroom : xs.length + m ≤ cap
    · have hr := run_append_room (P := Tryd.prog) w 22 ty 5 i0 Tryd.underlying22 hi0 g xs.length cap cur hg ad m c (vals ys) (by rw [vals_length, hz1]; omega) hnews h1 hroom
        (by rw [vals_length, hz1, hcs]; omega)
      rw [hr] at hrun
      injection hrun with e1 e2
      subst e2
      refine ⟨⟨h.row.1, .inr ⟨g, cap, _, rfl, hbg, setRow_heap w g cur _ _ _ hg, hnc, hcm, ?_, ?_⟩⟩, h.small⟩
      · simp only [List.size_toArray, List.length_append, List.length_take, List.length_drop, Array.length_toList, vals_length, hz1, hcs]
        omega
      · rw [hz1, htake, List.append_assoc]
        have e : vals xs = (vals xs).take (xs.length * 1) := by rw [List.take_of_length_le (by rw [vals_length]; omega)]
        conv => rhs; rw [e]
        exact List.take_append_of_le_length (by rw [vals_length]; omega)
    · have hr := run_append_grow (P := Tryd.prog) w 22 ty 5 i0 _ Tryd.underlying22 hi0 hz0 ⟨g, 0, none⟩ xs.length cap (vals xs) (by rw [vals_length, hz1]; omega) (h.row.cells (g := g) rfl) ad m c (vals ys)
        (by rw [vals_length, hz1]; omega) hnews (by omega) (by omega) (growslice_fits (by omega) (by rw [hz2]; omega))
      rw [hr] at hrun
      injection hrun with e1 e2
      subst e2
      exact h.drew.alloc _
theorem appK_list {ops : Array Oper} {rest : List Oper} {o : Oper} {a : Act} {Q : Exit → Act → World → Prop} {w : World} (base : Nat) (hgd : o.guard = none) (s x : Operand)
    (ho : o.op = .call { callee := .builtin .append, args := #[s, x], argTypes := #[22, 22] })
    {v : Value} {xs ys : List Nat} {ad : Addr} {m c : Nat} (hs : a.eval s = v) (hx : a.eval x = .slice (some ad) m c) (h : OwnB w base v xs) (hy : RdB w (some ad) m ys)
    (hb : xs.length + m ≤ 70368744177664) (hbase : base ≤ w.heap.size)
    (hk : ∀ v' w', OwnB w' base v' (xs ++ ys) → w.grownBy w' v.ownBlock → OwnB w' base v xs → wpList Tryd.prog ops Q rest (a.put o.dst v') w') : wpList Tryd.prog ops Q (o :: rest) a w := by
  refine wpList_plain hgd fun _ hK => ?_
  obtain ⟨v', w', hrun, h2, h3, h4⟩ := app_run w base o.type h c hy hb hbase
  unfold Oper.wp execOp
  simp only [ho, resolve, invoke, builtin, Sem.run_bind, Sem.run_pure, Result.andThen_ok, List.map_toArray, List.map_cons, List.map_nil, hs, hx, hrun]
  exact hK _ _ (hk v' w' h2 h3 (app_kept w base o.type h c hy hb hrun))
end Go.Proofs.YtchncgniiohgdaaDoor.Wd
