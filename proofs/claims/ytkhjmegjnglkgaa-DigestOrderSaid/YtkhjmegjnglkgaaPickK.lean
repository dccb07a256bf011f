/-
  Words for the reference's Pick: a literal of one operation, an append and where it lies, rows beside one another.
-/
import Derived.Test.YtkhjmegjnglkgaaPickW
import Derived.Test.YtkhjmegjnglkgaaLessR
import Derived.Great.Walk
namespace Go.Proofs.Ytkhjmegjnglkgaa.Vc
open Go.RowKit Go.Proofs.Ytkhjmegjnglkgaa.Wd Go.Sort Go.Proofs Go.Lib Go.Proofs.Ytkhjmegjnglkgaa.Sym
set_option linter.unusedVariables false

theorem list16 {l : List Nat} (h : l.length = 16) : ∃ a0 a1 a2 a3 a4 a5 a6 a7 a8 a9 a10 a11 a12 a13 a14 a15, l = [a0, a1, a2, a3, a4, a5, a6, a7, a8, a9, a10, a11, a12, a13, a14, a15] := by
  rcases l with _ | ⟨a0, _ | ⟨a1, _ | ⟨a2, _ | ⟨a3, _ | ⟨a4, _ | ⟨a5, _ | ⟨a6, _ | ⟨a7, _ | ⟨a8, _ | ⟨a9, _ | ⟨a10, _ | ⟨a11, _ | ⟨a12, _ | ⟨a13, _ | ⟨a14, _ | ⟨a15, _ | ⟨x, r⟩⟩⟩⟩⟩⟩⟩⟩⟩⟩⟩⟩⟩⟩⟩⟩⟩
  all_goals first
    | (exact ⟨_, _, _, _, _, _, _, _, _, _, _, _, _, _, _, _, rfl⟩)
    | (simp at h; done)
theorem build_one (x : OpN) : Try.prog.builtSlice 54 1 [(0, .agg (opA x.1).toArray)] = some (flatL [x]).toArray := by
  obtain ⟨⟨r, s, k, c, i, q, t, ctx⟩, ok⟩ := x
  obtain ⟨a0, a1, a2, a3, a4, a5, a6, a7, a8, a9, a10, a11, a12, a13, a14, a15, rfl⟩ := list16 ok.ctx.len
  kernel_rfl
theorem rdOne (w : World) (x : OpN) : RdO (w.alloc (.cells (flatL [x]).toArray 54)) (some ⟨w.heap.size, 0, none⟩) 1 [x] :=
  ⟨rfl, by decide, fun _ => ⟨_, rfl, fun t u hu => by
    have hadd : (⟨w.heap.size, 0, none⟩ : Addr).add t = ⟨w.heap.size, t, none⟩ := by unfold Addr.add; split <;> simp_all
    rw [hadd, cell_of_row _ w.heap.size t _ _ _ (heap_alloc_new w _)]
    simpa using hu⟩⟩
theorem OwnO.nil_ (w : World) (base : Nat) : OwnO w base (.slice none 0 0) [] := ⟨World.ownsRow_nil _ _ _ _⟩
theorem OwnO.sl {w : World} {base : Nat} {v : Value} {l : List OpN} (h : OwnO w base v l) : ∃ A c, v = .slice A l.length c := by
  rcases h.row.2 with ⟨h1, h2⟩ | ⟨g, c, cur, h1, _⟩
  · exact ⟨none, 0, by rw [h1, h2]⟩
  · exact ⟨_, c, h1⟩
theorem OwnO.rdo {w : World} {base n : Nat} {A : Option Addr} {c : Nat} {l : List OpN} (h : OwnO w base (.slice A n c) l) : n = l.length ∧ RdO w A l.length l := by
  by_cases h0 : 0 < l.length
  · obtain ⟨g, c', e, _, _, _, hr, _⟩ := h.form h0
    injection e with e1 e2 e3
    subst e1 e2
    exact ⟨rfl, hr⟩
  · obtain ⟨B, c', e⟩ := h.sl
    injection e with e1 e2 e3
    subst e2
    have hl : l = [] := List.eq_nil_of_length_eq_zero (by omega)
    subst hl
    exact ⟨rfl, ⟨rfl, by decide, fun h => absurd h (by decide)⟩⟩
/-- The block of a slice's address. -/
theorem own_block {A : Option Addr} {n c : Nat} : (Value.slice A n c).ownBlock = A.map (·.block) := by cases A <;> rfl
theorem appO_lies {ops : Array Oper} {rest : List Oper} {o : Oper} {a : Act} {Q : Exit → Act → World → Prop} {w : World} (base : Nat) (hgd : o.guard = none) (s x : Operand)
    (ho : o.op = .call { callee := .builtin .append, args := #[s, x], argTypes := #[40, 40] })
    {v : Value} {l m : List OpN} {ad : Addr} {k c : Nat} (hs : a.eval s = v) (hx : a.eval x = .slice (some ad) k c) (h : OwnO w base v l) (hm : RdO w (some ad) k m) (h0 : 0 < k)
    (hb : l.length + k ≤ 1000000) (hbase : base ≤ w.heap.size)
    (hk : ∀ v' w', OwnO w' base v' (l ++ m) → w.grownBy w' v.ownBlock → (v'.ownBlock = v.ownBlock ∨ v'.ownBlock = some w.heap.size) → wpList Try.prog ops Q rest (a.put o.dst v') w') : wpList Try.prog ops Q (o :: rest) a w := by
  refine wpList_plain hgd fun _ hK => ?_
  obtain ⟨i0, hi0, hz0, hz1, hz2⟩ := info_parts infoO
  obtain ⟨ad', e, hc⟩ := hm.cell h0
  injection e with e
  subst e
  obtain ⟨v', w', hrun, h2, h3, _, h7⟩ := run_append_own_at (P := Try.prog) w base 40 o.type 54 i0 _ 23 84 Try.underlying40 hi0 hz0 hz1 hz2 (by show (opA zeroOp).toArray.size = 23; rw [List.size_toArray]; exact opA_length okZero) (by decide) v l.length (flatL l) h.row ad k c (flatL m)
      (by rw [flatL_length, hm.len]) hc (flatL_one m) (by unfold maxLen; omega) (by omega) hbase
  have h6 : OwnO w' base v' (l ++ m) := ⟨by
    rw [List.length_append, hm.len, show flatL (l ++ m) = flatL l ++ flatL m by simp [flatL]]
    exact h2⟩
  unfold Oper.wp execOp
  simp only [ho, resolve, invoke, builtin, Sem.run_bind, Sem.run_pure, Result.andThen_ok, List.map_toArray, List.map_cons, List.map_nil, hs, hx, hrun]
  exact hK _ _ (hk v' w' h6 h3 h7)
/-- What is read stays, where another row has grown. -/
theorem RdO.kept {w w' : World} {A : Option Addr} {n : Nat} {l : List OpN} {row : Option Nat} (h : RdO w A n l) (hg : w.grownBy w' row) (hne : ∀ b, row = some b → ∀ ad, A = some ad → ad.block ≠ b) : RdO w' A n l :=
  ⟨h.len, h.fits, fun h0 => by
    obtain ⟨ad, e, hc⟩ := h.cell h0
    refine ⟨ad, e, fun t u hu => ?_⟩
    have h1 := hc t u hu
    have hb : (ad.add t).block = ad.block := by unfold Addr.add; split <;> rfl
    have hlt := World.block_lt_of_cell? w _ h1
    rw [hb] at hlt
    have hx : w'.heap[(ad.add t).block]? = w.heap[(ad.add t).block]? := by rw [hb]; exact hg.block _ hlt (fun e2 => hne ad.block e2.symm ad e rfl)
    rw [World.cell?_of_block hx]
    exact h1⟩
theorem load_own {w : World} {A : Option Addr} {n : Nat} {l : List OpN} (h : RdO w A n l) {k : Nat} (hk : k < n) : ∃ ad, A = some ad ∧ (ldK 54 (ad.add (k * 23))).run Try.prog w = .ok (.agg (opA l[k]!.1).toArray) w := by
  obtain ⟨ad, e, _⟩ := h.cell (by omega)
  subst e
  refine ⟨ad, rfl, h.load (k := k) (x := l[k]!) ?_ w (Below.refl _ _)⟩
  have hl : k < l.length := by rw [h.len]; exact hk
  rw [List.getElem?_eq_getElem hl, getElem!_pos l k hl]
theorem kept_snoc {v : List Nat} {l : List OpN} {k : Nat} (h : k < l.length) : kept v (l.take (k + 1)) = if hadB v l[k]! then kept v (l.take k) else kept v (l.take k) ++ [l[k]!] := by
  unfold kept
  rw [List.take_succ_eq_append_getElem h, List.filter_append, getElem!_pos l k h]
  cases hb : hadB v l[k] <;> simp [hb]
theorem erase_snoc {l : List OpN} {k b : Nat} (h : k < l.length) : (l.take (k + 1)).eraseIdx b = if k = b then (l.take k).eraseIdx b else (l.take k).eraseIdx b ++ [l[k]!] := by
  rw [List.take_succ_eq_append_getElem h, getElem!_pos l k h]
  have hl : (l.take k).length = k := by simp; omega
  by_cases h1 : b < k
  · rw [if_neg (by omega), List.eraseIdx_append_of_lt_length (by omega)]
  · rw [List.eraseIdx_append_of_length_le (by omega), hl]
    by_cases h2 : k = b
    · subst h2
      rw [if_pos rfl, Nat.sub_self]
      show List.take k l ++ [] = _
      rw [List.append_nil, List.eraseIdx_of_length_le (by omega)]
    · rw [if_neg h2, List.eraseIdx_of_length_le (l := [l[k]]) (by simp; omega), List.eraseIdx_of_length_le (l := List.take k l) (by omega)]
end Go.Proofs.Ytkhjmegjnglkgaa.Vc
