/-
  The closure that asks whether an operation is had; rows of operations; slices.IndexFunc where none is had.
-/
import Derived.Test.YtkhjmegjnglkgaaSort
import Derived.Test.YtkhjmegjnglkgaaHas
namespace Go.Proofs.Ytkhjmegjnglkgaa.Vc
open Go.RowKit Go.Proofs.Ytkhjmegjnglkgaa.Wd Go.Sort Go.Proofs
set_option linter.unusedVariables false

set_option maxHeartbeats 1000000 in
set_option maxRecDepth 100000 in
theorem pick1_any (o : O) (ho : OkO o) (g : Nat) (v : List Nat) (w : World) (hv : VecAt w g v) :
    Calls Try.prog 27 #[.agg (opA o).toArray, .pointer (some ⟨g, 0, none⟩)] w fun e w' => e = .returned (.bool (hasB v o.rep o.seq)) ∧ Gr w w' := by
  have H1 := Lib.hid (OpAt.new w ho)
  have H0 := Lib.hid ((Gr.refl w).alloc (.cells (opA o).toArray 54))
  have H2 := Lib.hid (hv.below ((Below.refl _ _).alloc (Nat.le_refl _) (.cells (opA o).toArray 54)))
  have q := fun W => has_any v o.rep o.seq hv.vec ho.rep ho.seq W
  have c0 := H1.out.cell 0
  have c1 := H1.out.cell 1
  have e0 : (opA o)[0]? = some (.int .u8 ((o.rep : Nat) : Int)) := rfl
  have e1 : (opA o)[1]? = some (.int .u32 ((o.seq : Nat) : Int)) := rfl
  rw [e0] at c0
  rw [e1] at c1
  have Q := Lib.hid q
  clear ho hv q
  go_enter Try.func27, Try.ntmps27
  go_wp2_with (refine VecAt.load_list H2.out rfl (.tmp 1) rfl rfl ?_)
  refine (Q.out _).mono ?_
  rintro e w3 ⟨rfl, hg⟩
  have HG := Lib.hid (H0.out.trans hg)
  clear hg c0 c1 e0 e1
  go_wp2_with fail
  go_ret
  exact ⟨rfl, HG.out⟩

/-! ### Rows of operations -/
def flatL (l : List OpN) : List Value := l.flatMap encO
theorem flatL_length (l : List OpN) : (flatL l).length = l.length * 23 := by
  induction l with
  | nil => rfl
  | cons x l ih =>
    unfold flatL at ih ⊢
    rw [List.flatMap_cons, List.length_append, ih, encO_length, List.length_cons]
    omega
theorem flatL_get : ∀ (l : List OpN) (j i : Nat) (x : OpN), l[j]? = some x → i < 23 → (flatL l)[j * 23 + i]? = (encO x)[i]?
  | [], j, i, x, h, _ => by simp at h
  | s :: l, 0, i, x, h, hi => by
    simp only [List.getElem?_cons_zero, Option.some.injEq] at h
    subst h
    unfold flatL
    rw [List.flatMap_cons, List.getElem?_append_left (by rw [encO_length]; omega)]
    congr 1
    omega
  | s :: l, j + 1, i, x, h, hi => by
    have ih := flatL_get l j i x (by simpa using h) hi
    unfold flatL at ih ⊢
    rw [List.flatMap_cons, List.getElem?_append_right (by rw [encO_length]; omega), encO_length, show (j + 1) * 23 + i - 23 = j * 23 + i by omega, ih]
/-- The slice value '.slice A n c' reads as operations. -/
structure RdO (w : World) (A : Option Addr) (n : Nat) (l : List OpN) : Prop where
  len : l.length = n
  fits : n ≤ 9223372036854775807
  cell : 0 < n → ∃ ad, A = some ad ∧ ∀ t u, (flatL l)[t]? = some u → w.cell? (ad.add t) = some u
theorem RdO.below {w w1 : World} {A : Option Addr} {n : Nat} {l : List OpN} (h : RdO w A n l) (hb : Below w.heap.size w w1) : RdO w1 A n l :=
  ⟨h.len, h.fits, fun h0 => by
    obtain ⟨ad, e, hc⟩ := h.cell h0
    refine ⟨ad, e, fun t u hu => ?_⟩
    rw [hb.cell (World.block_lt_of_cell? w _ (hc t u hu))]
    exact hc t u hu⟩
structure OwnO (w : World) (base : Nat) (v : Value) (l : List OpN) : Prop where
  row : w.ownsRow base 54 23 v l.length (flatL l)
theorem OwnO.below {w w' : World} {base : Nat} {v : Value} {l : List OpN} (h : OwnO w base v l) (hb : Below w.heap.size w w') : OwnO w' base v l :=
  ⟨h.row.kept (grown_none hb) (by cases v.ownBlock <;> simp)⟩
theorem OwnO.form {w : World} {base : Nat} {v : Value} {l : List OpN} (h : OwnO w base v l) (h0 : 0 < l.length) : ∃ g c, v = .slice (some ⟨g, 0, none⟩) l.length c ∧ l.length ≤ c ∧ base ≤ g ∧ g < w.heap.size ∧ RdO w (some ⟨g, 0, none⟩) l.length l ∧
    (∀ j, w.frozen? ⟨g, j, none⟩ = false) := by
  rcases h.row.2 with ⟨_, h1⟩ | ⟨g, cap, cur, rfl, hb, hg, hnc, hcm, _⟩
  · omega
  · unfold maxLen at hcm
    refine ⟨g, cap, rfl, hnc, hb, (Array.getElem?_eq_some_iff.1 hg).1, ⟨rfl, by omega, fun _ => ⟨_, rfl, fun t u hu => h.row.cells (g := g) rfl t u hu⟩⟩, fun j => h.row.frozenAt j⟩
end Go.Proofs.Ytkhjmegjnglkgaa.Vc
