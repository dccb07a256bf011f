/-
  digest.Pick, whole.
-/
import Derived.Test.YtkhjmegjnglkgaaStab
import Derived.Test.YtkhjmegjnglkgaaDelW
import Derived.Test.YtkhjmegjnglkgaaSel
namespace Go.Proofs.Ytkhjmegjnglkgaa.Vc
open Go.RowKit Go.Proofs.Ytkhjmegjnglkgaa.Wd Go.Sort Go.Proofs Go.Lib Go.Proofs.Ytkhjmegjnglkgaa.Sym
set_option linter.unusedVariables false

theorem lessB_iff (a b : O) : lessB a b = true ↔ cnt a < cnt b ∨ (cnt a = cnt b ∧ (a.rep < b.rep ∨ (a.rep = b.rep ∧ a.seq < b.seq))) := by
  unfold lessB key3 or3 cmpN
  rw [decide_eq_true_eq]
  rcases Nat.lt_trichotomy (cnt a) (cnt b) with h | h | h
  · simp [h]
  · rcases Nat.lt_trichotomy a.rep b.rep with h2 | h2 | h2
    · simp [h, h2]
    · rcases Nat.lt_trichotomy a.seq b.seq with h3 | h3 | h3
      · simp [h, h2, h3]
      · simp [h, h2, h3]
      · have : ¬ a.seq < b.seq := by omega
        simp [h, h2, h3, this]
    · have h4 : ¬ a.rep < b.rep := by omega
      have h5 : ¬ a.rep = b.rep := by omega
      simp [h, h2, h4, h5]
  · have h4 : ¬ cnt a < cnt b := by omega
    have h5 : ¬ cnt a = cnt b := by omega
    simp [h, h4, h5]
theorem ltOf_iff (x y : OpN) : ltOf cf x y = lessB x.1 y.1 := by
  unfold ltOf cf cmpO
  cases h1 : lessB x.1 y.1 with
  | true => simp
  | false => cases h2 : lessB y.1 x.1 <;> simp
theorem swoO : SWO (ltOf cf) := by
  have key : ∀ x y : OpN, ltOf cf x y = true ↔ cnt x.1 < cnt y.1 ∨ (cnt x.1 = cnt y.1 ∧ (x.1.rep < y.1.rep ∨ (x.1.rep = y.1.rep ∧ x.1.seq < y.1.seq))) := fun x y => by rw [ltOf_iff, lessB_iff]
  have keyn : ∀ x y : OpN, ltOf cf x y = false ↔ ¬ (cnt x.1 < cnt y.1 ∨ (cnt x.1 = cnt y.1 ∧ (x.1.rep < y.1.rep ∨ (x.1.rep = y.1.rep ∧ x.1.seq < y.1.seq)))) := fun x y => by rw [← key, Bool.not_eq_true]
  refine ⟨fun x => ?_, fun x y z h1 h2 => ?_, fun x y z h1 h2 => ?_⟩
  · rw [keyn]; omega
  · rw [key] at *; omega
  · rw [keyn] at *; omega

/-! ### The entry, and no element -/
set_option maxHeartbeats 1000000 in
theorem sortS_any (blk cap N : Nat) (hN : N < 1000000) (d : Array OpN) (w : World) (hH : HoldsK encO 23 w blk 0 d) (hblk : blk < w.heap.size) (hd0 : d.size = N) :
    Calls Try.prog 29 #[.slice (some ⟨blk, 0, none⟩) N cap, .func (.func 30) #[] #[]] w (SymPost w blk 0 d 0 N) := by
  have Q := Lib.hid (stable_any swoO blk cap N hN d w ⟨encO_length, encO_one, hH, hblk⟩ hd0)
  clear hH hd0
  go_enter Try.func29, Try.ntmps29
  go_wp2_with fail
  ((with_reducible refine Q.out.mono ?_))
  rintro e w3 ⟨rfl, hp⟩
  have HP := Lib.hid hp
  clear hp
  go_wp2_with fail
  go_end0
  exact ⟨rfl, HP.out⟩
set_option maxHeartbeats 1000000 in
theorem ins_empty (A : Option Addr) (cap : Nat) (F : Value) (w : World) :
    Calls Try.prog 41 #[.slice A 0 cap, .int .i64 0, .int .i64 0, F] w fun e w' => e = .returned (.tuple #[]) ∧ w = w' := by
  go_enter Try.func41, Try.ntmps41
  go_wp2_with fail
  refine wp_loop_rounds 1 ?_
  rw [rounds_succ]
  go_wp2_with fail
  go_end0
  exact ⟨rfl, rfl⟩
set_option maxHeartbeats 1000000 in
theorem stable_empty (A : Option Addr) (cap : Nat) (F : Value) (w : World) :
    Calls Try.prog 35 #[.slice A 0 cap, .int .i64 0, F] w fun e w' => e = .returned (.tuple #[]) ∧ w = w' := by
  have Q := Lib.hid (ins_empty A cap F w)
  go_enter Try.func35, Try.ntmps35
  go_wp2_with fail
  refine wp_loop_rounds 1 ?_
  rw [rounds_succ]
  go_wp2_with fail
  refine Q.out.mono ?_
  rintro e w3 ⟨rfl, rfl⟩
  go_wp2_with fail
  refine wp_loop_rounds 1 ?_
  rw [rounds_succ]
  go_wp2_with fail
  go_end0
  exact ⟨rfl, rfl⟩
set_option maxHeartbeats 1000000 in
theorem sort_empty (A : Option Addr) (cap : Nat) (F : Value) (w : World) :
    Calls Try.prog 29 #[.slice A 0 cap, F] w fun e w' => e = .returned (.tuple #[]) ∧ w = w' := by
  have Q := Lib.hid (stable_empty A cap F w)
  go_enter Try.func29, Try.ntmps29
  go_wp2_with fail
  refine Q.out.mono ?_
  rintro e w3 ⟨rfl, rfl⟩
  go_wp2_with fail
  go_end0
  exact ⟨rfl, rfl⟩
theorem appO_none {ops : Array Oper} {rest : List Oper} {o : Oper} {a : Act} {Q : Exit → Act → World → Prop} {w : World} (base : Nat) (hgd : o.guard = none) (s x : Operand)
    (ho : o.op = .call { callee := .builtin .append, args := #[s, x], argTypes := #[40, 40] })
    {v : Value} {l : List OpN} {ad : Addr} {c : Nat} (hs : a.eval s = v) (hx : a.eval x = .slice (some ad) 0 c) (h : OwnO w base v l)
    (hb : l.length ≤ 1000000) (hbase : base ≤ w.heap.size)
    (hk : ∀ v' w', OwnO w' base v' l → w.grownBy w' v.ownBlock → wpList Try.prog ops Q rest (a.put o.dst v') w') : wpList Try.prog ops Q (o :: rest) a w := by
  refine wpList_plain hgd fun _ hK => ?_
  obtain ⟨i0, hi0, hz0, hz1, hz2⟩ := info_parts infoO
  obtain ⟨v', w', hrun, h2, h3, _, _⟩ := run_append_own_at (P := Try.prog) w base 40 o.type 54 i0 _ 23 84 Try.underlying40 hi0 hz0 hz1 hz2 (by show (opA zeroOp).toArray.size = 23; rw [List.size_toArray]; exact opA_length okZero) (by decide) v l.length (flatL l) h.row ad 0 c (flatL [])
      rfl (fun j u hu => by simp [flatL] at hu) (flatL_one []) (by unfold maxLen; omega) (by omega) hbase
  have h6 : OwnO w' base v' l := ⟨by
    rw [show flatL l ++ flatL [] = flatL l by simp [flatL]] at h2
    exact h2⟩
  unfold Oper.wp execOp
  simp only [ho, resolve, invoke, builtin, Sem.run_bind, Sem.run_pure, Result.andThen_ok, List.map_toArray, List.map_cons, List.map_nil, hs, hx, hrun]
  exact hK _ _ (hk v' w' h6 h3)
/-- The call returns an empty slice, in new memory or none. -/
def GivesE (w : World) (e : Ending) (w' : World) : Prop := ∃ A c, e = .returned (.slice A 0 c) ∧ Below w.heap.size w w'
set_option maxHeartbeats 1000000 in
theorem clone_empty (A : Option Addr) (cap : Nat) (w : World) : Calls Try.prog 26 #[.slice A 0 cap] w (GivesE w) := by
  have hb0 : Below w.heap.size w (w.alloc (.cells #[] 54)) := (Below.refl _ _).alloc (Nat.le_refl _) _
  have HB0 := Lib.hid hb0
  have hnil := fun W : World => Lib.run_eql_slice_nil (P := Try.prog) W 40 54 A 0 cap 0 0 Try.underlying40
  have hown : OwnO (w.alloc (.cells #[] 54)) w.heap.size (.slice (some ⟨w.heap.size, 0, none⟩) 0 0) [] := ⟨World.ownsRow_lit w #[] 0 (Nat.le_refl _) (by decide) rfl⟩
  have HOWN := Lib.hid hown
  clear hb0 hown
  cases A with
  | none =>
    go_enter Try.func26, Try.ntmps26
    go_wp2_with fail
    go_ret
    exact ⟨none, 0, rfl, Below.refl _ _⟩
  | some ad =>
    go_enter Try.func26, Try.ntmps26
    go_wp2_with (at_builtin; refine appO_none w.heap.size rfl (.tmp 5) (.tmp 6) rfl rfl rfl HOWN.out (by simp) HB0.out.size ?_; intro v2 w2 ho2 hg2; have HB2 := Lib.hid (HB0.out.grown hg2 HB0.out.size (fun k hk => (HOWN.out.row.lt k hk).1)); have HO2 := Lib.hid ho2; clear ho2 hg2)
    go_ret
    rcases HO2.out.row.2 with ⟨h1, _⟩ | ⟨g, c, cur, h1, _⟩
    · exact ⟨none, 0, by rw [← h1]; rfl, HB2.out⟩
    · exact ⟨_, c, by rw [show (0 : Nat) = ([] : List OpN).length from rfl, ← h1]; rfl, HB2.out⟩
end Go.Proofs.Ytkhjmegjnglkgaa.Vc
