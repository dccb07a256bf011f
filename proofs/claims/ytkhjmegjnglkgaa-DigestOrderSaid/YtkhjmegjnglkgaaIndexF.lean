/-
  slices.IndexFunc and slices.DeleteFunc where nothing is had; slices.Clone.
-/
import Derived.Test.YtkhjmegjnglkgaaPick1
import Derived.Lib.SliceRun
namespace Go.Proofs.Ytkhjmegjnglkgaa.Vc
open Go.RowKit Go.Proofs.Ytkhjmegjnglkgaa.Wd Go.Sort Go.Proofs
set_option linter.unusedVariables false

theorem loadOp_at {o : O} (ho : OkO o) (a : Addr) (W : World) (h : ∀ i u, (opA o)[i]? = some u → W.cell? (a.add i) = some u) : (ldK 54 a).run Try.prog W = .ok (.agg (opA o).toArray) W := by
  have hl := run_loadCells_list (P := Try.prog) W a (opA o) h
  rw [opA_length ho] at hl
  obtain ⟨i, hi⟩ := info_of_underlying Try.underlying54
  have hsz : i.size = 23 := by
    have h2 : (Try.prog.info? 54).map (·.size) = some 23 := by kernel_rfl
    rw [hi] at h2
    simpa using h2
  simp [ldK, loadVar, Sem.run_bind, Try.isAgg54, sizeOf, typeInfo, hi, hsz, hl]
theorem RdO.load {w : World} {ad : Addr} {n : Nat} {l : List OpN} (h : RdO w (some ad) n l) {k : Nat} {x : OpN} (hk : l[k]? = some x) (W : World) (hb : Below w.heap.size w W) : (ldK 54 (ad.add (k * 23))).run Try.prog W = .ok (.agg (opA x.1).toArray) W := by
  refine loadOp_at x.2 _ W fun i u hu => ?_
  have hkl := (List.getElem?_eq_some_iff.1 hk).1
  have hi : i < 23 := by
    have := (List.getElem?_eq_some_iff.1 hu).1
    rwa [opA_length x.2] at this
  obtain ⟨ad', e, hc⟩ := (h.below hb).cell (by rw [← h.len]; omega)
  injection e with e
  subst e
  rw [add_of_add]
  exact hc _ _ (by rw [flatL_get l k i x hk hi]; exact hu)
attribute [local go_sem ↓] ldKx
set_option maxHeartbeats 1000000 in
set_option maxRecDepth 100000 in
theorem index_none (l : List OpN) (n cap : Nat) (A : Option Addr) (g : Nat) (v : List Nat) (w : World) (hr : RdO w A n l) (hv : VecAt w g v) (hn : ∀ x ∈ l, hasB v x.1.rep x.1.seq = false) :
    Calls Try.prog 33 #[.slice A n cap, .func (.func 27) #[] #[.pointer (some ⟨g, 0, none⟩)]] w fun e w' => e = .returned (.int .i64 (-1)) ∧ Gr w w' := by
  have hfit := hr.fits
  have HR := Lib.hid hr
  have HV := Lib.hid hv
  have HN := Lib.hid hn
  clear hr hv hn
  go_enter Try.func33, Try.ntmps33
  go_wp2_with fail
  go_loopw [8] (fun i wr => ∃ k : Nat, k ≤ n ∧ i = .int .i64 (k : Int) ∧ Hid (Gr w wr)) (fun i _ => n - (intOf i).toNat)
  case atStart => exact ⟨0, Nat.zero_le _, rfl, Gr.refl _⟩
  case round =>
    obtain ⟨k, hk, rfl, HW⟩ := hrel
    by_cases hlt : k < n
    · obtain ⟨x, hx⟩ : ∃ x, l[k]? = some x := ⟨_, List.getElem?_eq_getElem (by rw [HR.out.len]; exact hlt)⟩
      obtain ⟨ad, hA, _⟩ := HR.out.cell (by omega)
      subst hA
      have hld := HR.out.load hx _ HW.out.below
      have hxf := HN.out x (List.mem_of_getElem? hx)
      have q := pick1_any x.1 x.2 g v _ (HV.out.below HW.out.below)
      rw [hxf] at q
      have Q := Lib.hid q
      have i0 : (0 : Int) ≤ (k : Int) := by omega
      have i1 : (k : Int) < (n : Int) := by omega
      clear hx hxf q
      go_wp2_with fail
      refine Q.out.mono ?_
      rintro e w3 ⟨rfl, hg⟩
      have HG := Lib.hid (HW.out.trans hg)
      clear hg hld
      go_wp2_with fail
      go_roundw
      case rel => exact ⟨k + 1, by omega, by go_num, HG.out⟩
      case measure => simp [intOf]; omega
    · go_wp2_with fail
      go_ret
      exact ⟨rfl, HW.out⟩
set_option maxHeartbeats 1000000 in
theorem delete_none (l : List OpN) (n cap : Nat) (A : Option Addr) (g : Nat) (v : List Nat) (w : World) (hr : RdO w A n l) (hv : VecAt w g v) (hn : ∀ x ∈ l, hasB v x.1.rep x.1.seq = false) :
    Calls Try.prog 25 #[.slice A n cap, .func (.func 27) #[] #[.pointer (some ⟨g, 0, none⟩)]] w fun e w' => e = .returned (.slice A n cap) ∧ Gr w w' := by
  have Q := Lib.hid (index_none l n cap A g v w hr hv hn)
  clear hr hv hn
  go_enter Try.func25, Try.ntmps25
  go_wp2_with fail
  refine Q.out.mono ?_
  rintro e w3 ⟨rfl, hg⟩
  have HG := Lib.hid hg
  clear hg
  go_wp2_with fail
  go_ret
  exact ⟨rfl, HG.out⟩
def zeroOp : O := ⟨0, 0, 0, 0, 0, 0, 0, List.replicate 16 0⟩
theorem infoO : (Try.prog.info? 54).map (fun i => (i.zero, i.size, i.bytes)) = some (some (.agg (opA zeroOp).toArray), 23, 84) := by kernel_rfl
theorem flatL_one (l : List OpN) : ∀ u ∈ flatL l, u.oneCell' = true := by
  intro u hu
  unfold flatL at hu
  obtain ⟨x, _, hx⟩ := List.mem_flatMap.1 hu
  exact encO_one x u hx
/-- The call returns operations in new memory. -/
def GivesO (w : World) (l : List OpN) (e : Ending) (w' : World) : Prop := ∃ v, e = .returned v ∧ OwnO w' w.heap.size v l ∧ Below w.heap.size w w'
theorem appO_list {ops : Array Oper} {rest : List Oper} {o : Oper} {a : Act} {Q : Exit → Act → World → Prop} {w : World} (base : Nat) (hgd : o.guard = none) (s x : Operand)
    (ho : o.op = .call { callee := .builtin .append, args := #[s, x], argTypes := #[40, 40] })
    {v : Value} {l m : List OpN} {ad : Addr} {k c : Nat} (hs : a.eval s = v) (hx : a.eval x = .slice (some ad) k c) (h : OwnO w base v l) (hm : RdO w (some ad) k m) (h0 : 0 < k)
    (hb : l.length + k ≤ 1000000) (hbase : base ≤ w.heap.size)
    (hk : ∀ v' w', OwnO w' base v' (l ++ m) → w.grownBy w' v.ownBlock → wpList Try.prog ops Q rest (a.put o.dst v') w') : wpList Try.prog ops Q (o :: rest) a w := by
  refine wpList_plain hgd fun _ hK => ?_
  obtain ⟨i0, hi0, hz0, hz1, hz2⟩ := info_parts infoO
  obtain ⟨ad', e, hc⟩ := hm.cell h0
  injection e with e
  subst e
  obtain ⟨v', w', hrun, h2, h3, _, _⟩ := run_append_own_at (P := Try.prog) w base 40 o.type 54 i0 _ 23 84 Try.underlying40 hi0 hz0 hz1 hz2 (by show (opA zeroOp).toArray.size = 23; rw [List.size_toArray]; exact opA_length okZero) (by decide) v l.length (flatL l) h.row ad k c (flatL m)
      (by rw [flatL_length, hm.len]) hc (flatL_one m) (by unfold maxLen; omega) (by omega) hbase
  have h6 : OwnO w' base v' (l ++ m) := ⟨by
    rw [List.length_append, hm.len, show flatL (l ++ m) = flatL l ++ flatL m by simp [flatL]]
    exact h2⟩
  unfold Oper.wp execOp
  simp only [ho, resolve, invoke, builtin, Sem.run_bind, Sem.run_pure, Result.andThen_ok, List.map_toArray, List.map_cons, List.map_nil, hs, hx, hrun]
  exact hK _ _ (hk v' w' h6 h3)
set_option maxHeartbeats 1000000 in
theorem cloneO_any (l : List OpN) (n cap : Nat) (ad : Addr) (w : World) (hr : RdO w (some ad) n l) (h0 : 0 < n) (hn : n ≤ 1000) :
    Calls Try.prog 26 #[.slice (some ad) n cap] w (GivesO w l) := by
  have hb0 : Below w.heap.size w (w.alloc (.cells #[] 54)) := (Below.refl _ _).alloc (Nat.le_refl _) _
  have HB0 := Lib.hid hb0
  have HR := Lib.hid (hr.below hb0)
  have hnil := fun W : World => Lib.run_eql_slice_nil (P := Try.prog) W 40 54 (some ad) n cap 0 0 Try.underlying40
  have hown : OwnO (w.alloc (.cells #[] 54)) w.heap.size (.slice (some ⟨w.heap.size, 0, none⟩) 0 0) [] := ⟨World.ownsRow_lit w #[] 0 (Nat.le_refl _) (by decide) rfl⟩
  have HOWN := Lib.hid hown
  clear hr hb0 hown
  go_enter Try.func26, Try.ntmps26
  go_wp2_with (at_builtin; refine appO_list w.heap.size rfl (.tmp 5) (.tmp 6) rfl rfl rfl HOWN.out HR.out h0 (by simp; omega) HB0.out.size ?_; intro v2 w2 ho2 hg2; rw [List.nil_append] at ho2; have HB2 := Lib.hid (HB0.out.grown hg2 HB0.out.size (fun k hk => (HOWN.out.row.lt k hk).1)); have HO2 := Lib.hid ho2; clear ho2 hg2)
  go_ret
  exact ⟨v2, rfl, HO2.out, HB2.out⟩
end Go.Proofs.Ytkhjmegjnglkgaa.Vc
