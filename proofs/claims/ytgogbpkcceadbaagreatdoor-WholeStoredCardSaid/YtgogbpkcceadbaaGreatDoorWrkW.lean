/-
  trugtop.works.
-/
import Derived.Test.YtgogbpkcceadbaaGreatDoorStoW
import Derived.Test.YtgogbpkcceadbaaGreatDoorFoldW
namespace Go.Proofs.YtgogbpkcceadbaaGreatDoor.Sg
open Go.RowKit Go.Proofs.YtgogbpkcceadbaaGreatDoor.Wd Go.Proofs.YtgogbpkcceadbaaGreatDoor.VintP Go.Proofs.YtgogbpkcceadbaaGreatDoor.VintW Go.Proofs.YtgogbpkcceadbaaGreatDoor.Pk Go.Proofs.YtgogbpkcceadbaaGreatDoor.Vc Go.Proofs.YtgogbpkcceadbaaGreatDoor.CrcW Go.Proofs.YtgogbpkcceadbaaGreatDoor.FrameP Go.Proofs.YtgogbpkcceadbaaGreatDoor.FrameW
set_option linter.unusedVariables false
set_option linter.unusedSimpArgs false

theorem okO1 : OkO ⟨0, 1, 1, 3, 4, 2, 0, List.replicate 16 0⟩ := ⟨by decide, by decide, by decide, by decide, by decide, by decide, by decide, zeroVec⟩
def o1 : OpN := ⟨_, okO1⟩
theorem rightO1 : RightO o1.1 := ⟨fun x hx => by rw [(List.mem_replicate.1 hx).2]; exact Nat.zero_le _, by decide, by decide, .inl ⟨rfl, by decide⟩, by decide, by decide, by decide⟩
theorem fold1 : vFold [o1] 3 [o1] = ⟨0, false, .map [(.int .u16 4, .held ⟨2, zeroO, false⟩)]⟩ := by kernel_rfl
theorem view1 : viewV [o1] 3 = (0, false, [(4, 2)]) := by
  unfold viewV linesV
  rw [fold1]
  have hk : keysN (.map [(.int .u16 4, .held ⟨2, zeroO, false⟩)]) = [4] := by
    unfold keysN
    rw [show intKeys (.map [(.int .u16 4, .held (⟨2, zeroO, false⟩ : Ta))]) = [4] from rfl, List.mergeSort_singleton]
    rfl
  simp only [hk, List.map_cons, List.map_nil]
  rfl
theorem ownL_form {w : World} {base : Nat} {v : Value} {l : List (Nat × Nat)} (h : OwnL w base v l) (h0 : 0 < l.length) : ∃ g c, v = .slice (some ⟨g, 0, none⟩) l.length c ∧ ∀ t u, (lnsA l)[t]? = some u → w.cell? ⟨g, t, none⟩ = some u := by
  rcases h.row.2 with ⟨_, h1⟩ | ⟨g, cap, cur, rfl, _⟩
  · omega
  · refine ⟨g, cap, rfl, fun t u hu => ?_⟩
    have := h.row.cells (g := g) rfl t u hu
    have hadd : (⟨g, 0, none⟩ : Addr).add t = ⟨g, t, none⟩ := by unfold Addr.add; split <;> simp_all
    rw [hadd] at this
    exact this
attribute [local go_sem ↓] ldKx stKx
set_option maxHeartbeats 8000000 in
set_option maxRecDepth 100000 in
theorem works_any (w : World) (ht : Tab w) :
    Calls Tryz.prog 4 #[] w fun en w' => en = .returned (.bool true) ∧ Below w.heap.size w w' := by
  have HT := Lib.hid ht
  have hso : (stK 34 ⟨w.heap.size, 0, none⟩ (.agg #[.int .u8 0, .int .u32 1, .int .u8 1, .int .u16 3, .int .u16 4, .int .u16 2, .int .u32 0, .int .u32 0, .int .u32 0, .int .u32 0, .int .u32 0, .int .u32 0, .int .u32 0, .int .u32 0, .int .u32 0, .int .u32 0, .int .u32 0, .int .u32 0, .int .u32 0, .int .u32 0, .int .u32 0, .int .u32 0, .int .u32 0])).run Tryz.prog (w.alloc (.cells #[.int .u8 0, .int .u32 0, .int .u8 0, .int .u16 0, .int .u16 0, .int .u16 0, .int .u32 0, .int .u32 0, .int .u32 0, .int .u32 0, .int .u32 0, .int .u32 0, .int .u32 0, .int .u32 0, .int .u32 0, .int .u32 0, .int .u32 0, .int .u32 0, .int .u32 0, .int .u32 0, .int .u32 0, .int .u32 0, .int .u32 0] 34)) = .ok () (w.alloc (.cells (opA o1.1).toArray 34)) := store_opN w o1.1 okO1
  obtain ⟨w1, hw1⟩ : ∃ w1, w1 = w.alloc (.cells (opA o1.1).toArray 34) := ⟨_, rfl⟩
  rw [← hw1] at hso
  have b1 : Below w.heap.size w w1 := by rw [hw1]; exact (Below.refl _ _).alloc (Nat.le_refl _) _
  have h1 : OpAt w1 w.heap.size o1.1 := by rw [hw1]; exact OpAt.new w okO1
  have lo := h1.loads
  have H1 := Lib.hid h1
  have HB1 := Lib.hid b1
  have QR := Lib.hid (record_any o1.1 okO1 rightO1 w1 (ht.below b1))
  clear ht hw1 b1 h1
  go_enter Tryz.func4, Tryz.ntmps4
  go_wp2_with fail
  refine QR.out.mono ?_
  rintro en w2 ⟨v2, rfl, ho2, hb2⟩
  obtain ⟨A2, c2, hv2, _, hr2⟩ := ho2.rd
  obtain ⟨m2, hm2⟩ : ∃ m2, m2 = (recB o1.1).length := ⟨_, rfl⟩
  have hm2b : m2 ≤ 400 := by rw [hm2]; exact Nat.le_trans (wrap_le (b := enc 2 ++ (enc (encOp o1.1).length ++ encOp o1.1)) (by have := recBody_le o1.1; omega)) (by decide)
  rw [← hm2] at hv2 hr2
  subst hv2
  have HR2 := Lib.hid hr2
  have HM2 := Lib.hid hm2b
  have HB2 := Lib.hid (HB1.out.trans (hb2.mono HB1.out.size))
  have H2 := Lib.hid (H1.out.below hb2)
  have QH := Lib.hid (show Calls Tryz.prog 12 #[.int .u32 1] w2 _ from head_any 1 (by decide) w2 (HT.out.below HB2.out))
  clear ho2 hb2 hr2 hm2 hm2b H1 HB1 QR lo hso
  go_wp2_with fail
  refine QH.out.mono ?_
  rintro en w3 ⟨v3, rfl, ho3, hb3⟩
  have HVB3 := Lib.hid (show OwnB w3 w.heap.size v3 (headB 1) from ⟨own_base ho3.row HB2.out.size, ho3.small⟩)
  have HR3 := Lib.hid (HR2.out.below hb3)
  have HB3 := Lib.hid (HB2.out.trans (hb3.mono HB2.out.size))
  have H3 := Lib.hid (H2.out.below hb3)
  clear ho3 hb3 HR2 HB2 H2 QH
  go_wp2_with (at_builtin; refine app_list w.heap.size rfl (.tmp 15) (.tmp 16) rfl rfl rfl HVB3.out HR3.out (by have h3 := HM2.out; have h4 := wrap_le (b := enc 1 ++ enc 1) (by decide); have h5 : (headB 1).length = (wrap (enc 1 ++ enc 1)).length := rfl; omega) HB3.out.size ?_; intro v8 w8 ho8 hg8 _; have HB8 := Lib.hid (HVB3.out.to_below HB3.out HB3.out.size hg8); have H8 := Lib.hid (H3.out.kept hg8 (fun e => own_ne HVB3.out.row H3.out.row (by decide) e.symm)); have hseg : headB 1 ++ recB o1.1 = segB 1 [o1] false := (by unfold segB recs recs; rw [if_neg (by decide), List.append_nil, List.append_nil]); rw [hseg] at ho8; obtain ⟨A8, c8, hv8, hc8, hr8⟩ := ho8.rd; obtain ⟨m8, hm8⟩ : ∃ m8, m8 = (segB 1 [o1] false).length := ⟨_, rfl⟩; rw [← hm8] at hv8 hc8 hr8; subst hv8; have QS := Lib.hid (scan_any 1 [o1] false (by decide) (by decide) (by decide) (fun o ho => by rw [List.mem_singleton.1 ho]; exact rightO1) m8 c8 A8 w8 hr8 hc8 (HT.out.below HB8.out)); clear ho8 hg8 hseg hc8 hr8 hm8)
  refine QS.out.mono ?_
  rintro en w9 ⟨vo, va, rfl, ho9, hb9, vA, vn, vc, rfl⟩
  have HB9 := Lib.hid (HB8.out.trans (hb9.mono HB8.out.size))
  have H9 := Lib.hid (H8.out.below hb9)
  obtain ⟨og, oc, hvo, _, _, _, hro, _⟩ := ho9.form (by decide)
  rw [show ([o1] : List OpN).length = 1 from rfl] at hvo hro
  subst hvo
  have hst : (stK 47 ⟨w9.heap.size, 0, none⟩ (.agg #[.int .u32 1, .slice (some ⟨og, 0, none⟩) 1 oc, .slice vA vn vc, .bool false, .int .i64 (m8 : Int)])).run Tryz.prog (w9.alloc (.cells #[.int .u32 0, .slice none 0 0, .slice none 0 0, .bool false, .int .i64 0] 47)) = .ok () (w9.alloc (.cells #[.int .u32 1, .slice (some ⟨og, 0, none⟩) 1 oc, .slice vA vn vc, .bool false, .int .i64 (m8 : Int)] 47)) :=
    store_info w9 (.int .u32 1) (.slice (some ⟨og, 0, none⟩) 1 oc) (.slice vA vn vc) (.bool false) (.int .i64 (m8 : Int)) (by simp [Value.oneCell']) #[.int .u32 0, .slice none 0 0, .slice none 0 0, .bool false, .int .i64 0] rfl
  obtain ⟨w10, hw10⟩ : ∃ w10, w10 = w9.alloc (.cells #[.int .u32 1, .slice (some ⟨og, 0, none⟩) 1 oc, .slice vA vn vc, .bool false, .int .i64 (m8 : Int)] 47) := ⟨_, rfl⟩
  rw [← hw10] at hst
  have b10 : Below w9.heap.size w9 w10 := by rw [hw10]; exact (Below.refl _ _).alloc (Nat.le_refl _) _
  have hrow : w10.heap[w9.heap.size]? = some (.cells #[.int .u32 1, .slice (some ⟨og, 0, none⟩) 1 oc, .slice vA vn vc, .bool false, .int .i64 (m8 : Int)] 47 (0, 0)) := by rw [hw10]; exact heap_alloc_new w9 _
  have l1 : (ldK 22 ⟨w9.heap.size, 1, none⟩).run Tryz.prog w10 = .ok (.slice (some ⟨og, 0, none⟩) 1 oc) w10 := load_info_ops (by rw [cell_of_row w10 _ 1 _ _ _ hrow]; rfl)
  have HROW := Lib.hid hrow
  have HB10 := Lib.hid (HB9.out.trans (b10.mono HB9.out.size))
  have H10 := Lib.hid (H9.out.below b10)
  have HRO := Lib.hid (hro.below b10)
  have QV := Lib.hid (show Calls Tryz.prog 8 #[.slice (some ⟨og, 0, none⟩) 1 oc, .int .u16 3] w10 _ from view_any [o1] 1 oc (some ⟨og, 0, none⟩) 3 (by decide) (by decide) w10 (hro.below b10))
  clear ho9 hb9 hro hw10 b10 hrow QS HB8 H8 HB9 H9
  go_wp2_with fail
  refine QV.out.mono ?_
  rintro en w11 ⟨lv, rfl, hol, hb11, _⟩
  rw [view1] at hol
  obtain ⟨lg, lc, hlv, hlc⟩ := ownL_form hol (by decide)
  rw [view1]
  rw [show ([(4, 2)] : List (Nat × Nat)).length = 1 from rfl] at hlv
  subst hlv
  have hsv : (stK 38 ⟨w11.heap.size, 0, none⟩ (.agg #[.int .u16 3, .slice (some ⟨lg, 0, none⟩) 1 lc, .bool false, .int .u32 0])).run Tryz.prog (w11.alloc (.cells #[.int .u16 0, .slice none 0 0, .bool false, .int .u32 0] 38)) = .ok () (w11.alloc (.cells #[.int .u16 3, .slice (some ⟨lg, 0, none⟩) 1 lc, .bool false, .int .u32 0] 38)) :=
    store_view w11 (.int .u16 3) (.slice (some ⟨lg, 0, none⟩) 1 lc) (.bool false) (.int .u32 0) (by simp [Value.oneCell']) #[.int .u16 0, .slice none 0 0, .bool false, .int .u32 0] rfl
  obtain ⟨w12, hw12⟩ : ∃ w12, w12 = w11.alloc (.cells #[.int .u16 3, .slice (some ⟨lg, 0, none⟩) 1 lc, .bool false, .int .u32 0] 38) := ⟨_, rfl⟩
  rw [← hw12] at hsv
  have b12 : Below w11.heap.size w11 w12 := by rw [hw12]; exact (Below.refl _ _).alloc (Nat.le_refl _) _
  have hrowv : w12.heap[w11.heap.size]? = some (.cells #[.int .u16 3, .slice (some ⟨lg, 0, none⟩) 1 lc, .bool false, .int .u32 0] 38 (0, 0)) := by rw [hw12]; exact heap_alloc_new w11 _
  have hbb : Below w10.heap.size w10 w12 := hb11.trans (b12.mono hb11.size)
  have h12 := H10.out.below hbb
  have hro12 := HRO.out.below hbb
  have hri : w12.heap[w9.heap.size]? = _ := (hbb.block _ (Array.getElem?_eq_some_iff.1 HROW.out).1).trans HROW.out
  have hq : w12.cell? ⟨lg, 1, none⟩ = some (.int .u32 2) := by
    have := hlc 1 (.int .u32 2) rfl
    rw [b12.cell (World.block_lt_of_cell? w11 _ this)]
    exact this
  have gi : ∀ W, Below w12.heap.size w12 W → (ldK 22 ⟨w9.heap.size, 1, none⟩).run Tryz.prog W = .ok (.slice (some ⟨og, 0, none⟩) 1 oc) W := fun W hW => load_info_ops (by rw [cell_of_row W _ 1 _ _ _ ((hW.block _ (Array.getElem?_eq_some_iff.1 hri).1).trans hri)]; rfl)
  have gv : ∀ W, Below w12.heap.size w12 W → (ldK 36 ⟨w11.heap.size, 1, none⟩).run Tryz.prog W = .ok (.slice (some ⟨lg, 0, none⟩) 1 lc) W := fun W hW => load_lns (by rw [cell_of_row W _ 1 _ _ _ ((hW.block _ (Array.getElem?_eq_some_iff.1 hrowv).1).trans hrowv)]; rfl)
  have g1 : ∀ W, Below w12.heap.size w12 W → (ldK 34 ⟨w.heap.size, 0, none⟩).run Tryz.prog W = .ok (.agg (opA o1.1).toArray) W := fun W hW => (h12.below hW).loads
  have go2 : ∀ W, Below w12.heap.size w12 W → (ldK 34 ⟨og, 0, none⟩).run Tryz.prog W = .ok (.agg (opA o1.1).toArray) W := fun W hW => by
    have := hro12.load (k := 0) (x := o1) rfl W hW
    rw [Nat.zero_mul, Addr.add_zero'] at this
    exact this
  have gq : ∀ W, Below w12.heap.size w12 W → (ldK 28 ⟨lg, 1, none⟩).run Tryz.prog W = .ok (.int .u32 2) W := fun W hW => load_u32 (by rw [hW.cell (World.block_lt_of_cell? w12 _ hq)]; exact hq)
  have heq := fun W => eqOpL o1.1 o1.1 okO1 okO1 W
  rw [decide_eq_true rfl] at heq
  have HBF := Lib.hid (HB10.out.trans (hbb.mono HB10.out.size))
  clear hol hb11 hlc hw12 b12 hrowv hbb h12 hro12 hri hq QV HB10 H10 HRO HROW l1
  go_wp2_with fail
  have hs0 : Below w12.heap.size w12 w12.drew := drewN_below (Below.refl _ _) 1
  refine wp_region_held_drew (S := fun W => Below w12.heap.size w12 W) (by kernel_rfl) hs0 (fun hHeld => ?_)
  refine held_take (i := 0) (some 24) (.int .i64 0) rfl rfl (by kernel_rfl) (by kernel_rfl) (by kernel_rfl) (fun _ _ _ h => h) (Or.inl ⟨by rfl, by intro w hSw; go_simp⟩) (by assumption) ?_
  try simp only [Act.put, List.setIfInBounds_toArray, List.set_cons_zero, List.set_cons_succ]
  refine held_take (i := 1) (some 25) (.bool true) rfl rfl (by kernel_rfl) (by kernel_rfl) (by kernel_rfl) (fun _ _ _ h => h) (Or.inl ⟨by rfl, by intro w hSw; go_simp⟩) (by assumption) ?_
  try simp only [Act.put, List.setIfInBounds_toArray, List.set_cons_zero, List.set_cons_succ]
  refine held_take (i := 2) (some 26) (.bool true) rfl rfl (by kernel_rfl) (by kernel_rfl) (by kernel_rfl) (fun _ _ _ h => h) (Or.inl ⟨by rfl, by intro w hSw; go_simp⟩) (by assumption) ?_
  try simp only [Act.put, List.setIfInBounds_toArray, List.set_cons_zero, List.set_cons_succ]
  refine held_take (i := 3) (some 27) (.int .i64 0) rfl rfl (by kernel_rfl) (by kernel_rfl) (by kernel_rfl) (fun _ _ _ h => h) (Or.inl ⟨by rfl, by intro w hSw; go_simp⟩) (by assumption) ?_
  try simp only [Act.put, List.setIfInBounds_toArray, List.set_cons_zero, List.set_cons_succ]
  refine held_take (i := 4) (some 28) (.bool true) rfl rfl (by kernel_rfl) (by kernel_rfl) (by kernel_rfl) (fun _ _ _ h => h) (Or.inl ⟨by rfl, by intro w hSw; go_simp⟩) (by assumption) ?_
  try simp only [Act.put, List.setIfInBounds_toArray, List.set_cons_zero, List.set_cons_succ]
  refine held_take (i := 5) (some 29) (.bool true) rfl rfl (by kernel_rfl) (by kernel_rfl) (by kernel_rfl) (fun _ _ _ h => h) (Or.inl ⟨by rfl, by intro w hSw; go_simp⟩) (by assumption) ?_
  try simp only [Act.put, List.setIfInBounds_toArray, List.set_cons_zero, List.set_cons_succ]
  refine held_take (i := 6) (some 30) (.bool true) rfl rfl (by kernel_rfl) (by kernel_rfl) (by kernel_rfl) (fun _ _ _ h => h) (Or.inl ⟨by rfl, by intro w hSw; go_simp⟩) (by assumption) ?_
  try simp only [Act.put, List.setIfInBounds_toArray, List.set_cons_zero, List.set_cons_succ]
  refine held_take (i := 7) (some 31) (.pointer (some ⟨w9.heap.size, 1, none⟩)) rfl rfl (by kernel_rfl) (by kernel_rfl) (by kernel_rfl) (fun _ _ _ h => h) (Or.inl ⟨by rfl, by intro w hSw; go_simp⟩) (by assumption) ?_
  try simp only [Act.put, List.setIfInBounds_toArray, List.set_cons_zero, List.set_cons_succ]
  refine held_take (i := 8) (some 32) (.slice (some ⟨og, 0, none⟩) 1 oc) rfl rfl (by kernel_rfl) (by kernel_rfl) (by kernel_rfl) (fun _ _ _ h => h) (Or.inl ⟨by rfl, by intro w hSw; have l4 := gi w hSw; go_simp⟩) (by assumption) ?_
  try simp only [Act.put, List.setIfInBounds_toArray, List.set_cons_zero, List.set_cons_succ]
  refine held_take (i := 9) (some 33) (.int .i64 1) rfl rfl (by kernel_rfl) (by kernel_rfl) (by kernel_rfl) (fun _ _ _ h => h) (Or.inl ⟨by rfl, by intro w hSw; go_simp⟩) (by assumption) ?_
  try simp only [Act.put, List.setIfInBounds_toArray, List.set_cons_zero, List.set_cons_succ]
  refine held_take (i := 10) (some 34) (.bool true) rfl rfl (by kernel_rfl) (by kernel_rfl) (by kernel_rfl) (fun _ _ _ h => h) (Or.inl ⟨by rfl, by intro w hSw; go_simp⟩) (by assumption) ?_
  try simp only [Act.put, List.setIfInBounds_toArray, List.set_cons_zero, List.set_cons_succ]
  refine held_take (i := 11) (some 35) (.bool true) rfl rfl (by kernel_rfl) (by kernel_rfl) (by kernel_rfl) (fun _ _ _ h => h) (Or.inl ⟨by rfl, by intro w hSw; go_simp⟩) (by assumption) ?_
  try simp only [Act.put, List.setIfInBounds_toArray, List.set_cons_zero, List.set_cons_succ]
  refine held_take (i := 12) (some 36) (.bool true) rfl rfl (by kernel_rfl) (by kernel_rfl) (by kernel_rfl) (fun _ _ _ h => h) (Or.inl ⟨by rfl, by intro w hSw; go_simp⟩) (by assumption) ?_
  try simp only [Act.put, List.setIfInBounds_toArray, List.set_cons_zero, List.set_cons_succ]
  refine held_take (i := 13) (some 37) (.pointer (some ⟨w9.heap.size, 1, none⟩)) rfl rfl (by kernel_rfl) (by kernel_rfl) (by kernel_rfl) (fun _ _ _ h => h) (Or.inl ⟨by rfl, by intro w hSw; go_simp⟩) (by assumption) ?_
  try simp only [Act.put, List.setIfInBounds_toArray, List.set_cons_zero, List.set_cons_succ]
  refine held_take (i := 14) (some 38) (.slice (some ⟨og, 0, none⟩) 1 oc) rfl rfl (by kernel_rfl) (by kernel_rfl) (by kernel_rfl) (fun _ _ _ h => h) (Or.inl ⟨by rfl, by intro w hSw; have l4 := gi w hSw; go_simp⟩) (by assumption) ?_
  try simp only [Act.put, List.setIfInBounds_toArray, List.set_cons_zero, List.set_cons_succ]
  refine held_take (i := 15) (some 39) (.pointer (some ⟨og, 0, none⟩)) rfl rfl (by kernel_rfl) (by kernel_rfl) (by kernel_rfl) (fun _ _ _ h => h) (Or.inl ⟨by rfl, by intro w hSw; go_simp⟩) (by assumption) ?_
  try simp only [Act.put, List.setIfInBounds_toArray, List.set_cons_zero, List.set_cons_succ]
  refine held_take (i := 16) (some 40) (.agg (opA o1.1).toArray) rfl rfl (by kernel_rfl) (by kernel_rfl) (by kernel_rfl) (fun _ _ _ h => h) (Or.inl ⟨by rfl, by intro w hSw; have l4 := go2 w hSw; go_simp⟩) (by assumption) ?_
  try simp only [Act.put, List.setIfInBounds_toArray, List.set_cons_zero, List.set_cons_succ]
  refine held_take (i := 17) (some 41) (.agg (opA o1.1).toArray) rfl rfl (by kernel_rfl) (by kernel_rfl) (by kernel_rfl) (fun _ _ _ h => h) (Or.inl ⟨by rfl, by intro w hSw; have l4 := g1 w hSw; go_simp⟩) (by assumption) ?_
  try simp only [Act.put, List.setIfInBounds_toArray, List.set_cons_zero, List.set_cons_succ]
  refine held_take (i := 18) (some 42) (.bool true) rfl rfl (by kernel_rfl) (by kernel_rfl) (by kernel_rfl) (fun _ _ _ h => h) (Or.inl ⟨by rfl, by intro w hSw; have l4 := heq w; go_simp⟩) (by assumption) ?_
  try simp only [Act.put, List.setIfInBounds_toArray, List.set_cons_zero, List.set_cons_succ]
  refine held_take (i := 19) (some 43) (.bool true) rfl rfl (by kernel_rfl) (by kernel_rfl) (by kernel_rfl) (fun _ _ _ h => h) (Or.inl ⟨by rfl, by intro w hSw; go_simp⟩) (by assumption) ?_
  try simp only [Act.put, List.setIfInBounds_toArray, List.set_cons_zero, List.set_cons_succ]
  refine held_take (i := 20) (some 44) (.bool true) rfl rfl (by kernel_rfl) (by kernel_rfl) (by kernel_rfl) (fun _ _ _ h => h) (Or.inl ⟨by rfl, by intro w hSw; go_simp⟩) (by assumption) ?_
  try simp only [Act.put, List.setIfInBounds_toArray, List.set_cons_zero, List.set_cons_succ]
  refine held_take (i := 21) (some 45) (.pointer (some ⟨w11.heap.size, 1, none⟩)) rfl rfl (by kernel_rfl) (by kernel_rfl) (by kernel_rfl) (fun _ _ _ h => h) (Or.inl ⟨by rfl, by intro w hSw; go_simp⟩) (by assumption) ?_
  try simp only [Act.put, List.setIfInBounds_toArray, List.set_cons_zero, List.set_cons_succ]
  refine held_take (i := 22) (some 46) (.slice (some ⟨lg, 0, none⟩) 1 lc) rfl rfl (by kernel_rfl) (by kernel_rfl) (by kernel_rfl) (fun _ _ _ h => h) (Or.inl ⟨by rfl, by intro w hSw; have l4 := gv w hSw; go_simp⟩) (by assumption) ?_
  try simp only [Act.put, List.setIfInBounds_toArray, List.set_cons_zero, List.set_cons_succ]
  refine held_take (i := 23) (some 47) (.int .i64 1) rfl rfl (by kernel_rfl) (by kernel_rfl) (by kernel_rfl) (fun _ _ _ h => h) (Or.inl ⟨by rfl, by intro w hSw; go_simp⟩) (by assumption) ?_
  try simp only [Act.put, List.setIfInBounds_toArray, List.set_cons_zero, List.set_cons_succ]
  refine held_take (i := 24) (some 48) (.bool true) rfl rfl (by kernel_rfl) (by kernel_rfl) (by kernel_rfl) (fun _ _ _ h => h) (Or.inl ⟨by rfl, by intro w hSw; go_simp⟩) (by assumption) ?_
  try simp only [Act.put, List.setIfInBounds_toArray, List.set_cons_zero, List.set_cons_succ]
  refine held_take (i := 25) (some 49) (.bool true) rfl rfl (by kernel_rfl) (by kernel_rfl) (by kernel_rfl) (fun _ _ _ h => h) (Or.inl ⟨by rfl, by intro w hSw; go_simp⟩) (by assumption) ?_
  try simp only [Act.put, List.setIfInBounds_toArray, List.set_cons_zero, List.set_cons_succ]
  refine held_take (i := 26) (some 50) (.bool true) rfl rfl (by kernel_rfl) (by kernel_rfl) (by kernel_rfl) (fun _ _ _ h => h) (Or.inl ⟨by rfl, by intro w hSw; go_simp⟩) (by assumption) ?_
  try simp only [Act.put, List.setIfInBounds_toArray, List.set_cons_zero, List.set_cons_succ]
  refine held_take (i := 27) (some 51) (.pointer (some ⟨w11.heap.size, 1, none⟩)) rfl rfl (by kernel_rfl) (by kernel_rfl) (by kernel_rfl) (fun _ _ _ h => h) (Or.inl ⟨by rfl, by intro w hSw; go_simp⟩) (by assumption) ?_
  try simp only [Act.put, List.setIfInBounds_toArray, List.set_cons_zero, List.set_cons_succ]
  refine held_take (i := 28) (some 52) (.slice (some ⟨lg, 0, none⟩) 1 lc) rfl rfl (by kernel_rfl) (by kernel_rfl) (by kernel_rfl) (fun _ _ _ h => h) (Or.inl ⟨by rfl, by intro w hSw; have l4 := gv w hSw; go_simp⟩) (by assumption) ?_
  try simp only [Act.put, List.setIfInBounds_toArray, List.set_cons_zero, List.set_cons_succ]
  refine held_take (i := 29) (some 53) (.pointer (some ⟨lg, 0, none⟩)) rfl rfl (by kernel_rfl) (by kernel_rfl) (by kernel_rfl) (fun _ _ _ h => h) (Or.inl ⟨by rfl, by intro w hSw; go_simp⟩) (by assumption) ?_
  try simp only [Act.put, List.setIfInBounds_toArray, List.set_cons_zero, List.set_cons_succ]
  refine held_take (i := 30) (some 54) (.pointer (some ⟨lg, 1, none⟩)) rfl rfl (by kernel_rfl) (by kernel_rfl) (by kernel_rfl) (fun _ _ _ h => h) (Or.inl ⟨by rfl, by intro w hSw; go_simp⟩) (by assumption) ?_
  try simp only [Act.put, List.setIfInBounds_toArray, List.set_cons_zero, List.set_cons_succ]
  refine held_take (i := 31) (some 55) (.int .u32 2) rfl rfl (by kernel_rfl) (by kernel_rfl) (by kernel_rfl) (fun _ _ _ h => h) (Or.inl ⟨by rfl, by intro w hSw; have l4 := gq w hSw; go_simp⟩) (by assumption) ?_
  try simp only [Act.put, List.setIfInBounds_toArray, List.set_cons_zero, List.set_cons_succ]
  refine held_take (i := 32) (some 56) (.bool true) rfl rfl (by kernel_rfl) (by kernel_rfl) (by kernel_rfl) (fun _ _ _ h => h) (Or.inl ⟨by rfl, by intro w hSw; go_simp⟩) (by assumption) ?_
  try simp only [Act.put, List.setIfInBounds_toArray, List.set_cons_zero, List.set_cons_succ]
  refine held_take (i := 33) (some 57) (.bool true) rfl rfl (by kernel_rfl) (by kernel_rfl) (by kernel_rfl) (fun _ _ _ h => h) (Or.inl ⟨by rfl, by intro w hSw; go_simp⟩) (by assumption) ?_
  try simp only [Act.put, List.setIfInBounds_toArray, List.set_cons_zero, List.set_cons_succ]
  refine held_take (i := 34) (some 0) (.bool true) rfl rfl (by kernel_rfl) (by kernel_rfl) (by kernel_rfl) (fun _ _ _ h => h) (Or.inl ⟨by rfl, by intro w hSw; go_simp⟩) (by assumption) ?_
  try simp only [Act.put, List.setIfInBounds_toArray, List.set_cons_zero, List.set_cons_succ]
  refine wpAnyH_done (by kernel_rfl) ?_ _
  have HF := Lib.hid (HBF.out.trans (hs0.mono HBF.out.size))
  clear gi gv g1 go2 gq heq hs0 hHeld hst hsv
  go_wp2_with fail
  go_ret
  exact ⟨rfl, HF.out⟩
end Go.Proofs.YtgogbpkcceadbaaGreatDoor.Sg
