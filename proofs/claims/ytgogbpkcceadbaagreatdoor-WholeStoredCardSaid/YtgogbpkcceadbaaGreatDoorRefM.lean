/-
  The reference's Below and Right of vectors, kind and Right of operations.
  The reference's kind, Right and Ready of operations.
  The reference's Right and Ready of operations.
-/
import Derived.Test.YtgogbpkcceadbaaGreatDoorFoldB
import Derived.Test.YtgogbpkcceadbaaGreatDoorHasM
namespace Go.Proofs.YtgogbpkcceadbaaGreatDoor.Vc
open Go.RowKit Go.Proofs.YtgogbpkcceadbaaGreatDoor.Wd
set_option linter.unusedVariables false

set_option maxHeartbeats 1000000 in
set_option maxRecDepth 100000 in
theorem belowR_any (a b : List Nat) (ha : IsVec a) (hb : IsVec b) (w : World) :
    Calls Tryz.prog 16 #[.agg (vecA a), .agg (vecA b)] w fun e w' => (∃ c : Bool, e = .returned (.bool c)) ∧ Gr w w' := by
  have h1 : VecAt ((w.alloc (.cells (vecA a) 32)).alloc (.cells (vecA b) 32)) w.heap.size a := (VecAt.new w ha).below ((Below.refl _ _).alloc (Nat.le_refl _) _)
  have h2 : VecAt ((w.alloc (.cells (vecA a) 32)).alloc (.cells (vecA b) 32)) (w.heap.size + 1) b := by simpa using VecAt.new (w.alloc (.cells (vecA a) 32)) hb
  have H0 := Lib.hid (((Gr.refl w).alloc (.cells (vecA a) 32)).alloc (.cells (vecA b) 32))
  have H1 := Lib.hid h1
  have H2 := Lib.hid h2
  clear h1 h2 ha hb
  go_enter Tryz.func16, Tryz.ntmps16
  go_wp2_with fail
  generalize (w.alloc (.cells (vecA a) 32)).alloc (.cells (vecA b) 32) = w2 at *
  go_loopw [5] (fun i wr => ∃ k : Nat, k ≤ 16 ∧ i = .int .i64 (k : Int) ∧ Hid (Gr w2 wr)) (fun i _ => 16 - (intOf i).toNat)
  case atStart => exact ⟨0, Nat.zero_le _, rfl, Gr.refl _⟩
  case round =>
    obtain ⟨k, hk, rfl, HW⟩ := hrel
    by_cases hlt : k < 16
    · have c1 := (H1.out.below HW.out.below).cell hlt
      have c2 := (H2.out.below HW.out.below).cell hlt
      generalize a.getD k 0 = x at *
      generalize b.getD k 0 = y at *
      have i0 : (0 : Int) ≤ (k : Int) := by omega
      have i1 : (k : Int) < 16 := by omega
      by_cases hxy : y < x
      · have d1 : decide ((y : Int) < (x : Int)) = true := decide_eq_true (by omega)
        go_wp2_with fail
        go_quiet (fail)
        go_wp2_with fail
        go_ret
        exact ⟨⟨false, rfl⟩, H0.out.trans (HW.out.drewN nq)⟩
      · have d1 : decide ((y : Int) < (x : Int)) = false := decide_eq_false (by omega)
        go_wp2_with fail
        go_quiet (fail)
        go_wp2_with fail
        go_roundw
        case rel => exact ⟨k + 1, by omega, by go_num, HW.out.drewN nq⟩
        case measure => simp [intOf]; omega
    · go_wp2_with fail
      go_ret
      exact ⟨⟨true, rfl⟩, H0.out.trans HW.out⟩
set_option maxHeartbeats 1000000 in
set_option maxRecDepth 100000 in
theorem right04_any (a : List Nat) (ha : IsVec a) (w : World) :
    Calls Tryz.prog 60 #[.agg (vecA a), .int .i64 16] w fun e w' => (∃ c : Bool, e = .returned (.bool c) ∧ (c = true → ∀ x ∈ a, x ≤ 1048576)) ∧ Gr w w' := by
  have H1 := Lib.hid (VecAt.new w ha)
  have H0 := Lib.hid ((Gr.refl w).alloc (.cells (vecA a) 32))
  have HA := Lib.hid ha
  clear ha
  go_enter Tryz.func60, Tryz.ntmps60
  go_wp2_with fail
  generalize w.alloc (.cells (vecA a) 32) = w2 at *
  go_loopw [5] (fun i wr => ∃ k : Nat, k ≤ 16 ∧ i = .int .i64 (k : Int) ∧ Hid (Gr w2 wr) ∧ Hid (∀ j, j < k → a.getD j 0 ≤ 1048576)) (fun i _ => 16 - (intOf i).toNat)
  case atStart => exact ⟨0, Nat.zero_le _, rfl, Gr.refl _, fun j hj => absurd hj (Nat.not_lt_zero _)⟩
  case round =>
    obtain ⟨k, hk, rfl, HW, HS⟩ := hrel
    by_cases hlt : k < 16
    · have c1 := (H1.out.below HW.out.below).cell hlt
      obtain ⟨x, hx⟩ : ∃ x, x = a.getD k 0 := ⟨_, rfl⟩
      rw [← hx] at c1
      have HX := Lib.hid hx
      clear hx
      have i0 : (0 : Int) ≤ (k : Int) := by omega
      have i1 : (k : Int) < 16 := by omega
      by_cases hxy : x ≤ 1048576
      · have n1 : ¬ ((x : Int) > 1048576) := by omega
        have n2 : ¬ ((k : Int) ≥ 16) := by omega
        go_wp2_with fail
        go_roundw
        case rel => exact ⟨k + 1, by omega, by go_num, HW.out, fun j hj => by
          by_cases e : j = k
          · rw [e, ← HX.out]; exact hxy
          · exact HS.out j (by omega)⟩
        case measure => simp [intOf]; omega
      · have n1 : ((x : Int) > 1048576) := by omega
        go_wp2_with fail
        go_ret
        exact ⟨⟨false, rfl, fun h => by cases h⟩, H0.out.trans HW.out⟩
    · have hall : ∀ x ∈ a, x ≤ 1048576 := fun x hx => by
        obtain ⟨j, hj, he⟩ := List.getElem_of_mem hx
        have := HS.out j (by have := HA.out.len; omega)
        rw [List.getD_eq_getElem?_getD, List.getElem?_eq_getElem hj, he] at this
        exact this
      have HALL := Lib.hid hall
      clear hall
      go_wp2_with fail
      go_ret
      exact ⟨⟨true, rfl, fun _ => HALL.out⟩, H0.out.trans HW.out⟩
end Go.Proofs.YtgogbpkcceadbaaGreatDoor.Vc
namespace Go.Proofs.YtgogbpkcceadbaaGreatDoor.Vc
open Go.RowKit Go.Proofs.YtgogbpkcceadbaaGreatDoor.Wd
set_option linter.unusedVariables false
attribute [local go_sem ↓] ldKx stKx

/-- The call returns a bool; where that is true, something holds. -/
structure GivesB (p : Prop) (e : Ending) : Prop where
  ex : ∃ c : Bool, e = .returned (.bool c) ∧ (c = true → p)
instance (o : O) : Decidable (Shp o) := by unfold Shp; infer_instance
set_option maxHeartbeats 2000000 in
set_option maxRecDepth 100000 in
theorem kindR_any (o : O) (ho : OkO o) (w : World) :
    Calls Tryz.prog 61 #[.agg (opA o).toArray] w fun e w' => e = .returned (.bool (decide (Shp o))) ∧ Gr w w' := by
  have h1 := OpAt.new w ho
  have H0 := Lib.hid ((Gr.refl w).alloc (.cells (opA o).toArray 34))
  have lk := h1.l2
  have li := h1.l4
  have lq := h1.l5
  clear h1 ho
  obtain ⟨q, hq⟩ : ∃ q, q = o.qty := ⟨_, rfl⟩
  obtain ⟨i, hi⟩ : ∃ i, i = o.item := ⟨_, rfl⟩
  obtain ⟨p, hp⟩ : ∃ p, p = o.kind := ⟨_, rfl⟩
  rw [← hq] at lq
  rw [← hi] at li
  rw [← hp] at lk
  by_cases k1 : p = 1
  · subst k1
    by_cases hq1 : 1 ≤ q
    · have HKD := Lib.hid (show decide (Shp o) = true from decide_eq_true (by unfold Shp; omega))
      have n1 : (q : Int) ≥ 1 := by omega
      clear hq hi hp li
      go_enter Tryz.func61, Tryz.ntmps61
      go_wp2_with fail
      go_ret
      exact ⟨by rw [HKD.out]; first | rfl | (refine congrArg Ending.returned (congrArg Value.bool ?_); first | rfl | (simp; omega) | (exact decide_eq_true (by omega)) | (exact decide_eq_false (by omega))), H0.out⟩
    · have HKD := Lib.hid (show decide (Shp o) = false from decide_eq_false (by unfold Shp; omega))
      have n1 : ¬ (q : Int) ≥ 1 := by omega
      have d1 : decide ((q : Int) ≥ 1) = false := decide_eq_false n1
      clear hq hi hp li
      go_enter Tryz.func61, Tryz.ntmps61
      go_wp2_with fail
      go_ret
      exact ⟨by rw [HKD.out]; first | rfl | (refine congrArg Ending.returned (congrArg Value.bool ?_); first | rfl | (simp; omega) | (exact decide_eq_true (by omega)) | (exact decide_eq_false (by omega))), H0.out⟩
  · by_cases k2 : p = 2
    · subst k2
      have HKD := Lib.hid (show decide (Shp o) = true from decide_eq_true (by unfold Shp; omega))
      clear hq hi hp li lq k1
      go_enter Tryz.func61, Tryz.ntmps61
      go_wp2_with fail
      go_ret
      exact ⟨by rw [HKD.out]; first | rfl | (refine congrArg Ending.returned (congrArg Value.bool ?_); first | rfl | (simp; omega) | (exact decide_eq_true (by omega)) | (exact decide_eq_false (by omega))), H0.out⟩
    · by_cases k3 : p = 3
      · subst k3
        by_cases hq0 : q = 0
        · subst hq0
          have HKD := Lib.hid (show decide (Shp o) = true from decide_eq_true (by unfold Shp; omega))
          clear hq hi hp li k1 k2
          go_enter Tryz.func61, Tryz.ntmps61
          go_wp2_with fail
          go_ret
          exact ⟨by rw [HKD.out]; first | rfl | (refine congrArg Ending.returned (congrArg Value.bool ?_); first | rfl | (simp; omega) | (exact decide_eq_true (by omega)) | (exact decide_eq_false (by omega))), H0.out⟩
        · have HKD := Lib.hid (show decide (Shp o) = false from decide_eq_false (by unfold Shp; omega))
          have n1 : ¬ (q : Int) = 0 := by omega
          clear hq hi hp li k1 k2 hq0
          go_enter Tryz.func61, Tryz.ntmps61
          go_wp2_with fail
          go_ret
          exact ⟨by rw [HKD.out]; first | rfl | (refine congrArg Ending.returned (congrArg Value.bool ?_); first | rfl | (simp; omega) | (exact decide_eq_true (by omega)) | (exact decide_eq_false (by omega))), H0.out⟩
      · by_cases k4 : p = 4
        · subst k4
          by_cases hi0 : i = 0
          · subst hi0
            by_cases hq0 : q = 0
            · subst hq0
              have HKD := Lib.hid (show decide (Shp o) = true from decide_eq_true (by unfold Shp; omega))
              clear hq hi hp k1 k2 k3
              go_enter Tryz.func61, Tryz.ntmps61
              go_wp2_with fail
              go_ret
              exact ⟨by rw [HKD.out]; first | rfl | (refine congrArg Ending.returned (congrArg Value.bool ?_); first | rfl | (simp; omega) | (exact decide_eq_true (by omega)) | (exact decide_eq_false (by omega))), H0.out⟩
            · have HKD := Lib.hid (show decide (Shp o) = false from decide_eq_false (by unfold Shp; omega))
              have n1 : ¬ (q : Int) = 0 := by omega
              clear hq hi hp hq0 k1 k2 k3
              go_enter Tryz.func61, Tryz.ntmps61
              go_wp2_with fail
              go_ret
              exact ⟨by rw [HKD.out]; first | rfl | (refine congrArg Ending.returned (congrArg Value.bool ?_); first | rfl | (simp; omega) | (exact decide_eq_true (by omega)) | (exact decide_eq_false (by omega))), H0.out⟩
          · have HKD := Lib.hid (show decide (Shp o) = false from decide_eq_false (by unfold Shp; omega))
            have n1 : ¬ (i : Int) = 0 := by omega
            clear hq hi hp hi0 k1 k2 k3
            go_enter Tryz.func61, Tryz.ntmps61
            go_wp2_with fail
            go_ret
            exact ⟨by rw [HKD.out]; first | rfl | (refine congrArg Ending.returned (congrArg Value.bool ?_); first | rfl | (simp; omega) | (exact decide_eq_true (by omega)) | (exact decide_eq_false (by omega))), H0.out⟩
        · by_cases k5 : p = 5
          · subst k5
            by_cases hi0 : i = 0
            · subst hi0
              by_cases hq0 : q = 0
              · subst hq0
                have HKD := Lib.hid (show decide (Shp o) = true from decide_eq_true (by unfold Shp; omega))
                clear hq hi hp k1 k2 k3 k4
                go_enter Tryz.func61, Tryz.ntmps61
                go_wp2_with fail
                go_ret
                exact ⟨by rw [HKD.out]; first | rfl | (refine congrArg Ending.returned (congrArg Value.bool ?_); first | rfl | (simp; omega) | (exact decide_eq_true (by omega)) | (exact decide_eq_false (by omega))), H0.out⟩
              · have HKD := Lib.hid (show decide (Shp o) = false from decide_eq_false (by unfold Shp; omega))
                have n1 : ¬ (q : Int) = 0 := by omega
                clear hq hi hp hq0 k1 k2 k3 k4
                go_enter Tryz.func61, Tryz.ntmps61
                go_wp2_with fail
                go_ret
                exact ⟨by rw [HKD.out]; first | rfl | (refine congrArg Ending.returned (congrArg Value.bool ?_); first | rfl | (simp; omega) | (exact decide_eq_true (by omega)) | (exact decide_eq_false (by omega))), H0.out⟩
            · have HKD := Lib.hid (show decide (Shp o) = false from decide_eq_false (by unfold Shp; omega))
              have n1 : ¬ (i : Int) = 0 := by omega
              clear hq hi hp hi0 k1 k2 k3 k4
              go_enter Tryz.func61, Tryz.ntmps61
              go_wp2_with fail
              go_ret
              exact ⟨by rw [HKD.out]; first | rfl | (refine congrArg Ending.returned (congrArg Value.bool ?_); first | rfl | (simp; omega) | (exact decide_eq_true (by omega)) | (exact decide_eq_false (by omega))), H0.out⟩
          · have HKD := Lib.hid (show decide (Shp o) = false from decide_eq_false (by unfold Shp; omega))
            have n1 : ¬ (p : Int) = 1 := by omega
            have n2 : ¬ (p : Int) = 2 := by omega
            have n3 : ¬ (p : Int) = 3 := by omega
            have n4 : ¬ (p : Int) = 4 := by omega
            have n5 : ¬ (p : Int) = 5 := by omega
            clear hq hi hp k1 k2 k3 k4 k5 li lq
            go_enter Tryz.func61, Tryz.ntmps61
            go_wp2_with fail
            go_ret
            exact ⟨by rw [HKD.out]; first | rfl | (refine congrArg Ending.returned (congrArg Value.bool ?_); first | rfl | (simp; omega) | (exact decide_eq_true (by omega)) | (exact decide_eq_false (by omega))), H0.out⟩
end Go.Proofs.YtgogbpkcceadbaaGreatDoor.Vc
namespace Go.Proofs.YtgogbpkcceadbaaGreatDoor.Vc
open Go.RowKit Go.Proofs.YtgogbpkcceadbaaGreatDoor.Wd
set_option linter.unusedVariables false
attribute [local go_sem ↓] ldKx stKx

set_option maxHeartbeats 4000000 in
set_option maxRecDepth 100000 in
theorem right06_any (o : O) (ho : OkO o) (w : World) :
    Calls Tryz.prog 35 #[.agg (opA o).toArray, .int .i64 16] w fun e w' => GivesB (RightO o) e ∧ Gr w w' := by
  have h1 := OpAt.new w ho
  have H1 := Lib.hid h1
  have H0 := Lib.hid ((Gr.refl w).alloc (.cells (opA o).toArray 34))
  have l0 := h1.l0
  have ld := h1.loadDot
  have HO := Lib.hid ho
  have QD := Lib.hid (dotR_any o.rep o.seq ho.rep ho.seq)
  have QR := Lib.hid (right04_any o.ctx ho.ctx)
  have QK := Lib.hid (kindR_any o ho)
  clear h1 ho
  by_cases hr16 : o.rep < 16
  · have n1 : ¬ (((o.rep : Nat) : Int) ≥ 16) := by omega
    have HR16 := Lib.hid hr16
    clear hr16
    go_enter Tryz.func35, Tryz.ntmps35
    go_wp2_with fail
    generalize w.alloc (.cells (opA o).toArray 34) = w2 at *
    refine (QD.out _).mono ?_
    rintro e w3 ⟨rfl, hg3⟩
    have HG3 := Lib.hid (H0.out.trans hg3)
    have H3 := Lib.hid (H1.out.below hg3.below)
    clear hg3 H0 H1 l0 ld QD n1
    cases hd : dotB o.rep o.seq with
    | false =>
      clear hd
      go_wp2_with fail
      go_ret
      exact ⟨⟨⟨false, rfl, fun h => by cases h⟩⟩, HG3.out⟩
    | true =>
      have lc := H3.out.loadCtx
      have HD := Lib.hid hd
      clear hd
      go_wp2_with fail
      refine (QR.out _).mono ?_
      rintro e w4 ⟨⟨c, rfl, hc⟩, hg4⟩
      have HG4 := Lib.hid (HG3.out.trans hg4)
      have H4 := Lib.hid (H3.out.below hg4.below)
      clear hg4 HG3 H3 lc QR
      cases c with
      | false =>
        clear hc
        go_wp2_with fail
        go_ret
        exact ⟨⟨⟨false, rfl, fun h => by cases h⟩⟩, HG4.out⟩
      | true =>
        have HSM := Lib.hid (hc rfl)
        have hdd := HD.out
        unfold dotB at hdd
        rw [decide_eq_true_eq] at hdd
        obtain ⟨_, hs1, hs2⟩ := hdd
        have HS1 := Lib.hid hs1
        have HS2 := Lib.hid hs2
        obtain ⟨x, hx⟩ : ∃ x, x = o.ctx.getD o.rep 0 := ⟨_, rfl⟩
        obtain ⟨y, hy⟩ : ∃ y, y = o.seq - 1 := ⟨_, rfl⟩
        have hw : IntKind.u32.wrap (((o.seq : Nat) : Int) - 1) = (y : Int) := by rw [IntKind.wrap_u32]; omega
        have i0 : (0 : Int) ≤ ((o.rep : Nat) : Int) := by omega
        have i1 : ((o.rep : Nat) : Int) < 16 := by have := HR16.out; omega
        have g0 := fun n os => (H4.out.below (gr_grow w4 n os).below).l0
        have g1 := fun n os => (H4.out.below (gr_grow w4 n os).below).l1
        have g6 := fun n os => (H4.out.below (gr_grow w4 n os).below).l6
        have gl := fun n os => (H4.out.below (gr_grow w4 n os).below).loads
        have gx : ∀ n os, (ldK 28 ⟨w.heap.size, 7 + o.rep, none⟩).run Tryz.prog (Sort.grow (w4.drewN n) os) = .ok (.int .u32 (x : Int)) (Sort.grow (w4.drewN n) os) := fun n os => load_u32 (by
          rw [(H4.out.below (gr_grow w4 n os).below).cell]
          unfold opA
          rw [List.getElem?_append_right (by show 7 ≤ 7 + o.rep; omega)]
          show (List.map _ o.ctx)[7 + o.rep - 7]? = _
          rw [show 7 + o.rep - (7 : Nat) = o.rep by omega, List.getElem?_map, List.getElem?_eq_getElem (by rw [HO.out.ctx.len]; exact HR16.out), hx, List.getD_eq_getElem?_getD, List.getElem?_eq_getElem (by rw [HO.out.ctx.len]; exact HR16.out)]
          rfl)
        have HX := Lib.hid hx
        have HY := Lib.hid hy
        have hmix := mix
        clear hc hs1 hs2 hx hy H4
        by_cases hxy : x = y
        · subst hxy
          by_cases ht : o.tick ≤ 1073741824
          · have HT := Lib.hid ht
            have d2 : decide (((o.tick : Nat) : Int) ≤ 1073741824) = true := decide_eq_true (by omega)
            clear ht
            go_wp2_with fail
            go_quiet_grown (first | (go_at_call 61; exact grown_gr (QK.out _)))
            all_goals
              have HGF := Lib.hid (HG4.out.trans (gr_grow w4 nq osq))
              go_wp2
              go_ret
              exact ⟨⟨⟨decide (Shp o), rfl, fun h => ⟨HSM.out, HR16.out, HT.out, of_decide_eq_true h, HS1.out, HS2.out, by rw [← HX.out, HY.out]⟩⟩⟩, HGF.out⟩
          · have d2 : decide (((o.tick : Nat) : Int) ≤ 1073741824) = false := decide_eq_false (by omega)
            have n2 : ¬ (((o.tick : Nat) : Int) ≤ 1073741824) := by omega
            clear ht
            go_wp2_with fail
            go_quiet_grown (first | (go_at_call 61; exact grown_gr (QK.out _)))
            all_goals
              have HGF := Lib.hid (HG4.out.trans (gr_grow w4 nq osq))
              go_wp2
              go_ret
              exact ⟨⟨⟨false, rfl, fun h => by cases h⟩⟩, HGF.out⟩
        · have d1 : decide ((x : Int) = (y : Int)) = false := decide_eq_false (by omega)
          have n1 : ¬ ((x : Int) = (y : Int)) := by omega
          clear hxy
          go_wp2_with fail
          go_quiet_grown (first | (go_at_call 61; exact grown_gr (QK.out _)))
          all_goals
            have HGF := Lib.hid (HG4.out.trans (gr_grow w4 nq osq))
            go_wp2
            go_ret
            exact ⟨⟨⟨false, rfl, fun h => by cases h⟩⟩, HGF.out⟩
  · have n1 : (((o.rep : Nat) : Int) ≥ 16) := by omega
    clear hr16
    have hub : o.rep ≤ 255 := HO.out.rep
    go_enter Tryz.func35, Tryz.ntmps35
    go_wp2_with fail
    go_ret
    exact ⟨⟨⟨false, rfl, fun h => by cases h⟩⟩, H0.out⟩
/-- The call returns a number; where that is nought, something holds. -/
structure GivesN (p : Prop) (e : Ending) : Prop where
  ex : ∃ c : Nat, c ≤ 9 ∧ e = .returned (.int .i64 (c : Int)) ∧ (c = 0 → p)
set_option maxHeartbeats 4000000 in
set_option maxRecDepth 100000 in
theorem readyR_any (v : List Nat) (o : O) (hv : IsVec v) (ho : OkO o) (w : World) :
    Calls Tryz.prog 14 #[.agg (vecA v), .agg (opA o).toArray] w fun e w' => GivesN (RightO o) e ∧ Gr w w' := by
  have h1 : VecAt ((w.alloc (.cells (vecA v) 32)).alloc (.cells (opA o).toArray 34)) w.heap.size v := (VecAt.new w hv).below ((Below.refl _ _).alloc (Nat.le_refl _) _)
  have h2 : OpAt ((w.alloc (.cells (vecA v) 32)).alloc (.cells (opA o).toArray 34)) (w.heap.size + 1) o := by simpa using OpAt.new (w.alloc (.cells (vecA v) 32)) ho
  have H0 := Lib.hid (((Gr.refl w).alloc (.cells (vecA v) 32)).alloc (.cells (opA o).toArray 34))
  have H1 := Lib.hid h1
  have H2 := Lib.hid h2
  have lo := h2.loads
  have QR := Lib.hid (right06_any o ho)
  have QH := Lib.hid (hasR_any v o.rep o.seq hv ho.rep ho.seq)
  have QB := Lib.hid (belowR_any o.ctx v ho.ctx hv)
  clear h1 h2
  go_enter Tryz.func14, Tryz.ntmps14
  go_wp2_with fail
  generalize (w.alloc (.cells (vecA v) 32)).alloc (.cells (opA o).toArray 34) = w2 at *
  refine (QR.out _).mono ?_
  rintro e w3 ⟨hgb, hg3⟩
  obtain ⟨c, rfl, hc⟩ := hgb.ex
  have HG3 := Lib.hid (H0.out.trans hg3)
  have H3 := Lib.hid (H1.out.below hg3.below)
  have h4 := H2.out.below hg3.below
  have lv := H3.out.load
  have ld := h4.loadDot
  have H4 := Lib.hid h4
  clear hgb hg3 H0 H1 H2 lo QR h4
  cases c with
  | false =>
    clear hc
    go_wp2_with fail
    go_ret
    exact ⟨⟨⟨2, by decide, rfl, fun h => by cases h⟩⟩, HG3.out⟩
  | true =>
    have HRT := Lib.hid (hc rfl)
    clear hc
    go_wp2_with fail
    refine (QH.out _).mono ?_
    rintro e w5 ⟨rfl, hg5⟩
    have HG5 := Lib.hid (HG3.out.trans hg5)
    have lv5 := (H3.out.below hg5.below).load
    have lc5 := (H4.out.below hg5.below).loadCtx
    clear hg5 HG3 H3 H4 lv ld QH
    cases hb : hasB v o.rep o.seq with
    | true =>
      clear hb
      go_wp2_with fail
      go_ret
      exact ⟨⟨⟨8, by decide, rfl, fun h => by cases h⟩⟩, HG5.out⟩
    | false =>
      clear hb
      go_wp2_with fail
      refine (QB.out _).mono ?_
      rintro e w6 ⟨⟨c, rfl⟩, hg6⟩
      have HG6 := Lib.hid (HG5.out.trans hg6)
      clear hg6 HG5 lv5 lc5 QB
      cases c with
      | false =>
        go_wp2_with fail
        go_ret
        exact ⟨⟨⟨9, by decide, rfl, fun h => by cases h⟩⟩, HG6.out⟩
      | true =>
        go_wp2_with fail
        go_ret
        exact ⟨⟨⟨0, by decide, rfl, fun _ => HRT.out⟩⟩, HG6.out⟩
end Go.Proofs.YtgogbpkcceadbaaGreatDoor.Vc
