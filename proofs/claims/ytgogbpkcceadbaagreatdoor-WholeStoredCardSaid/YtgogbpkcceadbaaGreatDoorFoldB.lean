/-
  fold.lays, op.lays, op.Ends.
  fold.live's closure, slices.IndexFunc and slices.ContainsFunc over it, fold.live.
-/
import Derived.Test.YtgogbpkcceadbaaGreatDoorRowsM
import Derived.Test.YtgogbpkcceadbaaGreatDoorHasM
namespace Go.Proofs.YtgogbpkcceadbaaGreatDoor.Vc
open Go.RowKit Go.Proofs.YtgogbpkcceadbaaGreatDoor.Wd
set_option linter.unusedVariables false
attribute [local go_sem ↓] ldKx stKx

def laysB (o : O) : Bool := decide (o.kind = 1 ∨ o.kind = 2 ∨ o.kind = 4)
def endsB (x o : O) : Bool := laysB o && (decide (x.cart = o.cart) && (hasB x.ctx o.rep o.seq && (decide (x.kind = 5) || (decide (x.kind = 3 ∨ x.kind = 2) && (decide (o.kind ≠ 4) && decide (x.item = o.item))))))
theorem OpAt.loadCtx {w : World} {g : Nat} {x : O} (h : OpAt w g x) : (ldK 32 ⟨g, 7, none⟩).run Tryz.prog w = .ok (.agg (vecA x.ctx)) w := by
  have hl : (loadCells ⟨g, 7, none⟩ 16).run Tryz.prog w = .ok (vecA x.ctx) w := by
    have := run_loadCells_list (P := Tryz.prog) w ⟨g, 7, none⟩ (vecA x.ctx).toList (fun j v hv => by
      have hadd : (⟨g, 7, none⟩ : Addr).add j = ⟨g, 7 + j, none⟩ := by unfold Addr.add; split <;> simp_all
      rw [hadd, h.cell, ← hv]
      unfold opA vecA
      rw [List.getElem?_append_right (by simp)]
      simp)
    rw [show (vecA x.ctx).toList.length = 16 by simp [vecA, h.ok.ctx.len]] at this
    simpa using this
  have hagg : (isAgg 32).run Tryz.prog w = .ok true w := by
    unfold isAgg
    rw [Sem.run_bind, run_underlying Tryz.underlying32 w]
    simp
  obtain ⟨i, hi⟩ := info_of_underlying Tryz.underlying32
  have hsz : i.size = 16 := by
    have h2 : (Tryz.prog.info? 32).map (·.size) = some 16 := by kernel_rfl
    rw [hi] at h2
    simpa using h2
  simp [ldK, loadVar, Sem.run_bind, hagg, sizeOf, typeInfo, hi, hsz, hl]
theorem OpAt.l2 {w : World} {g : Nat} {o : O} (h : OpAt w g o) : (ldK 5 ⟨g, 2, none⟩).run Tryz.prog w = .ok (.int .u8 ((o.kind : Nat) : Int)) w := load_u8 (h.cell 2)
theorem OpAt.l3 {w : World} {g : Nat} {o : O} (h : OpAt w g o) : (ldK 23 ⟨g, 3, none⟩).run Tryz.prog w = .ok (.int .u16 ((o.cart : Nat) : Int)) w := load_u16 (h.cell 3)
theorem OpAt.l4 {w : World} {g : Nat} {o : O} (h : OpAt w g o) : (ldK 23 ⟨g, 4, none⟩).run Tryz.prog w = .ok (.int .u16 ((o.item : Nat) : Int)) w := load_u16 (h.cell 4)
theorem OpAt.l5 {w : World} {g : Nat} {o : O} (h : OpAt w g o) : (ldK 23 ⟨g, 5, none⟩).run Tryz.prog w = .ok (.int .u16 ((o.qty : Nat) : Int)) w := load_u16 (h.cell 5)
theorem OpAt.l6 {w : World} {g : Nat} {o : O} (h : OpAt w g o) : (ldK 28 ⟨g, 6, none⟩).run Tryz.prog w = .ok (.int .u32 ((o.tick : Nat) : Int)) w := load_u32 (h.cell 6)
theorem OpAt.l0 {w : World} {g : Nat} {o : O} (h : OpAt w g o) : (ldK 5 ⟨g, 0, none⟩).run Tryz.prog w = .ok (.int .u8 ((o.rep : Nat) : Int)) w := load_u8 (h.cell 0)
theorem OpAt.l1 {w : World} {g : Nat} {o : O} (h : OpAt w g o) : (ldK 28 ⟨g, 1, none⟩).run Tryz.prog w = .ok (.int .u32 ((o.seq : Nat) : Int)) w := load_u32 (h.cell 1)

set_option maxHeartbeats 1000000 in
set_option maxRecDepth 100000 in
theorem lays_fold (o : O) (ho : OkO o) (w : World) :
    Calls Tryz.prog 37 #[.agg (opA o).toArray] w fun e w' => e = .returned (.bool (laysB o)) ∧ Gr w w' := by
  have lk := (OpAt.new w ho).l2
  have H0 := Lib.hid ((Gr.refl w).alloc (.cells (opA o).toArray 34))
  obtain ⟨p, hp⟩ : ∃ p, p = o.kind := ⟨_, rfl⟩
  have hl : laysB o = decide (p = 1 ∨ p = 2 ∨ p = 4) := by rw [hp]; rfl
  rw [← hp] at lk
  rw [hl]
  clear ho hp hl
  go_enter Tryz.func37, Tryz.ntmps37
  go_wp2_with fail
  all_goals
    go_ret
    refine ⟨?_, H0.out⟩
    first
      | exact congrArg Ending.returned (congrArg Value.bool (show true = decide _ from (decide_eq_true (by omega)).symm))
      | exact congrArg Ending.returned (congrArg Value.bool (show ((p : Int) == 1 || (p : Int) == 2 || (p : Int) == 4) = decide _ by rw [Bool.eq_iff_iff]; simp; omega))
set_option maxHeartbeats 1000000 in
set_option maxRecDepth 100000 in
theorem lays_op (o : O) (ho : OkO o) (w : World) :
    Calls Tryz.prog 63 #[.agg (opA o).toArray] w fun e w' => e = .returned (.bool (laysB o)) ∧ Gr w w' := by
  have lk := (OpAt.new w ho).l2
  have H0 := Lib.hid ((Gr.refl w).alloc (.cells (opA o).toArray 34))
  obtain ⟨p, hp⟩ : ∃ p, p = o.kind := ⟨_, rfl⟩
  have hl : laysB o = decide (p = 1 ∨ p = 2 ∨ p = 4) := by rw [hp]; rfl
  rw [← hp] at lk
  rw [hl]
  clear ho hp hl
  go_enter Tryz.func63, Tryz.ntmps63
  go_wp2_with fail
  all_goals
    go_ret
    refine ⟨?_, H0.out⟩
    first
      | exact congrArg Ending.returned (congrArg Value.bool (show true = decide _ from (decide_eq_true (by omega)).symm))
      | exact congrArg Ending.returned (congrArg Value.bool (show ((p : Int) == 1 || (p : Int) == 2 || (p : Int) == 4) = decide _ by rw [Bool.eq_iff_iff]; simp; omega))
set_option maxHeartbeats 2000000 in
set_option maxRecDepth 100000 in
theorem ends_any (x o : O) (hx : OkO x) (ho : OkO o) (w : World) :
    Calls Tryz.prog 40 #[.agg (opA x).toArray, .agg (opA o).toArray] w fun e w' => e = .returned (.bool (endsB x o)) ∧ Gr w w' := by
  have h2 : OpAt ((w.alloc (.cells (opA x).toArray 34)).alloc (.cells (opA o).toArray 34)) (w.heap.size + 1) o := by simpa using OpAt.new (w.alloc (.cells (opA x).toArray 34)) ho
  have h1 : OpAt ((w.alloc (.cells (opA x).toArray 34)).alloc (.cells (opA o).toArray 34)) w.heap.size x := (OpAt.new w hx).below ((Below.refl _ _).alloc (Nat.le_refl _) _)
  have H0 := Lib.hid (((Gr.refl w).alloc (.cells (opA x).toArray 34)).alloc (.cells (opA o).toArray 34))
  have H1 := Lib.hid h1
  have H2 := Lib.hid h2
  have lo := h2.loads
  have QL := Lib.hid (lays_op o ho)
  have QH := Lib.hid (has_any x.ctx o.rep o.seq hx.ctx ho.rep ho.seq)
  clear h1 h2 hx ho
  go_enter Tryz.func40, Tryz.ntmps40
  go_wp2_with fail
  generalize (w.alloc (.cells (opA x).toArray 34)).alloc (.cells (opA o).toArray 34) = w2 at *
  refine (QL.out _).mono ?_
  rintro e w3 ⟨rfl, hg3⟩
  have HG3 := Lib.hid (H0.out.trans hg3)
  have hx3 := H1.out.below hg3.below
  have ho3 := H2.out.below hg3.below
  clear hg3 H0 H1 H2 QL lo
  cases hl : laysB o with
  | false =>
    have he : endsB x o = false := by unfold endsB; rw [hl]; rfl
    have HE := Lib.hid he
    clear he hl hx3 ho3 QH
    go_wp2_with fail
    go_ret
    exact ⟨by rw [HE.out]; rfl, HG3.out⟩
  | true =>
    have a3 := hx3.l3
    have b3 := ho3.l3
    by_cases hc : x.cart = o.cart
    · have hci : ((x.cart : Nat) : Int) = ((o.cart : Nat) : Int) := by rw [hc]
      rw [hci] at a3
      have av := hx3.loadCtx
      have bd := ho3.loadDot
      have HX3 := Lib.hid hx3
      have HO3 := Lib.hid ho3
      have HC := Lib.hid hc
      have HL := Lib.hid hl
      clear hc hci hl hx3 ho3
      go_wp2_with fail
      refine (QH.out _).mono ?_
      rintro e w4 ⟨rfl, hg4⟩
      have HG4 := Lib.hid (HG3.out.trans hg4)
      have hx4 := HX3.out.below hg4.below
      have ho4 := HO3.out.below hg4.below
      clear hg4 HG3 HX3 HO3 a3 b3 av bd QH
      cases hh : hasB x.ctx o.rep o.seq with
      | false =>
        have he : endsB x o = false := by unfold endsB; rw [hh]; simp
        have HE := Lib.hid he
        clear he hh hx4 ho4
        go_wp2_with fail
        go_ret
        exact ⟨by rw [HE.out]; rfl, HG4.out⟩
      | true =>
        have he : endsB x o = (decide (x.kind = 5) || (decide (x.kind = 3 ∨ x.kind = 2) && (decide (o.kind ≠ 4) && decide (x.item = o.item)))) := by unfold endsB; rw [hh, HL.out, decide_eq_true HC.out]; simp
        have ak := hx4.l2
        have ai := hx4.l4
        have bk := ho4.l2
        have bi := ho4.l4
        clear hh hx4 ho4 HL HC
        by_cases k5 : x.kind = 5
        · rw [k5] at ak he
          have he2 : endsB x o = true := by rw [he]; rfl
          have HE := Lib.hid he2
          clear he he2 k5 ai bk bi
          go_wp2_with fail
          go_ret
          exact ⟨by rw [HE.out]; rfl, HG4.out⟩
        · rw [decide_eq_false k5, Bool.false_or] at he
          by_cases k32 : x.kind = 3 ∨ x.kind = 2
          · rw [decide_eq_true k32, Bool.true_and] at he
            by_cases o4 : o.kind = 4
            · rw [o4] at he bk
              have he2 : endsB x o = false := by rw [he]; rfl
              have HE := Lib.hid he2
              clear he he2 o4 ai bi
              rcases k32 with k | k
              · rw [k] at ak
                clear k k5
                go_wp2_with fail
                go_ret
                exact ⟨by rw [HE.out]; rfl, HG4.out⟩
              · rw [k] at ak
                clear k k5
                go_wp2_with fail
                go_ret
                exact ⟨by rw [HE.out]; rfl, HG4.out⟩
            · rw [decide_eq_true o4, Bool.true_and] at he
              obtain ⟨p, hp⟩ : ∃ p, p = o.kind := ⟨_, rfl⟩
              obtain ⟨i, hi⟩ : ∃ i, i = x.item := ⟨_, rfl⟩
              obtain ⟨j, hj⟩ : ∃ j, j = o.item := ⟨_, rfl⟩
              rw [← hp] at bk o4
              rw [← hi] at ai
              rw [← hj] at bi
              rw [← hi, ← hj] at he
              have HE := Lib.hid he
              have n4 : ¬ (p : Int) = 4 := by omega
              have d4 : decide ((p : Int) = 4) = false := decide_eq_false n4
              clear he hp hi hj o4
              rcases k32 with k | k
              · rw [k] at ak
                clear k k5
                go_wp2_with fail
                go_ret
                exact ⟨by rw [HE.out]; first | rfl | exact congrArg Ending.returned (congrArg Value.bool (by rw [decide_eq_decide]; omega)) | (refine congrArg Ending.returned (congrArg Value.bool ?_); rw [Bool.eq_iff_iff]; simp; omega) | trace_state, HG4.out⟩
              · rw [k] at ak
                clear k k5
                go_wp2_with fail
                go_ret
                exact ⟨by rw [HE.out]; first | rfl | exact congrArg Ending.returned (congrArg Value.bool (by rw [decide_eq_decide]; omega)) | (refine congrArg Ending.returned (congrArg Value.bool ?_); rw [Bool.eq_iff_iff]; simp; omega) | trace_state, HG4.out⟩
          · have he2 : endsB x o = false := by rw [he, decide_eq_false k32]; rfl
            have HE := Lib.hid he2
            obtain ⟨p, hp⟩ : ∃ p, p = x.kind := ⟨_, rfl⟩
            rw [← hp] at ak k5 k32
            have n5 : ¬ (p : Int) = 5 := by omega
            have n3 : ¬ (p : Int) = 3 := by omega
            have n2 : ¬ (p : Int) = 2 := by omega
            clear he he2 hp k5 k32 bk bi ai
            go_wp2_with fail
            go_ret
            exact ⟨by rw [HE.out]; rfl, HG4.out⟩
    · have he : endsB x o = false := by unfold endsB; rw [decide_eq_false hc]; simp
      have HE := Lib.hid he
      obtain ⟨p, hp⟩ : ∃ p, p = x.cart := ⟨_, rfl⟩
      obtain ⟨q, hq⟩ : ∃ q, q = o.cart := ⟨_, rfl⟩
      rw [← hp] at a3 hc
      rw [← hq] at b3 hc
      have nc : ¬ (p : Int) = (q : Int) := by omega
      clear he hc hp hq hl hx3 ho3 QH
      go_wp2_with fail
      go_ret
      exact ⟨by rw [HE.out]; rfl, HG3.out⟩
end Go.Proofs.YtgogbpkcceadbaaGreatDoor.Vc
namespace Go.Proofs.YtgogbpkcceadbaaGreatDoor.Vc
open Go.RowKit Go.Proofs.YtgogbpkcceadbaaGreatDoor.Wd
set_option linter.unusedVariables false
attribute [local go_sem ↓] ldKx stKx

def endAny (l : List OpN) (o : O) : Bool := l.any fun x => endsB x.1 o
def liveB (l : List OpN) (o : O) : Bool := laysB o && !endAny l o
set_option maxHeartbeats 1000000 in
set_option maxRecDepth 100000 in
theorem live1_any (x o : O) (hx : OkO x) (g : Nat) (w : World) (ho : OpAt w g o) :
    Calls Tryz.prog 39 #[.agg (opA x).toArray, .pointer (some ⟨g, 0, none⟩)] w fun e w' => e = .returned (.bool (endsB x o)) ∧ Gr w w' := by
  have H0 := Lib.hid ((Gr.refl w).alloc (.cells (opA x).toArray 34))
  have l1 := (OpAt.new w hx).loads
  have l2 := (ho.below H0.out.below).loads
  have Q := Lib.hid (ends_any x o hx ho.ok)
  clear hx ho
  go_enter Tryz.func39, Tryz.ntmps39
  go_wp2_with fail
  refine (Q.out _).mono ?_
  rintro e w3 ⟨rfl, hg3⟩
  have HG3 := Lib.hid (H0.out.trans hg3)
  clear hg3 l1 l2
  go_wp2_with fail
  go_ret
  exact ⟨rfl, HG3.out⟩
set_option maxHeartbeats 1000000 in
set_option maxRecDepth 100000 in
theorem index_any (l : List OpN) (n cap : Nat) (A : Option Addr) (g : Nat) (o : O) (w : World) (hr : RdO w A n l) (ho : OpAt w g o) :
    Calls Tryz.prog 62 #[.slice A n cap, .func (.func 39) #[] #[.pointer (some ⟨g, 0, none⟩)]] w fun e w' => (∃ i : Int, e = .returned (.int .i64 i) ∧ decide (i ≥ 0) = endAny l o) ∧ Gr w w' := by
  have hfit := hr.fits
  have HR := Lib.hid hr
  have HV := Lib.hid ho
  clear hr ho
  go_enter Tryz.func62, Tryz.ntmps62
  go_wp2_with fail
  go_loopw [8] (fun i wr => ∃ k : Nat, k ≤ n ∧ i = .int .i64 (k : Int) ∧ Hid (Gr w wr) ∧ Hid (endAny (l.take k) o = false)) (fun i _ => n - (intOf i).toNat)
  case atStart => exact ⟨0, Nat.zero_le _, rfl, Gr.refl _, rfl⟩
  case round =>
    obtain ⟨k, hk, rfl, HW, HN⟩ := hrel
    by_cases hlt : k < n
    · have hkl : k < l.length := by rw [HR.out.len]; exact hlt
      obtain ⟨x, hx⟩ : ∃ x, l[k]? = some x := ⟨_, List.getElem?_eq_getElem hkl⟩
      have htk : l.take (k + 1) = l.take k ++ [x] := by rw [List.take_add_one, hx]; rfl
      have hmem := List.mem_of_getElem? hx
      obtain ⟨ad, hA, _⟩ := HR.out.cell (by omega)
      subst hA
      have hld := HR.out.load hx _ HW.out.below
      have q := live1_any x.1 o x.2 g _ (HV.out.below HW.out.below)
      have Q := Lib.hid q
      have HTK := Lib.hid htk
      have HMEM := Lib.hid hmem
      have i0 : (0 : Int) ≤ (k : Int) := by omega
      have i1 : (k : Int) < (n : Int) := by omega
      clear hx q htk hmem hkl
      go_wp2_with fail
      refine Q.out.mono ?_
      rintro e w3 ⟨rfl, hg⟩
      have HG := Lib.hid (HW.out.trans hg)
      clear hg hld
      cases hb : endsB x.1 o with
      | false =>
        have HB := Lib.hid hb
        clear hb
        go_wp2_with fail
        go_roundw
        case rel => exact ⟨k + 1, by omega, by go_num, HG.out, by unfold Hid; have h1 := HN.out; unfold endAny at h1 ⊢; rw [HTK.out, List.any_append, h1]; simp [HB.out]⟩
        case measure => simp [intOf]; omega
      | true =>
        have HB := Lib.hid hb
        clear hb
        go_wp2_with fail
        go_ret
        exact ⟨⟨_, rfl, by rw [show endAny l o = true from List.any_eq_true.2 ⟨x, HMEM.out, HB.out⟩]; exact decide_eq_true (by omega)⟩, HG.out⟩
    · have hkn : l.take k = l := List.take_of_length_le (by rw [HR.out.len]; omega)
      have hn := HN.out
      rw [hkn] at hn
      have HN2 := Lib.hid hn
      clear hn hkn
      go_wp2_with fail
      go_ret
      exact ⟨⟨-1, rfl, by rw [HN2.out]; rfl⟩, HW.out⟩
set_option maxHeartbeats 1000000 in
theorem contains_any (l : List OpN) (n cap : Nat) (A : Option Addr) (g : Nat) (o : O) (w : World) (hr : RdO w A n l) (ho : OpAt w g o) :
    Calls Tryz.prog 38 #[.slice A n cap, .func (.func 39) #[] #[.pointer (some ⟨g, 0, none⟩)]] w fun e w' => e = .returned (.bool (endAny l o)) ∧ Gr w w' := by
  have Q := Lib.hid (index_any l n cap A g o w hr ho)
  clear hr ho
  go_enter Tryz.func38, Tryz.ntmps38
  go_wp2_with fail
  refine Q.out.mono ?_
  rintro e w3 ⟨⟨i, rfl, hi⟩, hg⟩
  have HG := Lib.hid hg
  have HI := Lib.hid hi
  clear hg hi
  go_wp2_with fail
  go_ret
  exact ⟨congrArg Ending.returned (congrArg Value.bool HI.out), HG.out⟩
set_option maxHeartbeats 1000000 in
set_option maxRecDepth 100000 in
theorem live_any (l : List OpN) (n cap : Nat) (A : Option Addr) (o : O) (w : World) (hr : RdO w A n l) (ho : OkO o) :
    Calls Tryz.prog 18 #[.slice A n cap, .agg (opA o).toArray] w fun e w' => e = .returned (.bool (liveB l o)) ∧ Gr w w' := by
  have h1 := OpAt.new w ho
  have H0 := Lib.hid ((Gr.refl w).alloc (.cells (opA o).toArray 34))
  have HR := Lib.hid (hr.below H0.out.below)
  have H1 := Lib.hid h1
  have l1 := h1.loads
  have QL := Lib.hid (lays_fold o ho)
  clear hr ho h1
  go_enter Tryz.func18, Tryz.ntmps18
  go_wp2_with fail
  generalize w.alloc (.cells (opA o).toArray 34) = w2 at *
  refine (QL.out _).mono ?_
  rintro e w3 ⟨rfl, hg3⟩
  have HG3 := Lib.hid (H0.out.trans hg3)
  have HC := Lib.hid (contains_any l n cap A w.heap.size o w3 (HR.out.below hg3.below) (H1.out.below hg3.below))
  clear hg3 H0 QL l1 HR H1
  cases hl : laysB o with
  | false =>
    have he : liveB l o = false := by unfold liveB; rw [hl]; rfl
    have HE := Lib.hid he
    clear he hl HC
    go_wp2_with fail
    go_ret
    exact ⟨by rw [HE.out]; rfl, HG3.out⟩
  | true =>
    have he : liveB l o = !endAny l o := by unfold liveB; rw [hl]; rfl
    have HE := Lib.hid he
    clear he hl
    go_wp2_with fail
    refine HC.out.mono ?_
    rintro e w4 ⟨rfl, hg4⟩
    have HG4 := Lib.hid (HG3.out.trans hg4)
    clear hg4 HG3 HC
    go_wp2_with fail
    go_ret
    exact ⟨by rw [HE.out]; rfl, HG4.out⟩
end Go.Proofs.YtgogbpkcceadbaaGreatDoor.Vc
