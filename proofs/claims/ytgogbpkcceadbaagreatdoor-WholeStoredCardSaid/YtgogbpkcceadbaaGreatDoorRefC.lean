/-
  The reference's has and count.
-/
import Derived.Test.YtgogbpkcceadbaaGreatDoorRefM
import Derived.Test.YtgogbpkcceadbaaGreatDoorDotK
namespace Go.Proofs.YtgogbpkcceadbaaGreatDoor.Vc
open Go.RowKit Go.Proofs.YtgogbpkcceadbaaGreatDoor.Wd
set_option linter.unusedVariables false

theorem loadDotAt {W : World} {a : Addr} {x y : Value} (h0 : W.cell? a = some x) (h1 : W.cell? (a.add 1) = some y) : (ldK 30 a).run Tryz.prog W = .ok (.agg #[x, y]) W := by
  have e0 : a.add 0 = a := by unfold Addr.add; split <;> simp_all
  have hl : (loadCells a 2).run Tryz.prog W = .ok #[x, y] W := by
    have := run_loadCells_list (P := Tryz.prog) W a [x, y] (fun j v hv => by
      match j with
      | 0 => rw [e0, h0]; simpa using hv
      | 1 => rw [h1]; simpa using hv
      | j + 2 => simp at hv)
    simpa using this
  have hagg : (isAgg 30).run Tryz.prog W = .ok true W := by
    unfold isAgg
    rw [Sem.run_bind, run_underlying Tryz.underlying30 W]
    simp
  obtain ⟨i, hi⟩ := info_of_underlying Tryz.underlying30
  have hsz : i.size = 2 := by
    have h2 : (Tryz.prog.info? 30).map (·.size) = some 2 := by kernel_rfl
    rw [hi] at h2
    simpa using h2
  simp [ldK, loadVar, Sem.run_bind, hagg, sizeOf, typeInfo, hi, hsz, hl]
/-- A cell of an operation in a row. -/
theorem RdO.c {w : World} {ad : Addr} {n : Nat} {l : List OpN} (h : RdO w (some ad) n l) {k : Nat} {x : OpN} (hk : l[k]? = some x) {j : Nat} (hj : j < 23) : w.cell? (ad.add (k * 23 + j)) = (opA x.1)[j]? := by
  have hkl := (List.getElem?_eq_some_iff.1 hk).1
  obtain ⟨ad', e, hc⟩ := h.cell (by rw [← h.len]; omega)
  injection e with e
  subst e
  have hg := flatL_get l k j x hk hj
  rw [hc (k * 23 + j) ((opA x.1)[j]'(by rw [opA_length x.2]; exact hj)) (by rw [hg]; exact List.getElem?_eq_getElem _)]
  exact (List.getElem?_eq_getElem _).symm
theorem RdO.dot {w : World} {ad : Addr} {n : Nat} {l : List OpN} (h : RdO w (some ad) n l) {k : Nat} {x : OpN} (hk : l[k]? = some x) : (ldK 30 (ad.add (k * 23))).run Tryz.prog w = .ok (.agg #[.int .u8 ((x.1.rep : Nat) : Int), .int .u32 ((x.1.seq : Nat) : Int)]) w :=
  loadDotAt (h.c hk (j := 0) (by decide)) (by rw [add_of_add]; exact h.c hk (j := 1) (by decide))
theorem eqDotL (r s r' s' : Nat) (hr : r ≤ 255) (hs : s ≤ 4294967295) (hr' : r' ≤ 255) (hs' : s' ≤ 4294967295) (W : World) :
    (Op.equalIn 10000 30 (.agg #[.int .u8 (r : Int), .int .u32 (s : Int)]) (.agg #[.int .u8 (r' : Int), .int .u32 (s' : Int)])).run Tryz.prog W = .ok (decide (r = r' ∧ s = s')) W := by
  obtain ⟨b, hb, hi⟩ := run_equalIn_deep (P := Tryz.prog) 9998 2 30 (by kernel_rfl) W 2 2 (.agg #[.int .u8 (r : Int), .int .u32 (s : Int)]) (.agg #[.int .u8 (r' : Int), .int .u32 (s' : Int)]) _ _
    (by simp [Value.formed, Tryz.underlying30, d45]) (by simp [Value.formed, Tryz.underlying30, d45]) (by simpa [Value.cells] using kl_dot (d := 0) hr hs) (by simpa [Value.cells] using kl_dot (d := 0) hr' hs')
  have e : b = decide (r = r' ∧ s = s') := by
    rw [Bool.eq_iff_iff, hi, decide_eq_true_eq]
    simp only [List.cons.injEq, Lit.int.injEq, true_and, and_true]
    exact ⟨fun ⟨h1, h2⟩ => ⟨Int.ofNat.inj h1, Int.ofNat.inj h2⟩, fun ⟨h1, h2⟩ => ⟨by rw [h1], by rw [h2]⟩⟩
  rw [← e]
  exact hb
def hasDot (l : List OpN) (r s : Nat) : Bool := l.any fun x => decide (x.1.rep = r ∧ x.1.seq = s)
attribute [local go_sem ↓] ldKx stKx
set_option maxHeartbeats 2000000 in
set_option maxRecDepth 100000 in
theorem hasD_any (l : List OpN) (n cap : Nat) (A : Option Addr) (r s : Nat) (hr : r ≤ 255) (hs : s ≤ 4294967295) (w : World) (hl : RdO w A n l) :
    Calls Tryz.prog 33 #[.slice A n cap, .agg #[.int .u8 (r : Int), .int .u32 (s : Int)]] w fun e w' => e = .returned (.bool (hasDot l r s)) ∧ Gr w w' := by
  have hfit := hl.fits
  have H0 := Lib.hid ((Gr.refl w).alloc (.cells #[.int .u8 (r : Int), .int .u32 (s : Int)] 30))
  have HROW := Lib.hid (heap_alloc_new w (.cells #[.int .u8 (r : Int), .int .u32 (s : Int)] 30))
  have HL := Lib.hid (hl.below H0.out.below)
  have HRR := Lib.hid hr
  have HSS := Lib.hid hs
  clear hl hr hs
  go_enter Tryz.func33, Tryz.ntmps33
  go_wp2_with fail
  generalize w.alloc (.cells #[.int .u8 (r : Int), .int .u32 (s : Int)] 30) = w2 at *
  go_loopw [5] (fun i wr => ∃ k : Nat, k ≤ n ∧ i = .int .i64 (k : Int) ∧ Hid (Gr w2 wr) ∧ Hid (hasDot (l.take k) r s = false)) (fun i _ => n - (intOf i).toNat)
  case atStart => exact ⟨0, Nat.zero_le _, rfl, Gr.refl _, rfl⟩
  case round =>
    obtain ⟨k, hk, rfl, HW, HN⟩ := hrel
    by_cases hlt : k < n
    · have hkl : k < l.length := by rw [HL.out.len]; exact hlt
      obtain ⟨x, hx⟩ : ∃ x, l[k]? = some x := ⟨_, List.getElem?_eq_getElem hkl⟩
      have htk : l.take (k + 1) = l.take k ++ [x] := by rw [List.take_add_one, hx]; rfl
      obtain ⟨ad, hA, _⟩ := HL.out.cell (by omega)
      subst hA
      have hrr := HL.out.below HW.out.below
      have ld : ∀ j, (ldK 30 (ad.add (k * 23))).run Tryz.prog (wr.drewN j) = .ok (.agg #[.int .u8 ((x.1.rep : Nat) : Int), .int .u32 ((x.1.seq : Nat) : Int)]) (wr.drewN j) := fun j => (hrr.below (drewN_below (Below.refl _ _) j)).dot hx
      have hrow : wr.heap[w.heap.size]? = some (.cells #[.int .u8 (r : Int), .int .u32 (s : Int)] 30 (0, 0)) := by rw [HW.out.below.block _ (Array.getElem?_eq_some_iff.1 HROW.out).1]; exact HROW.out
      have lp : ∀ j, (ldK 30 ⟨w.heap.size, 0, none⟩).run Tryz.prog (wr.drewN j) = .ok (.agg #[.int .u8 (r : Int), .int .u32 (s : Int)]) (wr.drewN j) := fun j => run_loadVar_row (P := Tryz.prog) (wr.drewN j) w.heap.size _ 30 _ _ _ hrow Tryz.underlying30 rfl (by kernel_rfl)
      have heq := fun W => eqDotL x.1.rep x.1.seq r s x.2.rep x.2.seq HRR.out HSS.out W
      obtain ⟨b, hb⟩ : ∃ b, b = decide (x.1.rep = r ∧ x.1.seq = s) := ⟨_, rfl⟩
      rw [← hb] at heq
      have HTK := Lib.hid htk
      have HB := Lib.hid hb
      have HX := Lib.hid (List.mem_of_getElem? hx)
      have i0 : (0 : Int) ≤ (k : Int) := by omega
      have i1 : (k : Int) < (n : Int) := by omega
      clear hx htk hkl hrr hrow hb
      cases b with
      | false =>
        go_wp2_with fail
        go_quiet (fail)
        go_wp2_with fail
        go_roundw
        case rel => exact ⟨k + 1, by omega, by go_num, HW.out.drewN nq, by unfold Hid; have h1 := HN.out; unfold hasDot at h1 ⊢; rw [HTK.out, List.any_append, h1, Bool.false_or, List.any_cons, List.any_nil, Bool.or_false]; exact HB.out.symm⟩
        case measure => simp [intOf]; omega
      | true =>
        have HT := Lib.hid (show hasDot l r s = true from List.any_eq_true.2 ⟨x, HX.out, HB.out.symm⟩)
        go_wp2_with fail
        go_quiet (fail)
        go_wp2_with fail
        go_ret
        exact ⟨by rw [HT.out]; rfl, H0.out.trans (HW.out.drewN nq)⟩
    · have hkn : l.take k = l := List.take_of_length_le (by rw [HL.out.len]; omega)
      have hn := HN.out
      rw [hkn] at hn
      have HT := Lib.hid hn
      clear hn hkn
      go_wp2_with fail
      go_ret
      exact ⟨by rw [HT.out]; rfl, H0.out.trans HW.out⟩
/-- The context of an operation in a row. -/
theorem RdO.ctx {w : World} {ad : Addr} {n : Nat} {l : List OpN} (h : RdO w (some ad) n l) {k : Nat} {x : OpN} (hk : l[k]? = some x) : (ldK 32 (ad.add (k * 23 + 7))).run Tryz.prog w = .ok (.agg (vecA x.1.ctx)) w := by
  have hl : (loadCells (ad.add (k * 23 + 7)) 16).run Tryz.prog w = .ok (vecA x.1.ctx) w := by
    have := run_loadCells_list (P := Tryz.prog) w (ad.add (k * 23 + 7)) (vecA x.1.ctx).toList (fun j v hv => by
      have hj : j < 16 := by
        have := (List.getElem?_eq_some_iff.1 hv).1
        simpa [vecA, x.2.ctx.len] using this
      rw [add_of_add, show k * 23 + 7 + j = k * 23 + (7 + j) by omega, h.c hk (by omega), ← hv]
      unfold opA vecA
      rw [List.getElem?_append_right (by simp)]
      simp)
    rw [show (vecA x.1.ctx).toList.length = 16 by simp [vecA, x.2.ctx.len]] at this
    simpa using this
  have hagg : (isAgg 32).run Tryz.prog w = .ok true w := by
    unfold isAgg
    rw [Sem.run_bind, run_underlying Tryz.underlying32 w]
    simp
  obtain ⟨i, hi⟩ := info_of_underlying Tryz.underlying32
  have hsz : i.size = 16 := by
    have h2 : (Tryz.prog.info? 32).map (·.size) = some 16 := by kernel_rfl
    rw [hi] at h2
    simpa using h2
  simp [ldK, loadVar, Sem.run_bind, hagg, sizeOf, typeInfo, hi, hsz, hl]
theorem countN_snoc (l : List OpN) (x : OpN) (v : List Nat) (r : Nat) : countN (l ++ [x]) v r = countN l v r + if cntF v r x = true then 1 else 0 := by
  unfold countN
  rw [List.filter_append, List.length_append]
  congr 1
  by_cases h : cntF v r x = true
  · rw [if_pos h, List.filter_cons_of_pos h, List.filter_nil]; rfl
  · rw [if_neg h, List.filter_cons_of_neg h, List.filter_nil]; rfl
set_option maxHeartbeats 4000000 in
set_option maxRecDepth 100000 in
theorem count_anyR (l : List OpN) (n cap : Nat) (A : Option Addr) (v : List Nat) (hv : IsVec v) (r : Nat) (hr : r < 16) (hn : n ≤ 100) (w : World) (hl : RdO w A n l) :
    Calls Tryz.prog 34 #[.slice A n cap, .agg (vecA v), .int .i64 (r : Int)] w fun e w' => e = .returned (.int .u32 ((countN l v r : Nat) : Int)) ∧ Gr w w' := by
  have hfit := hl.fits
  have H0 := Lib.hid ((Gr.refl w).alloc (.cells (vecA v) 32))
  have H1 := Lib.hid (VecAt.new w hv)
  have HL := Lib.hid (hl.below H0.out.below)
  have HV := Lib.hid hv
  clear hl hv
  go_enter Tryz.func34, Tryz.ntmps34
  go_wp2_with fail
  generalize w.alloc (.cells (vecA v) 32) = w2 at *
  go_loopw [7, 8] (fun c i wr => ∃ k C : Nat, k ≤ n ∧ i = .int .i64 (k : Int) ∧ c = .int .u32 (C : Int) ∧ C ≤ k ∧ Hid (Gr w2 wr) ∧ Hid (C = countN (l.take k) v r)) (fun _ i _ => n - (intOf i).toNat)
  case atStart => exact ⟨0, 0, Nat.zero_le _, rfl, rfl, Nat.le_refl _, Gr.refl _, rfl⟩
  case round =>
    obtain ⟨k, C, hk, rfl, rfl, hC, HW, HC⟩ := hrel
    by_cases hlt : k < n
    · have hkl : k < l.length := by rw [HL.out.len]; exact hlt
      obtain ⟨x, hx⟩ : ∃ x, l[k]? = some x := ⟨_, List.getElem?_eq_getElem hkl⟩
      have htk : countN (l.take (k + 1)) v r = countN (l.take k) v r + if cntF v r x = true then 1 else 0 := by rw [List.take_add_one, hx]; exact countN_snoc _ _ _ _
      obtain ⟨ad, hA, _⟩ := HL.out.cell (by omega)
      subst hA
      have hrr := HL.out.below HW.out.below
      have hvv := H1.out.below HW.out.below
      have g0 : ∀ j os, (ldK 5 (ad.add (k * 23))).run Tryz.prog (Sort.grow (wr.drewN j) os) = .ok (.int .u8 ((x.1.rep : Nat) : Int)) (Sort.grow (wr.drewN j) os) := fun j os => load_u8 ((hrr.below (gr_grow wr j os).below).c hx (j := 0) (by decide))
      have gd : ∀ j os, (ldK 30 (ad.add (k * 23))).run Tryz.prog (Sort.grow (wr.drewN j) os) = .ok (.agg #[.int .u8 ((x.1.rep : Nat) : Int), .int .u32 ((x.1.seq : Nat) : Int)]) (Sort.grow (wr.drewN j) os) := fun j os => (hrr.below (gr_grow wr j os).below).dot hx
      have gv : ∀ j os, (ldK 32 ⟨w.heap.size, 0, none⟩).run Tryz.prog (Sort.grow (wr.drewN j) os) = .ok (.agg (vecA v)) (Sort.grow (wr.drewN j) os) := fun j os => (hvv.below (gr_grow wr j os).below).load
      have QH := Lib.hid (hasR_any v x.1.rep x.1.seq HV.out x.2.rep x.2.seq)
      have HTK := Lib.hid htk
      have i0 : (0 : Int) ≤ (k : Int) := by omega
      have i1 : (k : Int) < (n : Int) := by omega
      have hub : x.1.rep ≤ 255 := x.2.rep
      have hmix := mix
      clear hx htk hkl hrr hvv
      obtain ⟨p, hp⟩ : ∃ p, p = x.1.rep := ⟨_, rfl⟩
      rw [← hp] at g0 gd QH hub
      have wp : IntKind.i64.wrap (p : Int) = (p : Int) := by rw [IntKind.wrap_i64]; omega
      by_cases hrp : p = r
      · subst hrp
        have hcf : cntF v p x = hasB v p x.1.seq := by unfold cntF; rw [← hp, decide_eq_true rfl, Bool.true_and]
        have HCF := Lib.hid hcf
        clear hcf hp
        go_wp2_with fail
        go_quiet_grown (first | (go_at_call 15; exact grown_gr (QH.out _)))
        have HGF := Lib.hid (HW.out.trans (gr_grow wr nq osq))
        have wC : IntKind.u32.wrap ((C : Int) + 1) = (C : Int) + 1 := by rw [IntKind.wrap_u32]; omega
        clear g0 gd gv
        cases hb : hasB v p x.1.seq with
        | true =>
          have HT := Lib.hid (show C + 1 = countN (l.take (k + 1)) v p by rw [HTK.out, HCF.out, hb, if_pos rfl, ← HC.out])
          clear hb
          go_wp2
          go_roundw
          case rel => exact ⟨k + 1, C + 1, by omega, by go_num, by go_num, by omega, HGF.out, HT.out⟩
          case measure => simp [intOf]; omega
        | false =>
          have HT := Lib.hid (show C = countN (l.take (k + 1)) v p by rw [HTK.out, HCF.out, hb, if_neg (by decide), ← HC.out]; rfl)
          clear hb
          go_wp2
          go_roundw
          case rel => exact ⟨k + 1, C, by omega, by go_num, rfl, by omega, HGF.out, HT.out⟩
          case measure => simp [intOf]; omega
      · have d1 : ((p : Int) == (r : Int)) = false := by simp; omega
        have n1 : ¬ (p : Int) = (r : Int) := by omega
        have hcf : cntF v r x = false := by unfold cntF; rw [← hp, decide_eq_false hrp, Bool.false_and]
        have HT := Lib.hid (show C = countN (l.take (k + 1)) v r by rw [HTK.out, hcf, if_neg (by decide), ← HC.out]; rfl)
        clear hcf hp hrp
        go_wp2_with fail
        go_quiet_grown (first | (go_at_call 15; exact grown_gr (QH.out _)))
        have HGF := Lib.hid (HW.out.trans (gr_grow wr nq osq))
        clear g0 gd gv
        go_wp2
        go_roundw
        case rel => exact ⟨k + 1, C, by omega, by go_num, rfl, by omega, HGF.out, HT.out⟩
        case measure => simp [intOf]; omega
    · have hkn : l.take k = l := List.take_of_length_le (by rw [HL.out.len]; omega)
      have hC := HC.out
      rw [hkn] at hC
      have HT := Lib.hid hC
      clear hC hkn
      go_wp2_with fail
      go_ret
      exact ⟨by rw [← HT.out]; rfl, H0.out.trans HW.out⟩
end Go.Proofs.YtgogbpkcceadbaaGreatDoor.Vc
