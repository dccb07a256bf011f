/-
  The walk of the law 'truglaw19.DigestAll'.
-/
import Derived.Test.YtkhjmegjnglkgaaDigAlive
import Derived.Test.YtkhjmegjnglkgaaHeldK
import Derived.Test.YtkhjmegjnglkgaaAllP
import Derived.Test.YtkhjmegjnglkgaaJoinW
import Derived.Test.YtkhjmegjnglkgaaHasR
namespace Go.Proofs.Ytkhjmegjnglkgaa.Vc
open Go.RowKit Go.Proofs.Ytkhjmegjnglkgaa.Wd
set_option linter.unusedVariables false
set_option linter.unusedSimpArgs false

/-- A variable that holds a dot. -/
structure DotAt (w : World) (g : Nat) (r s : Nat) : Prop where
  row : w.heap[g]? = some (.cells #[.int .u8 (r : Int), .int .u32 (s : Int)] 45 (0, 0))
theorem DotAt.below {w w' : World} {g r s : Nat} (h : DotAt w g r s) (hb : Below w.heap.size w w') : DotAt w' g r s := ⟨by rw [hb.block g (Array.getElem?_eq_some_iff.1 h.row).1]; exact h.row⟩
theorem DotAt.c0 {w : World} {g r s : Nat} (h : DotAt w g r s) : w.cell? ⟨g, 0, none⟩ = some (.int .u8 (r : Int)) := by rw [cell_of_row w g 0 _ _ _ h.row]; rfl
theorem DotAt.c1 {w : World} {g r s : Nat} (h : DotAt w g r s) : w.cell? ⟨g, 1, none⟩ = some (.int .u32 (s : Int)) := by rw [cell_of_row w g 1 _ _ _ h.row]; rfl
theorem loadDot {W : World} {g : Nat} {x y : Value} (h0 : W.cell? ⟨g, 0, none⟩ = some x) (h1 : W.cell? ⟨g, 1, none⟩ = some y) : (ldK 45 ⟨g, 0, none⟩).run Try.prog W = .ok (.agg #[x, y]) W := by
  simp [ldK, go_sem, h0, h1]
/-- A variable that holds a span. -/
structure SpAt (w : World) (g : Nat) (q f t : Nat) : Prop where
  row : w.heap[g]? = some (.cells #[.int .u8 (q : Int), .int .u32 (f : Int), .int .u32 (t : Int)] 38 (0, 0))
theorem SpAt.below {w w' : World} {g q f t : Nat} (h : SpAt w g q f t) (hb : Below w.heap.size w w') : SpAt w' g q f t := ⟨by rw [hb.block g (Array.getElem?_eq_some_iff.1 h.row).1]; exact h.row⟩
theorem SpAt.c0 {w : World} {g q f t : Nat} (h : SpAt w g q f t) : w.cell? ⟨g, 0, none⟩ = some (.int .u8 (q : Int)) := by rw [cell_of_row w g 0 _ _ _ h.row]; rfl
theorem SpAt.c1 {w : World} {g q f t : Nat} (h : SpAt w g q f t) : w.cell? ⟨g, 1, none⟩ = some (.int .u32 (f : Int)) := by rw [cell_of_row w g 1 _ _ _ h.row]; rfl
theorem SpAt.c2 {w : World} {g q f t : Nat} (h : SpAt w g q f t) : w.cell? ⟨g, 2, none⟩ = some (.int .u32 (t : Int)) := by rw [cell_of_row w g 2 _ _ _ h.row]; rfl

set_option maxHeartbeats 4000000 in
set_option maxRecDepth 100000 in
theorem digestAll_any (w : World) (a : List Nat) (ha : IsVec a) (b : List Nat) (hb : IsVec b) (r s : Nat) (hr : r ≤ 255) (hs : s ≤ 4294967295) :
    Calls Try.prog 6 #[.agg (vecA a), .agg (vecA b), .agg #[.int .u8 (r : Int), .int .u32 (s : Int)]] w fun e w' => e = .returned (.bool true) ∧ Below w.heap.size w w' := by
  have h2 : VecAt ((w.alloc (.cells (vecA a) 24)).alloc (.cells (vecA b) 24)) (w.heap.size + 1) b := by simpa using VecAt.new (w.alloc (.cells (vecA a) 24)) hb
  have h1 : VecAt ((w.alloc (.cells (vecA a) 24)).alloc (.cells (vecA b) 24)) w.heap.size a := (VecAt.new w ha).below ((Below.refl _ _).alloc (Nat.le_refl _) _)
  have h0 : Below w.heap.size w ((w.alloc (.cells (vecA a) 24)).alloc (.cells (vecA b) 24)) := ((Below.refl _ _).alloc (Nat.le_refl _) _).alloc (by simp) _
  have h3 : DotAt (((w.alloc (.cells (vecA a) 24)).alloc (.cells (vecA b) 24)).alloc (.cells #[.int .u8 (r : Int), .int .u32 (s : Int)] 45)) (w.heap.size + 1 + 1) r s := ⟨by simpa using heap_alloc_new ((w.alloc (.cells (vecA a) 24)).alloc (.cells (vecA b) 24)) (.cells #[.int .u8 (r : Int), .int .u32 (s : Int)] 45)⟩
  have H1 := Lib.hid (h1.below ((Below.refl _ _).alloc (Nat.le_refl _) (.cells #[.int .u8 (r : Int), .int .u32 (s : Int)] 45)))
  have H2 := Lib.hid (h2.below ((Below.refl _ _).alloc (Nat.le_refl _) (.cells #[.int .u8 (r : Int), .int .u32 (s : Int)] 45)))
  have H3 := Lib.hid h3
  have H0 := Lib.hid (h0.alloc h0.size (.cells #[.int .u8 (r : Int), .int .u32 (s : Int)] 45))
  have hok := needTo_ok ha hb (Nat.le_refl 16)
  have hln := needTo_length a b 16
  have hmem := fun p hp => (need_mem (a := a) (b := b) (p := p)).1 hp
  have hlaw := all_law a b r s
  have QN := Lib.hid (fun W => need_any a b ha hb W)
  have qs := fun W => need_any a a ha ha W
  rw [need_self] at qs
  have QS := Lib.hid qs
  have QH := Lib.hid (fun W => hasR_any a r s ha hr hs W)
  have qj := fun W => joinR_any a b ha hb W
  have qg := fun W => hasR_any (joinTo a b 16) r s (joinTo_vec ha hb 16) hr hs W
  rw [← hlaw] at qg
  have QD := Lib.hid (fun W => dotR_any r s hr hs W)
  generalize joinTo a b 16 = js at *
  have QJ := Lib.hid qj
  generalize needTo a b 16 = l at *
  have QG := Lib.hid qg
  have HOK := Lib.hid hok
  have HMEM := Lib.hid hmem
  have hg0 : hasB a r s = gotB a r s (l.take 0) := by simp [gotB]
  have HG0 := Lib.hid hg0
  have HA := Lib.hid ha
  have HBV := Lib.hid hb
  clear ha hb h0 h1 h2 h3 hok qs qj qg hlaw hmem hg0
  go_enter Try.func6, Try.ntmps6
  go_wp2_with fail
  generalize ((w.alloc (.cells (vecA a) 24)).alloc (.cells (vecA b) 24)).alloc (.cells #[.int .u8 (r : Int), .int .u32 (s : Int)] 45) = w1 at *
  refine (alive_any w1).mono ?_
  rintro e w2 ⟨rfl, hb2⟩
  have HB2 := Lib.hid (H0.out.trans (hb2.mono H0.out.size))
  have K1 := Lib.hid (H1.out.below hb2)
  have K2 := Lib.hid (H2.out.below hb2)
  have K3 := Lib.hid (H3.out.below hb2)
  clear hb2
  go_wp2_with (first
    | (refine VecAt.load_list K1.out rfl (.tmp 3) rfl rfl ?_))
  refine (QS.out w2).mono ?_
  rintro e w3 ⟨v3, rfl, ho3, hb3⟩
  obtain ⟨A3, c3, hv3, hc3, hr3⟩ := ho3.rd (by simp)
  subst hv3
  have HB3 := Lib.hid (HB2.out.trans (hb3.mono HB2.out.size))
  have L1 := Lib.hid (K1.out.below hb3)
  have L2 := Lib.hid (K2.out.below hb3)
  have L3 := Lib.hid (K3.out.below hb3)
  have c30 := L3.out.c0
  have c31 := L3.out.c1
  clear ho3 hb3 hr3
  go_wp2_with (first
    | (refine VecAt.load_list L1.out rfl (.tmp 3) rfl rfl ?_))
  refine (QH.out w3).mono ?_
  rintro e w4 ⟨rfl, hg4⟩
  have HB4 := Lib.hid (HB3.out.trans (hg4.below.mono HB3.out.size))
  have M1 := Lib.hid (L1.out.below hg4.below)
  have M2 := Lib.hid (L2.out.below hg4.below)
  have M3 := Lib.hid (L3.out.below hg4.below)
  rw [HG0.out]
  clear hg4 c30 c31
  go_wp2_with (first
    | (refine VecAt.load_list M1.out rfl (.tmp 3) rfl rfl ?_)
    | (refine VecAt.load_list M2.out rfl (.tmp 4) rfl rfl ?_))
  refine (QN.out w4).mono ?_
  rintro e w5 ⟨v5, rfl, ho5, hb5⟩
  obtain ⟨A5, c5, hv5, hc5, hr5⟩ := ho5.rd HOK.out
  subst hv5
  have HB5 := Lib.hid (HB4.out.trans (hb5.mono HB4.out.size))
  have N1 := Lib.hid (M1.out.below hb5)
  have N2 := Lib.hid (M2.out.below hb5)
  have N3 := Lib.hid (M3.out.below hb5)
  have HL := Lib.hid hr5
  clear ho5 hb5 hr5
  go_wp2_with fail
  go_loopw [7, 24] (fun g i wr => ∃ k : Nat, k ≤ l.length ∧ i = .int .i64 (k : Int) ∧ g = .bool (gotB a r s (l.take k)) ∧ Hid (Below w5.heap.size w5 wr)) (fun _ i _ => l.length - (intOf i).toNat)
  case atStart => exact ⟨0, Nat.zero_le _, rfl, rfl, Below.refl _ _⟩
  case round =>
    obtain ⟨k, hk, rfl, rfl, HW⟩ := hrel
    have hsz := HW.out.size
    by_cases hlt : k < l.length
    · obtain ⟨ad, rfl, hcl⟩ := (HL.out.below HW.out).cell (by omega)
      obtain ⟨g1, g2, g3⟩ := hcl k hlt
      have hspok := HL.out.ok hlt
      have hmk := HMEM.out (l.getD k (0, 0, 0)) (by rw [List.getD_eq_getElem?_getD, List.getElem?_eq_getElem hlt]; exact List.getElem_mem hlt)
      obtain ⟨sp, hsp⟩ : ∃ sp, sp = l.getD k (0, 0, 0) := ⟨_, rfl⟩
      rw [← hsp] at g1 g2 g3 hspok hmk
      obtain ⟨q, f, t⟩ := sp
      have hcase := got_cases a r s l k hlt q f t hsp.symm
      dsimp only at g1 g2 g3 hmk
      rw [← add_of_add] at g2 g3
      have g2' : wr.cell? { block := (ad.add (k * 3)).block, off := (ad.add (k * 3)).off + 1 } = some (.int .u32 (f : Int)) := g2
      have g3' : wr.cell? { block := (ad.add (k * 3)).block, off := (ad.add (k * 3)).off + 2 } = some (.int .u32 (t : Int)) := g3
      have i0 : (0 : Int) ≤ (k : Int) := by omega
      have i1 : (k : Int) < (l.length : Int) := by omega
      obtain ⟨hq16, hab, hf, ht⟩ := hmk
      obtain ⟨x, hx⟩ : ∃ x, x = a.getD q 0 := ⟨_, rfl⟩
      have hxf : f = x + 1 := by rw [hx]; exact hf
      have hft : f ≤ t := by omega
      have hq1 : q ≤ 255 := by omega
      have hf1 : f ≤ 4294967295 := hspok.2.1
      have ht1 : t ≤ 4294967295 := hspok.2.2
      obtain ⟨wa, hwa⟩ : ∃ wa, wa = wr.alloc (.cells #[.int .u8 (q : Int), .int .u32 (f : Int), .int .u32 (t : Int)] 38) := ⟨_, rfl⟩
      have haw : Below wr.heap.size wr wa := by rw [hwa]; exact (Below.refl _ _).alloc (Nat.le_refl _) _
      have hba : Below w5.heap.size w5 wa := HW.out.trans (haw.mono hsz)
      have SA : Hid (SpAt wa wr.heap.size q f t) := ⟨by rw [hwa]; exact heap_alloc_new wr _⟩
      have SD := Lib.hid ((N3.out.below HW.out).below haw)
      have SV := Lib.hid ((N1.out.below HW.out).below haw)
      have d0 : ∀ o, (wr.alloc o).cell? ⟨w.heap.size + 1 + 1, 0, none⟩ = some (.int .u8 (r : Int)) := fun o => ((N3.out.below HW.out).below ((Below.refl _ _).alloc (Nat.le_refl _) o)).c0
      have d1 : ∀ o, (wr.alloc o).cell? ⟨w.heap.size + 1 + 1, 1, none⟩ = some (.int .u32 (s : Int)) := fun o => ((N3.out.below HW.out).below ((Below.refl _ _).alloc (Nat.le_refl _) o)).c1
      have HX := Lib.hid hx
      have HXF := Lib.hid hxf
      have HWA := Lib.hid hwa
      have HBA := Lib.hid hba
      have wxx : IntKind.u32.wrap ((x : Int) + 1) = (f : Int) := by rw [IntKind.wrap_u32]; omega
      have wm : (q : Int) % 16 = (q : Int) := by omega
      have wt : (q : Int).tmod 16 = (q : Int) := by rw [Int.tmod_eq_emod_of_nonneg (by omega)]; exact wm
      have wv : IntKind.u8.wrap (q : Int) = (q : Int) := by rw [IntKind.wrap_u8]; omega
      have WXX := Lib.hid wxx
      have WT := Lib.hid wt
      have WV := Lib.hid wv
      have WM := Lib.hid wm
      have HF := Lib.hid hf
      have HT := Lib.hid ht
      clear hcl hsp g2 g3 hwa hx hxf wxx wm wt wv haw hba hf ht hspok
      have fin : ∀ W, Below wa.heap.size wa W → (∀ j, (W.drewN j).cell? ⟨wr.heap.size, 0, none⟩ = some (.int .u8 (q : Int))) ∧ (∀ j, (W.drewN j).cell? ⟨wr.heap.size, 1, none⟩ = some (.int .u32 (f : Int))) ∧ (∀ j, (W.drewN j).cell? ⟨wr.heap.size, 2, none⟩ = some (.int .u32 (t : Int))) ∧
          (∀ j, (W.drewN j).cell? ⟨w.heap.size, q, none⟩ = some (.int .u32 (x : Int))) := fun W hW =>
        ⟨fun j => ((SA.out.below hW).c0 : W.cell? _ = _), fun j => ((SA.out.below hW).c1 : W.cell? _ = _), fun j => ((SA.out.below hW).c2 : W.cell? _ = _), fun j => by
          have h := (SV.out.below hW).cell hq16
          rw [← HX.out] at h
          exact h⟩
      have FIN := Lib.hid fin
      clear fin
      have i2 : (0 : Int) ≤ (q : Int) := by omega
      have i3 : (q : Int) < 16 := by omega
      rcases hcase with ⟨hg, hng⟩ | ⟨hg, hd, hng⟩ | ⟨hg, hd, hqr, hng⟩ | ⟨hg, hd, hqr, hfs, hng⟩ | ⟨hg, hd, hqr, hfs, hst, hng⟩ | ⟨hg, hd, hqr, hfs, hst, hng⟩
      · rw [hg]
        have HNG := Lib.hid hng
        clear hg hng
        go_wp2_with fail
        rw [← HWA.out]
        obtain ⟨z0, z1, z2, z3⟩ := FIN.out wa (Below.refl _ _)
        have WFIN := Lib.hid (HBA.out.trans (Below.mono (Below.refl _ _) HBA.out.size))
        have wxx := WXX.out
        have wt := WT.out
        have wv := WV.out
        have wm := WM.out
        go_quiet (fail)
        clear wxx wt wv wm z0 z1 z2 z3
        go_wp2_with fail
        go_roundw
        case rel => exact ⟨k + 1, by omega, by go_num, by rw [HNG.out], drewN_below WFIN.out _⟩
        case measure => simp [intOf]; omega
      · rw [hg]
        have HNG := Lib.hid hng
        rw [hd] at QD
        clear hg hd hng
        go_wp2_with fail
        refine (QD.out _).mono ?_
        rw [← HWA.out]
        rintro e w6 ⟨rfl, hg6⟩
        have hb6 : Below wa.heap.size wa w6 := hg6.below
        have y0 := (SD.out.below hb6).c0
        have y1 := (SD.out.below hb6).c1
        have x0 := (SA.out.below hb6).c0
        have x1 := (SA.out.below hb6).c1
        have x2 := (SA.out.below hb6).c2
        clear hg6 d0 d1
        go_wp2_with fail
        clear y0 y1 x0 x1 x2
        obtain ⟨z0, z1, z2, z3⟩ := FIN.out w6 (hb6)
        have WFIN := Lib.hid (HBA.out.trans (Below.mono (hb6) HBA.out.size))
        have wxx := WXX.out
        have wt := WT.out
        have wv := WV.out
        have wm := WM.out
        go_quiet (fail)
        clear wxx wt wv wm z0 z1 z2 z3
        go_wp2_with fail
        go_roundw
        case rel => exact ⟨k + 1, by omega, by go_num, by rw [HNG.out], drewN_below WFIN.out _⟩
        case measure => simp [intOf]; omega
      · rw [hg]
        have HNG := Lib.hid hng
        rw [hd] at QD
        have e1 : ((q : Int) == (r : Int)) = false := by simpa using (by omega : ¬ ((q : Int) = (r : Int)))
        have e2 : decide ((q : Int) = (r : Int)) = false := by simpa using (by omega : ¬ ((q : Int) = (r : Int)))
        clear hqr
        clear hg hd hng
        go_wp2_with fail
        refine (QD.out _).mono ?_
        rw [← HWA.out]
        rintro e w6 ⟨rfl, hg6⟩
        have hb6 : Below wa.heap.size wa w6 := hg6.below
        have y0 := (SD.out.below hb6).c0
        have y1 := (SD.out.below hb6).c1
        have x0 := (SA.out.below hb6).c0
        have x1 := (SA.out.below hb6).c1
        have x2 := (SA.out.below hb6).c2
        clear hg6 d0 d1
        go_wp2_with fail
        clear y0 y1 x0 x1 x2
        obtain ⟨z0, z1, z2, z3⟩ := FIN.out w6 (hb6)
        have WFIN := Lib.hid (HBA.out.trans (Below.mono (hb6) HBA.out.size))
        have wxx := WXX.out
        have wt := WT.out
        have wv := WV.out
        have wm := WM.out
        go_quiet (fail)
        clear wxx wt wv wm z0 z1 z2 z3
        go_wp2_with fail
        go_roundw
        case rel => exact ⟨k + 1, by omega, by go_num, by rw [HNG.out], drewN_below WFIN.out _⟩
        case measure => simp [intOf]; omega
      · rw [hg]
        have HNG := Lib.hid hng
        rw [hd] at QD
        subst hqr
        clear hg hd hng
        go_wp2_with fail
        refine (QD.out _).mono ?_
        rw [← HWA.out]
        rintro e w6 ⟨rfl, hg6⟩
        have hb6 : Below wa.heap.size wa w6 := hg6.below
        have y0 := (SD.out.below hb6).c0
        have y1 := (SD.out.below hb6).c1
        have x0 := (SA.out.below hb6).c0
        have x1 := (SA.out.below hb6).c1
        have x2 := (SA.out.below hb6).c2
        clear hg6 d0 d1
        go_wp2_with fail
        clear y0 y1 x0 x1 x2
        obtain ⟨z0, z1, z2, z3⟩ := FIN.out w6 (hb6)
        have WFIN := Lib.hid (HBA.out.trans (Below.mono (hb6) HBA.out.size))
        have wxx := WXX.out
        have wt := WT.out
        have wv := WV.out
        have wm := WM.out
        go_quiet (fail)
        clear wxx wt wv wm z0 z1 z2 z3
        go_wp2_with fail
        go_roundw
        case rel => exact ⟨k + 1, by omega, by go_num, by rw [HNG.out], drewN_below WFIN.out _⟩
        case measure => simp [intOf]; omega
      · rw [hg]
        have HNG := Lib.hid hng
        rw [hd] at QD
        subst hqr
        clear hg hd hng
        go_wp2_with fail
        refine (QD.out _).mono ?_
        rw [← HWA.out]
        rintro e w6 ⟨rfl, hg6⟩
        have hb6 : Below wa.heap.size wa w6 := hg6.below
        have y0 := (SD.out.below hb6).c0
        have y1 := (SD.out.below hb6).c1
        have x0 := (SA.out.below hb6).c0
        have x1 := (SA.out.below hb6).c1
        have x2 := (SA.out.below hb6).c2
        clear hg6 d0 d1
        go_wp2_with fail
        clear y0 y1 x0 x1 x2
        obtain ⟨z0, z1, z2, z3⟩ := FIN.out w6 (hb6)
        have WFIN := Lib.hid (HBA.out.trans (Below.mono (hb6) HBA.out.size))
        have wxx := WXX.out
        have wt := WT.out
        have wv := WV.out
        have wm := WM.out
        go_quiet (fail)
        clear wxx wt wv wm z0 z1 z2 z3
        go_wp2_with fail
        go_roundw
        case rel => exact ⟨k + 1, by omega, by go_num, by rw [HNG.out], drewN_below WFIN.out _⟩
        case measure => simp [intOf]; omega
      · rw [hg]
        have HNG := Lib.hid hng
        rw [hd] at QD
        subst hqr
        clear hg hd hng
        go_wp2_with fail
        refine (QD.out _).mono ?_
        rw [← HWA.out]
        rintro e w6 ⟨rfl, hg6⟩
        have hb6 : Below wa.heap.size wa w6 := hg6.below
        have y0 := (SD.out.below hb6).c0
        have y1 := (SD.out.below hb6).c1
        have x0 := (SA.out.below hb6).c0
        have x1 := (SA.out.below hb6).c1
        have x2 := (SA.out.below hb6).c2
        clear hg6 d0 d1
        go_wp2_with fail
        clear y0 y1 x0 x1 x2
        obtain ⟨z0, z1, z2, z3⟩ := FIN.out w6 (hb6)
        have WFIN := Lib.hid (HBA.out.trans (Below.mono (hb6) HBA.out.size))
        have wxx := WXX.out
        have wt := WT.out
        have wv := WV.out
        have wm := WM.out
        go_quiet (fail)
        clear wxx wt wv wm z0 z1 z2 z3
        go_wp2_with fail
        go_roundw
        case rel => exact ⟨k + 1, by omega, by go_num, by rw [HNG.out], drewN_below WFIN.out _⟩
        case measure => simp [intOf]; omega
    · have hkn : k = l.length := by omega
      subst hkn
      rw [List.take_length]
      have P1 := Lib.hid (N1.out.below HW.out)
      have P2 := Lib.hid (N2.out.below HW.out)
      have P3 := Lib.hid (N3.out.below HW.out)
      have HWB := Lib.hid (HB5.out.trans (HW.out.mono HB5.out.size))
      generalize gotB a r s l = G at *
      clear hk hlt
      go_wp2_with fail
      have hb0 : Below wr.heap.size wr wr.drew := (Below.refl _ _).drew
      refine wp_region_held_drew (S := fun w' => Below wr.heap.size wr w') (by kernel_rfl) hb0 (fun hHeld => ?_)
      refine held_take (i := 0) (some 71) (.bool G) rfl rfl (by kernel_rfl) (by kernel_rfl) (by kernel_rfl) (fun _ _ _ h => h) (Or.inl ⟨by rfl, by intro w hSw; go_simp⟩) (by assumption) ?_
      try simp only [Act.put, List.setIfInBounds_toArray, List.set_cons_zero, List.set_cons_succ]
      refine wpAnyH_take (i := 1) (v := .agg (vecA a)) rfl (by kernel_rfl) (by kernel_rfl) (by kernel_rfl) (fun _ _ _ h => h) (yields_vec rfl (.tmp 3) rfl w.heap.size rfl a (fun W hW => P1.out.below hW)) (by assumption) ?_
      try simp only [Act.put, List.setIfInBounds_toArray, List.set_cons_zero, List.set_cons_succ]
      refine wpAnyH_take (i := 2) (v := .agg (vecA b)) rfl (by kernel_rfl) (by kernel_rfl) (by kernel_rfl) (fun _ _ _ h => h) (yields_vec rfl (.tmp 4) rfl (w.heap.size + 1) rfl b (fun W hW => P2.out.below hW)) (by assumption) ?_
      try simp only [Act.put, List.setIfInBounds_toArray, List.set_cons_zero, List.set_cons_succ]
      refine wpAnyH_take (i := 4) (v := .agg #[.int .u8 (r : Int), .int .u32 (s : Int)]) rfl (by kernel_rfl) (by kernel_rfl) (by kernel_rfl) (fun _ _ _ h => h) (yields_load 45 (by rfl) (.tmp 5) rfl ⟨w.heap.size + 1 + 1, 0, none⟩ rfl _ (fun W hW => loadDot (P3.out.below hW).c0 (P3.out.below hW).c1)) (by assumption) ?_
      try simp only [Act.put, List.setIfInBounds_toArray, List.set_cons_zero, List.set_cons_succ]
      refine wpAnyH_ready (rs := [3]) (by kernel_rfl) (by simp) ?_
      refine AllReadyH.cons rfl (fun K hK => ?_) AllReadyH.nil
      go_simp
      refine (QJ.out _).mono ?_
      rintro e w7 ⟨rfl, hb7⟩
      have hb8 := hb0.trans (hb7.mono hb0.size)
      clear hb7
      refine hK.out _ _ hb8 (fun hHeld => ?_)
      clear hK K
      try simp only [Act.put, List.setIfInBounds_toArray, List.set_cons_zero, List.set_cons_succ]
      refine wpAnyH_ready (rs := [5]) (by kernel_rfl) (by simp) ?_
      refine AllReadyH.cons rfl (fun K hK => ?_) AllReadyH.nil
      go_simp
      refine (QG.out _).mono ?_
      rintro e w8 ⟨rfl, hg8⟩
      have hb9 := hb8.trans (hg8.below.mono hb8.size)
      clear hg8
      refine hK.out _ _ hb9 (fun hHeld => ?_)
      clear hK K
      try simp only [Act.put, List.setIfInBounds_toArray, List.set_cons_zero, List.set_cons_succ]
      refine held_take (i := 6) (some 77) (.bool true) rfl rfl (by kernel_rfl) (by kernel_rfl) (by kernel_rfl) (fun _ _ _ h => h) (Or.inl ⟨by rfl, by intro w hSw; go_simp⟩) (by assumption) ?_
      try simp only [Act.put, List.setIfInBounds_toArray, List.set_cons_zero, List.set_cons_succ]
      refine held_take (i := 7) (some 6) (.bool true) rfl rfl (by kernel_rfl) (by kernel_rfl) (by kernel_rfl) (fun _ _ _ h => h) (Or.inl ⟨by rfl, by intro w hSw; go_simp⟩) (by assumption) ?_
      try simp only [Act.put, List.setIfInBounds_toArray, List.set_cons_zero, List.set_cons_succ]
      refine wpAnyH_done (by kernel_rfl) ?_ _
      have HGF := Lib.hid (HWB.out.trans (hb9.mono HWB.out.size))
      clear hb0 hb8 hb9 hHeld
      go_wp2
      go_ret
      exact ⟨rfl, HGF.out⟩
end Go.Proofs.Ytkhjmegjnglkgaa.Vc
