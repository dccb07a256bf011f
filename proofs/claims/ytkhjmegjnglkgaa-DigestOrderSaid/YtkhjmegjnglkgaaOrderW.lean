/-
  The walk of the law 'truglaw19.DigestOrder'.
-/
import Derived.Test.YtkhjmegjnglkgaaDigAlive
import Derived.Test.YtkhjmegjnglkgaaHeldK
import Derived.Test.YtkhjmegjnglkgaaPickR
import Derived.Test.YtkhjmegjnglkgaaEqSO
namespace Go.Proofs.Ytkhjmegjnglkgaa.Vc
open Go.RowKit Go.Proofs.Ytkhjmegjnglkgaa.Wd Go.Proofs.Ytkhjmegjnglkgaa.Sym
set_option linter.unusedVariables false
set_option linter.unusedSimpArgs false

theorem picked_same {v : List Nat} {l : List OpN} {K1 K2 i : Nat} (h : K1 ≤ K2) (hi : i < (picked v l K1).length) : (picked v l K2)[i]! = (picked v l K1)[i]! := by
  unfold picked at hi ⊢
  have e := selN_take (lt := Go.Proofs.ltOf cf) K1 K2 (kept v l) h
  have hi2 : i < K1 := by rw [selN_length] at hi; omega
  have hi3 : i < (selN (Go.Proofs.ltOf cf) K2 (kept v l)).length := by rw [selN_length] at hi ⊢; omega
  rw [getElem!_pos (selN (Go.Proofs.ltOf cf) K2 (kept v l)) i hi3, getElem!_pos (selN (Go.Proofs.ltOf cf) K1 (kept v l)) i hi]
  have h1 := List.getElem?_eq_getElem hi
  have h2 := List.getElem?_eq_getElem hi3
  have h3 := congrArg (fun z : List OpN => z[i]?) e
  simp only [List.getElem?_take_of_lt hi2] at h3
  rw [h1, h2] at h3
  exact (Option.some.inj h3).symm
theorem picked_not {v : List Nat} {l : List OpN} {K i : Nat} (hi : i < (picked v l K).length) : hadB v (picked v l K)[i]! = false := by
  rw [getElem!_pos (picked v l K) i hi]
  have hm := selN_mem K (kept v l) _ (List.getElem_mem (l := picked v l K) hi)
  have := (List.mem_filter.1 hm).2
  simpa using this
theorem picked_sorted {v : List Nat} {l : List OpN} {K i : Nat} (hi : i + 1 < (picked v l K).length) : lessB (picked v l K)[i + 1]!.1 (picked v l K)[i]!.1 = false := by
  rw [← ltOf_iff, getElem!_pos (picked v l K) (i + 1) hi, getElem!_pos (picked v l K) i (by omega)]
  have h := selN_sorted swoO K (kept v l)
  rw [List.pairwise_iff_getElem] at h
  exact h i (i + 1) (by unfold picked at hi; omega) hi (by omega)
theorem load_op {w : World} {A : Option Addr} {n : Nat} {l : List OpN} (h : RdO w A n l) {k : Nat} (hk : k < n) {W : World} (hb : Below w.heap.size w W) {ad : Addr} (hA : A = some ad) : (ldK 54 (ad.add (k * 23))).run Try.prog W = .ok (.agg (opA l[k]!.1).toArray) W := by
  obtain ⟨ad2, e, h2⟩ := load_own (h.below hb) hk
  rw [hA] at e
  injection e with e
  subst e
  exact h2
attribute [local go_sem ↓] ldKx stKx
set_option maxHeartbeats 4000000 in
set_option maxRecDepth 100000 in
theorem digestOrder_any (w : World) (n cap : Nat) (A : Option Addr) (l : List OpN) (hnc : n ≤ cap) (hr : RdO w A n l) (v : List Nat) (hv : IsVec v) (m : Nat) (hm : m ≤ 255) :
    Calls Try.prog 8 #[.slice A n cap, .agg (vecA v), .int .u8 (m : Int)] w fun e w' => e = .returned (.bool true) ∧ Below w.heap.size w w' := by
  have hfit := hr.fits
  have H1 := Lib.hid (VecAt.new w hv)
  have H0 := Lib.hid ((Below.refl w.heap.size w).alloc (Nat.le_refl _) (.cells (vecA v) 24))
  have HR := Lib.hid (hr.below H0.out)
  have HV := Lib.hid hv
  clear hr hv
  by_cases hn : n ≤ 60
  · have wm : IntKind.i64.wrap (m : Int) = (m : Int) := by rw [IntKind.wrap_i64]; omega
    have wm1 : IntKind.i64.wrap ((m : Int) + 1) = (m : Int) + 1 := by rw [IntKind.wrap_i64]; omega
    go_enter Try.func8, Try.ntmps8
    go_wp2_with fail
    generalize w.alloc (.cells (vecA v) 24) = w1 at *
    refine (alive_any w1).mono ?_
    rintro e w2 ⟨rfl, hb2⟩
    have HB2 := Lib.hid (H0.out.trans (hb2.mono H0.out.size))
    have K1 := Lib.hid (H1.out.below hb2)
    have HL := Lib.hid (HR.out.below hb2)
    clear hb2
    go_wp2_with fail
    have hb0 : Below w2.heap.size w2 w2.drew := (Below.refl _ _).drew
    refine wp_region_held_drew (S := fun w' => Below w2.heap.size w2 w') (by kernel_rfl) hb0 (fun hHeld => ?_)
    refine held_take (i := 0) (some 16) (.slice A n cap) rfl rfl (by kernel_rfl) (by kernel_rfl) (by kernel_rfl) (fun _ _ _ h => h) (Or.inl ⟨by rfl, by intro w hSw; go_simp⟩) (by assumption) ?_
    try simp only [Act.put, List.setIfInBounds_toArray, List.set_cons_zero, List.set_cons_succ]
    refine wpAnyH_take (i := 1) (v := .agg (vecA v)) rfl (by kernel_rfl) (by kernel_rfl) (by kernel_rfl) (fun _ _ _ h => h) (yields_vec rfl (.tmp 4) rfl w.heap.size rfl v (fun W hW => K1.out.below hW)) (by assumption) ?_
    try simp only [Act.put, List.setIfInBounds_toArray, List.set_cons_zero, List.set_cons_succ]
    refine held_take (i := 2) (some 18) (.int .u8 (m : Int)) rfl rfl (by kernel_rfl) (by kernel_rfl) (by kernel_rfl) (fun _ _ _ h => h) (Or.inl ⟨by rfl, by intro w hSw; go_simp⟩) (by assumption) ?_
    try simp only [Act.put, List.setIfInBounds_toArray, List.set_cons_zero, List.set_cons_succ]
    refine held_take (i := 3) (some 19) (.int .i64 (m : Int)) rfl rfl (by kernel_rfl) (by kernel_rfl) (by kernel_rfl) (fun _ _ _ h => h) (Or.inl ⟨by rfl, by intro w hSw; go_simp⟩) (by assumption) ?_
    try simp only [Act.put, List.setIfInBounds_toArray, List.set_cons_zero, List.set_cons_succ]
    refine held_take (i := 5) (some 21) (.slice A n cap) rfl rfl (by kernel_rfl) (by kernel_rfl) (by kernel_rfl) (fun _ _ _ h => h) (Or.inl ⟨by rfl, by intro w hSw; go_simp⟩) (by assumption) ?_
    try simp only [Act.put, List.setIfInBounds_toArray, List.set_cons_zero, List.set_cons_succ]
    refine wpAnyH_take (i := 6) (v := .agg (vecA v)) rfl (by kernel_rfl) (by kernel_rfl) (by kernel_rfl) (fun _ _ _ h => h) (yields_vec rfl (.tmp 4) rfl w.heap.size rfl v (fun W hW => K1.out.below hW)) (by assumption) ?_
    try simp only [Act.put, List.setIfInBounds_toArray, List.set_cons_zero, List.set_cons_succ]
    refine held_take (i := 7) (some 23) (.int .u8 (m : Int)) rfl rfl (by kernel_rfl) (by kernel_rfl) (by kernel_rfl) (fun _ _ _ h => h) (Or.inl ⟨by rfl, by intro w hSw; go_simp⟩) (by assumption) ?_
    try simp only [Act.put, List.setIfInBounds_toArray, List.set_cons_zero, List.set_cons_succ]
    refine held_take (i := 8) (some 24) (.int .i64 (m : Int)) rfl rfl (by kernel_rfl) (by kernel_rfl) (by kernel_rfl) (fun _ _ _ h => h) (Or.inl ⟨by rfl, by intro w hSw; go_simp⟩) (by assumption) ?_
    try simp only [Act.put, List.setIfInBounds_toArray, List.set_cons_zero, List.set_cons_succ]
    refine held_take (i := 9) (some 25) (.int .i64 ((m : Int) + 1)) rfl rfl (by kernel_rfl) (by kernel_rfl) (by kernel_rfl) (fun _ _ _ h => h) (Or.inl ⟨by rfl, by intro w hSw; go_simp⟩) (by assumption) ?_
    try simp only [Act.put, List.setIfInBounds_toArray, List.set_cons_zero, List.set_cons_succ]
    refine wpAnyH_ready (rs := [4]) (by kernel_rfl) (by simp) ?_
    refine AllReadyH.cons rfl (fun K hK => ?_) AllReadyH.nil
    go_simp
    refine (pick_any l n cap A v (m : Int) (by omega) (by omega) _ (HL.out.below hb0) hn HV.out).mono ?_
    rintro e w3 ⟨A3, c3, rfl, hr3, hb3⟩
    have hb4 := hb0.trans (hb3.mono hb0.size)
    have HR3 := Lib.hid hr3
    clear hb3 hr3
    refine hK.out _ _ hb4 (fun hHeld => ?_)
    clear hK K
    try simp only [Act.put, List.setIfInBounds_toArray, List.set_cons_zero, List.set_cons_succ]
    refine wpAnyH_ready (rs := [10]) (by kernel_rfl) (by simp) ?_
    refine AllReadyH.cons rfl (fun K hK => ?_) AllReadyH.nil
    go_simp
    refine (pick_any l n cap A v ((m : Int) + 1) (by omega) (by omega) _ (HL.out.below hb4) hn HV.out).mono ?_
    rintro e w5 ⟨A5, c5, rfl, hr5, hb5⟩
    have hb6 := hb4.trans (hb5.mono hb4.size)
    have HR5 := Lib.hid hr5
    have HR35 := Lib.hid (HR3.out.below hb5)
    clear hb5 hr5
    refine hK.out _ _ hb6 (fun hHeld => ?_)
    clear hK K
    try simp only [Act.put, List.setIfInBounds_toArray, List.set_cons_zero, List.set_cons_succ]
    refine held_take (i := 11) (some 7) (.slice A3 (pickK v l (m : Int)) c3) rfl rfl (by kernel_rfl) (by kernel_rfl) (by kernel_rfl) (fun _ _ _ h => h) (Or.inl ⟨by rfl, by intro w hSw; go_simp⟩) (by assumption) ?_
    try simp only [Act.put, List.setIfInBounds_toArray, List.set_cons_zero, List.set_cons_succ]
    refine held_take (i := 12) (some 8) (.slice A5 (pickK v l ((m : Int) + 1)) c5) rfl rfl (by kernel_rfl) (by kernel_rfl) (by kernel_rfl) (fun _ _ _ h => h) (Or.inl ⟨by rfl, by intro w hSw; go_simp⟩) (by assumption) ?_
    try simp only [Act.put, List.setIfInBounds_toArray, List.set_cons_zero, List.set_cons_succ]
    refine wpAnyH_done (by kernel_rfl) ?_ _
    have HB6 := Lib.hid (HB2.out.trans (hb6.mono HB2.out.size))
    have K5 := Lib.hid (K1.out.below hb6)
    have hk1 : pickK v l (m : Int) = min m (kept v l).length := by unfold pickK; omega
    have hk2 : pickK v l ((m : Int) + 1) = min (m + 1) (kept v l).length := by unfold pickK; omega
    have hp1 := picked_length v l (m : Int)
    have hsame := fun i (h : i < (picked v l (pickK v l (m : Int))).length) => picked_same (v := v) (l := l) (K1 := pickK v l (m : Int)) (K2 := pickK v l ((m : Int) + 1)) (i := i) (by omega) h
    have hnot := fun i (h : i < (picked v l (pickK v l (m : Int))).length) => picked_not (v := v) (l := l) (K := pickK v l (m : Int)) (i := i) h
    have hsort := fun i (h : i + 1 < (picked v l (pickK v l (m : Int))).length) => picked_sorted (v := v) (l := l) (K := pickK v l (m : Int)) (i := i) h
    generalize pickK v l ((m : Int) + 1) = k2 at *
    generalize pickK v l (m : Int) = k1 at *
    generalize picked v l k1 = P at *
    generalize picked v l k2 = Q at *
    generalize (kept v l).length = M at *
    have h12 : k1 ≤ k2 := by omega
    have h21 : k2 ≤ k1 + 1 := by omega
    have h1m : k1 ≤ m := by omega
    have g21 : (k2 : Int) ≤ (k1 : Int) + 1 := by omega
    have g22 : ¬ ((k1 : Int) + 1 < (k2 : Int)) := by omega
    have g23 : decide ((k1 : Int) + 1 < (k2 : Int)) = false := decide_eq_false g22
    have HP1 := Lib.hid hp1
    have HSAME := Lib.hid hsame
    have HNOT := Lib.hid hnot
    have HSORT := Lib.hid hsort
    have HR3' := Lib.hid HR35.out
    clear hb0 hb4 hb6 hHeld hk1 hk2 hp1 hsame hnot hsort HR3 HR35 K1 HL wm wm1
    go_wp2_with fail
    go_loopw [49] (fun i wr => ∃ k : Nat, k ≤ k1 ∧ i = .int .i64 (k : Int) ∧ Hid (Below w5.heap.size w5 wr)) (fun i _ => k1 - (intOf i).toNat)
    case atStart => exact ⟨0, Nat.zero_le _, rfl, Below.refl _ _⟩
    case round =>
      obtain ⟨k, hk, rfl, HW⟩ := hrel
      have hsz := HW.out.size
      by_cases hlt : k < k1
      · have hkP : k < P.length := by rw [HP1.out]; exact hlt
        obtain ⟨a3, hA3, _⟩ := HR3'.out.cell (by omega)
        obtain ⟨a5, hA5, _⟩ := HR5.out.cell (by omega)
        obtain ⟨x, hx⟩ : ∃ x, x = P[k]! := ⟨_, rfl⟩
        have hxq := HSAME.out k hkP
        have hxn : hasB v x.1.rep x.1.seq = false := by have := HNOT.out k hkP; rw [← hx] at this; exact this
        have la := load_op HR3'.out hlt HW.out hA3
        rw [← hx] at la hxq
        obtain ⟨wa, hwa⟩ : ∃ wa, wa = wr.alloc (.cells (opA x.1).toArray 54) := ⟨_, rfl⟩
        have haw : Below wr.heap.size wr wa := by rw [hwa]; exact (Below.refl _ _).alloc (Nat.le_refl _) _
        have hba : Below w5.heap.size w5 wa := HW.out.trans (haw.mono hsz)
        have HOA : Hid (OpAt wa wr.heap.size x.1) := by unfold Hid; rw [hwa]; exact OpAt.new wr x.2
        have hgr : ∀ n' os, Below w5.heap.size w5 (Go.Sort.grow (wa.drewN n') os) := fun n' os => hba.trans ((gr_grow wa n' os).below.mono hba.size)
        have v0 := fun n' os => (K5.out.below (hgr n' os)).load
        have lo := fun n' os => (HOA.out.below (gr_grow wa n' os).below).load
        have ld : ∀ n' os, (ldK 45 ⟨wr.heap.size, 0, none⟩).run Try.prog (Go.Sort.grow (wa.drewN n') os) = .ok (.agg #[.int .u8 ((x.1.rep : Nat) : Int), .int .u32 ((x.1.seq : Nat) : Int)]) (Go.Sort.grow (wa.drewN n') os) := fun n' os =>
          loadDotAt ((HOA.out.below (gr_grow wa n' os).below).cell 0) ((HOA.out.below (gr_grow wa n' os).below).cell 1)
        have lq := fun n' os => load_op HR5.out (show k < k2 by omega) (hgr n' os) hA5
        rw [hxq] at lq
        have heq := fun W => eqOpL x.1 x.1 x.2 x.2 W
        simp only [decide_true] at heq
        have qh := fun W => hasR_any v x.1.rep x.1.seq HV.out x.2.rep x.2.seq W
        rw [hxn] at qh
        have QH := Lib.hid qh
        have i0 : (0 : Int) ≤ (k : Int) := by omega
        have i1 : (k : Int) < (k1 : Int) := by omega
        have i2 : (k : Int) < (k2 : Int) := by omega
        have hmix := mix
        have HWA := Lib.hid hwa
        have HGR := Lib.hid hgr
        have HOX := Lib.hid (OpAt.new wr x.2)
        have hA3' := hA3
        have hA5' := hA5
        subst hA3' hA5'
        have HX := Lib.hid hx
        have HAW := Lib.hid haw
        have HBA := Lib.hid hba
        clear hA3 hA5 hwa hgr qh hxq hxn hx haw hba
        by_cases h0 : k = 0
        · have H00 := Lib.hid h0
          clear h0 v0 lo ld lq
          have hqq := HSAME.out k hkP
          rw [← HX.out] at hqq
          go_wp2_with (first
            | (refine store_new (w := wr) x.2 (zs := (opA zeroOp).toArray) (by rw [List.size_toArray]; exact opA_length okZero) rfl (.tmp 10) (.tmp 53) rfl rfl rfl ?_))
          rw [← HWA.out]
          have hb0 : Below wa.heap.size wa wa.drew := (Below.refl _ _).drew
          have K9 := Lib.hid (K5.out.below HBA.out)
          have HR9 := Lib.hid (HR5.out.below HBA.out)
          refine wp_region_held_drew (S := fun w' => Below wa.heap.size wa w') (by kernel_rfl) hb0 (fun hHeld => ?_)
          refine held_take (i := 0) (some 54) (.agg (vecA v)) rfl rfl (by kernel_rfl) (by kernel_rfl) (by kernel_rfl) (fun _ _ _ h => h) (yields_vecG (by rfl) (.tmp 4) rfl w.heap.size rfl v (fun W hW => K9.out.below hW)) (by assumption) ?_
          try simp only [Act.put, List.setIfInBounds_toArray, List.set_cons_zero, List.set_cons_succ]
          refine held_take (i := 1) (some 55) (.pointer (some ⟨wr.heap.size, 0, none⟩)) rfl rfl (by kernel_rfl) (by kernel_rfl) (by kernel_rfl) (fun _ _ _ h => h) (Or.inl ⟨by rfl, by intro w hSw; go_simp⟩) (by assumption) ?_
          try simp only [Act.put, List.setIfInBounds_toArray, List.set_cons_zero, List.set_cons_succ]
          refine held_take (i := 2) (some 56) (.agg #[.int .u8 ((x.1.rep : Nat) : Int), .int .u32 ((x.1.seq : Nat) : Int)]) rfl rfl (by kernel_rfl) (by kernel_rfl) (by kernel_rfl) (fun _ _ _ h => h) (yields_load 45 (by rfl) (.tmp 55) rfl ⟨wr.heap.size, 0, none⟩ rfl _ (fun W hW => loadDotAt ((HOA.out.below hW).cell 0) ((HOA.out.below hW).cell 1))) (by assumption) ?_
          try simp only [Act.put, List.setIfInBounds_toArray, List.set_cons_zero, List.set_cons_succ]
          refine wpAnyH_ready (rs := [3]) (by kernel_rfl) (by simp) ?_
          refine AllReadyH.cons rfl (fun K hK => ?_) AllReadyH.nil
          go_simp
          refine (QH.out _).mono ?_
          rintro e w8 ⟨rfl, hg8⟩
          have hb9 := hb0.trans (hg8.below.mono hb0.size)
          clear hg8
          refine hK.out _ _ hb9 (fun hHeld => ?_)
          clear hK K
          try simp only [Act.put, List.setIfInBounds_toArray, List.set_cons_zero, List.set_cons_succ]
          refine held_take (i := 4) (some 58) (.bool false) rfl rfl (by kernel_rfl) (by kernel_rfl) (by kernel_rfl) (fun _ _ _ h => h) (Or.inl ⟨by rfl, by intro w hSw; go_simp⟩) (by assumption) ?_
          try simp only [Act.put, List.setIfInBounds_toArray, List.set_cons_zero, List.set_cons_succ]
          refine held_take (i := 5) (some 59) (.slice (some a5) k2 c5) rfl rfl (by kernel_rfl) (by kernel_rfl) (by kernel_rfl) (fun _ _ _ h => h) (Or.inl ⟨by rfl, by intro w hSw; go_simp⟩) (by assumption) ?_
          try simp only [Act.put, List.setIfInBounds_toArray, List.set_cons_zero, List.set_cons_succ]
          refine held_take (i := 6) (some 60) (.int .i64 (k : Int)) rfl rfl (by kernel_rfl) (by kernel_rfl) (by kernel_rfl) (fun _ _ _ h => h) (Or.inl ⟨by rfl, by intro w hSw; go_simp⟩) (by assumption) ?_
          try simp only [Act.put, List.setIfInBounds_toArray, List.set_cons_zero, List.set_cons_succ]
          refine held_take (i := 7) (some 61) (.pointer (some (a5.add (k * 23)))) rfl rfl (by kernel_rfl) (by kernel_rfl) (by kernel_rfl) (fun _ _ _ h => h) (Or.inl ⟨by rfl, by intro w hSw; go_simp⟩) (by assumption) ?_
          try simp only [Act.put, List.setIfInBounds_toArray, List.set_cons_zero, List.set_cons_succ]
          refine held_take (i := 8) (some 62) (.agg (opA x.1).toArray) rfl rfl (by kernel_rfl) (by kernel_rfl) (by kernel_rfl) (fun _ _ _ h => h) (yields_load 54 (by rfl) (.tmp 61) rfl (a5.add (k * 23)) rfl _ (fun W hW => by have h := load_op HR9.out (show k < k2 by omega) hW rfl; rw [hqq] at h; exact h)) (by assumption) ?_
          try simp only [Act.put, List.setIfInBounds_toArray, List.set_cons_zero, List.set_cons_succ]
          refine held_take (i := 9) (some 63) (.agg (opA x.1).toArray) rfl rfl (by kernel_rfl) (by kernel_rfl) (by kernel_rfl) (fun _ _ _ h => h) (yields_load 54 (by rfl) (.tmp 10) rfl ⟨wr.heap.size, 0, none⟩ rfl _ (fun W hW => (HOA.out.below hW).load)) (by assumption) ?_
          try simp only [Act.put, List.setIfInBounds_toArray, List.set_cons_zero, List.set_cons_succ]
          refine held_take (i := 10) (some 64) (.bool false) rfl rfl (by kernel_rfl) (by kernel_rfl) (by kernel_rfl) (fun _ _ _ h => h) (Or.inl ⟨by rfl, by intro w hSw; go_simp⟩) (by assumption) ?_
          try simp only [Act.put, List.setIfInBounds_toArray, List.set_cons_zero, List.set_cons_succ]
          refine held_take (i := 11) (some 65) (.bool false) rfl rfl (by kernel_rfl) (by kernel_rfl) (by kernel_rfl) (fun _ _ _ h => h) (Or.inl ⟨by rfl, by intro w hSw; go_simp⟩) (by assumption) ?_
          try simp only [Act.put, List.setIfInBounds_toArray, List.set_cons_zero, List.set_cons_succ]
          refine held_take (i := 12) (some 66) (.bool false) rfl rfl (by kernel_rfl) (by kernel_rfl) (by kernel_rfl) (fun _ _ _ h => h) (Or.inl ⟨by rfl, by intro w hSw; go_simp⟩) (by assumption) ?_
          try simp only [Act.put, List.setIfInBounds_toArray, List.set_cons_zero, List.set_cons_succ]
          refine held_take (i := 13) (some 67) (.int .i64 (k : Int)) rfl rfl (by kernel_rfl) (by kernel_rfl) (by kernel_rfl) (fun _ _ _ h => h) (Or.inl ⟨by rfl, by intro w hSw; go_simp⟩) (by assumption) ?_
          try simp only [Act.put, List.setIfInBounds_toArray, List.set_cons_zero, List.set_cons_succ]
          refine held_take (i := 14) (some 68) (.bool false) rfl rfl (by kernel_rfl) (by kernel_rfl) (by kernel_rfl) (fun _ _ _ h => h) (Or.inl ⟨by rfl, by intro w hSw; (go_simp; first | done | exact H00.out | omega)⟩) (by assumption) ?_
          try simp only [Act.put, List.setIfInBounds_toArray, List.set_cons_zero, List.set_cons_succ]
          refine held_take (i := 15) (some 69) (.bool false) rfl rfl (by kernel_rfl) (by kernel_rfl) (by kernel_rfl) (fun _ _ _ h => h) (Or.inl ⟨by rfl, by intro w hSw; go_simp⟩) (by assumption) ?_
          try simp only [Act.put, List.setIfInBounds_toArray, List.set_cons_zero, List.set_cons_succ]
          refine held_take (i := 16) (some 70) undef rfl rfl (by kernel_rfl) (by kernel_rfl) (by kernel_rfl) (fun _ _ _ h => h) (Or.inr ⟨by rfl, rfl⟩) (by assumption) ?_
          try simp only [Act.put, List.setIfInBounds_toArray, List.set_cons_zero, List.set_cons_succ]
          refine held_take (i := 17) (some 71) undef rfl rfl (by kernel_rfl) (by kernel_rfl) (by kernel_rfl) (fun _ _ _ h => h) (Or.inr ⟨by rfl, rfl⟩) (by assumption) ?_
          try simp only [Act.put, List.setIfInBounds_toArray, List.set_cons_zero, List.set_cons_succ]
          refine held_take (i := 18) (some 72) undef rfl rfl (by kernel_rfl) (by kernel_rfl) (by kernel_rfl) (fun _ _ _ h => h) (Or.inr ⟨by rfl, rfl⟩) (by assumption) ?_
          try simp only [Act.put, List.setIfInBounds_toArray, List.set_cons_zero, List.set_cons_succ]
          refine held_take (i := 19) (some 73) undef rfl rfl (by kernel_rfl) (by kernel_rfl) (by kernel_rfl) (fun _ _ _ h => h) (Or.inr ⟨by rfl, rfl⟩) (by assumption) ?_
          try simp only [Act.put, List.setIfInBounds_toArray, List.set_cons_zero, List.set_cons_succ]
          refine held_take (i := 20) (some 74) undef rfl rfl (by kernel_rfl) (by kernel_rfl) (by kernel_rfl) (fun _ _ _ h => h) (Or.inr ⟨by rfl, rfl⟩) (by assumption) ?_
          try simp only [Act.put, List.setIfInBounds_toArray, List.set_cons_zero, List.set_cons_succ]
          refine held_take (i := 21) (some 75) undef rfl rfl (by kernel_rfl) (by kernel_rfl) (by kernel_rfl) (fun _ _ _ h => h) (Or.inr ⟨by rfl, rfl⟩) (by assumption) ?_
          try simp only [Act.put, List.setIfInBounds_toArray, List.set_cons_zero, List.set_cons_succ]
          refine held_take (i := 22) (some 76) undef rfl rfl (by kernel_rfl) (by kernel_rfl) (by kernel_rfl) (fun _ _ _ h => h) (Or.inr ⟨by rfl, rfl⟩) (by assumption) ?_
          try simp only [Act.put, List.setIfInBounds_toArray, List.set_cons_zero, List.set_cons_succ]
          refine held_take (i := 23) (some 77) (.bool false) rfl rfl (by kernel_rfl) (by kernel_rfl) (by kernel_rfl) (fun _ _ _ h => h) (Or.inl ⟨by rfl, by intro w hSw; go_simp⟩) (by assumption) ?_
          try simp only [Act.put, List.setIfInBounds_toArray, List.set_cons_zero, List.set_cons_succ]
          refine held_take (i := 24) (some 78) (.bool false) rfl rfl (by kernel_rfl) (by kernel_rfl) (by kernel_rfl) (fun _ _ _ h => h) (Or.inl ⟨by rfl, by intro w hSw; go_simp⟩) (by assumption) ?_
          try simp only [Act.put, List.setIfInBounds_toArray, List.set_cons_zero, List.set_cons_succ]
          refine wpAnyH_done (by kernel_rfl) ?_ _
          have HF := Lib.hid (HBA.out.trans (hb9.mono HBA.out.size))
          clear hb0 hb9 hHeld la heq
          go_wp2_with fail
          go_roundw
          case rel => exact ⟨k + 1, by omega, by go_num, HF.out⟩
          case measure => simp [intOf]; omega
        · obtain ⟨kp, rfl⟩ : ∃ kp, k = kp + 1 := ⟨k - 1, by omega⟩
          have hs := HSORT.out kp hkP
          obtain ⟨y, hy⟩ : ∃ y, y = P[kp]! := ⟨_, rfl⟩
          rw [← HX.out, ← hy] at hs
          have ly := fun n' os => load_op HR3'.out (show kp < k1 by omega) (HGR.out n' os) rfl
          rw [← hy] at ly
          have ql := fun W => lessR_any x.1 y.1 x.2 y.2 W
          rw [hs] at ql
          have QL := Lib.hid ql
          have j0 : (0 : Int) ≤ (kp : Int) + 1 := by omega
          have j1 : (kp : Int) + 1 < (k1 : Int) := by omega
          have j2 : (kp : Int) + 1 < (k2 : Int) := by omega
          have j3 : ((kp : Int) + 1).toNat = kp + 1 := by omega
          have j4 : (kp : Int) < (k1 : Int) := by omega
          have j5 : IntKind.i64.wrap (kp : Int) = (kp : Int) := by rw [IntKind.wrap_i64]; omega
          have j6 : (0 : Int) < (kp : Int) + 1 := by omega
          have j7 : (0 : Int) ≤ (kp : Int) := by omega
          clear hs ql h0 hy
          go_wp2_with (first
            | (refine store_new (w := wr) x.2 (zs := (opA zeroOp).toArray) (by rw [List.size_toArray]; exact opA_length okZero) rfl (.tmp 10) (.tmp 53) rfl rfl rfl ?_))
          rw [← HWA.out]
          go_quiet_grown (first | (go_at_call 20; exact grown_gr (QH.out _)) | (go_at_call 24; exact grown_gr (QL.out _)))
          have HF := Lib.hid (HGR.out nq osq)
          clear v0 lo ld lq heq ly
          go_wp2_with fail
          go_roundw
          case rel => exact ⟨kp + 1 + 1, by omega, by go_num, HF.out⟩
          case measure => simp [intOf]; omega
      · go_wp2_with fail
        go_ret
        exact ⟨rfl, HB6.out.trans (HW.out.mono HB6.out.size)⟩
  · go_enter Try.func8, Try.ntmps8
    go_wp2_with fail
    generalize w.alloc (.cells (vecA v) 24) = w1 at *
    refine (alive_any w1).mono ?_
    rintro e w2 ⟨rfl, hb2⟩
    have HB2 := Lib.hid (H0.out.trans (hb2.mono H0.out.size))
    clear hb2
    go_wp2_with fail
    go_ret
    exact ⟨rfl, HB2.out⟩
end Go.Proofs.Ytkhjmegjnglkgaa.Vc
