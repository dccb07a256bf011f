/-
  slices.symMergeCmpFunc at operations.
-/
import Derived.Test.YtkhjmegjnglkgaaRotate
import Derived.Test.YtkhjmegjnglkgaaSymQ
namespace Go.Proofs.Ytkhjmegjnglkgaa.Vc
open Go.RowKit Go.Proofs.Ytkhjmegjnglkgaa.Wd Go.Sort Go.Proofs Go.Lib Go.Proofs.Ytkhjmegjnglkgaa.Sym
set_option linter.unusedVariables false

/-- What a test of the order wants. -/
theorem cmpF {w0 w : World} {blk off : Nat} {d0 d : Array OpN} (R : RowK encO 23 w0 blk off d0) (hs : d.size = d0.size) (S : SW w0 blk off d w) (i j : Nat) (hi : i < d.size) (hj : j < d.size) :
    (∀ n os, (ldK 54 ⟨blk, off + i * 23, none⟩).run Try.prog (grow (w.drewN n) os) = .ok (.agg (encO d[i]!).toArray) (grow (w.drewN n) os)) ∧
    (∀ n os, (ldK 54 ⟨blk, off + j * 23, none⟩).run Try.prog (grow (w.drewN n) os) = .ok (.agg (encO d[j]!).toArray) (grow (w.drewN n) os)) ∧
    (∀ n os, Calls Try.prog 30 #[.agg (encO d[i]!).toArray, .agg (encO d[j]!).toArray] (grow (w.drewN n) os) fun e w' => e = .returned (.int .i64 (cf d[i]! d[j]!)) ∧ ∃ q os', w' = grow ((grow (w.drewN n) os).drewN q) os') :=
  ⟨fun n os => loadK (S.ld R hs Try.prog i hi n os), fun n os => loadK (S.ld R hs Try.prog j hj n os), fun n os => by
    have h := S.cmp (P := Try.prog) (g := 30) (cb := #[]) (cf := cf) (size := d.size) (cmpLays blk off d.size w0) rfl d[i]! d[j]! n os
    simpa using h⟩
/-- A merge in place: the part is in order, equals stand as they stood. -/
def SymPost (w0 : World) (blk off : Nat) (d : Array OpN) (a b : Nat) (e : Ending) (w' : World) : Prop := e = .returned (.tuple #[]) ∧ ∃ d', Mrg (ltOf cf) a b d d' ∧ SortedIn (ltOf cf) a b d' ∧ SW w0 blk off d' w'
theorem eg30 : ∀ args w, (callFunc 30 args).run Try.prog w = .ok (.enter 30 args) w := enters_of Try.func30 (by kernel_rfl) rfl
theorem lt_of_neg {x y : OpN} {v : Int} (h : cf x y = v) (hv : v < 0) : ltOf cf x y = true := by unfold ltOf; rw [h]; exact decide_eq_true hv
theorem nlt_of_pos {x y : OpN} {v : Int} (h : cf x y = v) (hv : ¬ v < 0) : ltOf cf x y = false := by unfold ltOf; rw [h]; exact decide_eq_false hv
attribute [local go_sem ↓] ldKx stKx
set_option maxHeartbeats 8000000 in
set_option maxRecDepth 1000000 in
theorem sym_left (hO : SWO (ltOf cf)) (blk off cap N : Nat) (hN : N < 1000000) (d0 : Array OpN) (w0 : World) (R : RowK encO 23 w0 blk off d0) (hd0 : d0.size = N) (a m b : Nat) (d : Array OpN) (w : World) (ham : a < m) (hmb : m < b) (hbN : b ≤ N) (hm : m = a + 1) (hdN : d.size = N) (S : SW w0 blk off d w)
    (sl : SortedIn (ltOf cf) a m d) (sr : SortedIn (ltOf cf) m b d) :
    Calls Try.prog 42 #[.slice (some ⟨blk, off, none⟩) N cap, .int .i64 a, .int .i64 m, .int .i64 b, .func (.func 30) #[] #[]] w (SymPost w0 blk off d a b) := by
  have HS := Lib.hid (hdN.trans hd0.symm)
  have HDN := Lib.hid hdN
  have S0 := Lib.hid S
  have SL := Lib.hid sl
  have SR := Lib.hid sr
  clear S sl sr hdN hd0
  have em : (m : Int) - (a : Int) = 1 := by omega
  have HM := Lib.hid hm
  clear hm
  go_enter Try.func42, Try.ntmps42
  go_wp2_with fail
  go_loopw [10, 11] (fun vi vj wr => ∃ (i j : Nat), m ≤ i ∧ i ≤ j ∧ j ≤ b ∧ vi = .int .i64 (i : Int) ∧ vj = .int .i64 (j : Int) ∧ Hid (SW w0 blk off d wr) ∧ Hid (∀ t, m ≤ t → t < i → ltOf cf d[t]! d[a]! = true) ∧ Hid (∀ t, j ≤ t → t < b → ltOf cf d[t]! d[a]! = false)) (fun vi vj _ => (intOf vj).toNat - (intOf vi).toNat)
  case atStart => exact ⟨m, b, Nat.le_refl _, by omega, Nat.le_refl _, rfl, rfl, S0, fun t h1 h2 => absurd h2 (by omega), fun t h1 h2 => absurd h2 (by omega)⟩
  case round =>
    obtain ⟨i, j, hi, hij, hj, rfl, rfl, S1, HLO, HHI⟩ := hrel
    clear S0
    by_cases hlt : i < j
    · obtain ⟨h, hh⟩ : ∃ h, h = (i + j) / 2 := ⟨_, rfl⟩
      have eh : ((i : Int) + (j : Int)) / 2 = (h : Int) := by omega
      have hih : i ≤ h := by omega
      have hhj : h < j := by omega
      have hsn : d.size = N := HDN.out
      obtain ⟨la, lb, hc⟩ := cmpF R HS.out S1.out h a (by omega) (by omega)
      generalize encO d[h]! = cI at la hc
      generalize encO d[a]! = cJ at lb hc
      generalize hv : cf d[h]! d[a]! = v at hc
      have HV := Lib.hid hv
      have hmix := mix
      have eg := eg30
      clear hv
      clear hh hsn
      have b1 : (h : Int) < (N : Int) := by omega
      have b2 : (a : Int) < (N : Int) := by omega
      by_cases hv0 : v < 0
      · have hd0' : decide (v < 0) = true := decide_eq_true hv0
        go_wp2_with fail
        go_quiet_grown (first | (go_at_fn 30; refine Calls.grown_of (hc _ _)) | (go_at_call 30; refine Calls.grown_of (hc _ _)) | (refine Calls.grown_of (hc _ _)))
        have S2 := Lib.hid (S1.out.grown nq osq)
        clear la lb hc eg
        generalize grow (wr.drewN nq) osq = w2 at *
        clear nq osq
        go_wp2_with fail
        go_roundw
        case rel => exact ⟨h + 1, j, by omega, by omega, hj, by go_num, rfl, S2, fun t h1 h2 => by
          have e0 := lt_of_neg HV.out hv0
          have e1 := SortedIn.le hO SR.out (i := t) (j := h) h1 (by omega) (by omega)
          exact le_lt hO e1 e0, HHI.out⟩
        case measure => simp [intOf]; omega
      · have hd0' : decide (v < 0) = false := decide_eq_false hv0
        go_wp2_with fail
        go_quiet_grown (first | (go_at_fn 30; refine Calls.grown_of (hc _ _)) | (go_at_call 30; refine Calls.grown_of (hc _ _)) | (refine Calls.grown_of (hc _ _)))
        have S2 := Lib.hid (S1.out.grown nq osq)
        clear la lb hc eg
        generalize grow (wr.drewN nq) osq = w2 at *
        clear nq osq
        go_wp2_with fail
        go_roundw
        case rel => exact ⟨i, h, hi, hih, by omega, rfl, rfl, S2, HLO.out, fun t h1 h2 => by
          have e0 := nlt_of_pos HV.out (by omega)
          have e1 := SortedIn.le hO SR.out (i := h) (j := t) (by omega) h1 h2
          exact hO.ntrans _ _ _ e1 e0⟩
        case measure => simp [intOf]; omega
    · have hji : j = i := by omega
      subst hji
      clear hlt
      go_wp2_with fail
      go_loopw [13] (fun vk wr => ∃ (k : Nat) (dk : Array OpN), a ≤ k ∧ k + 1 ≤ j ∧ vk = .int .i64 (k : Int) ∧ Hid (Sh d dk a k) ∧ Hid (Mrg (ltOf cf) a b d dk) ∧ Hid (SW w0 blk off dk wr)) (fun vk _ => j - (intOf vk).toNat)
      case atStart => exact ⟨a, d, Nat.le_refl _, by omega, rfl, Sh.start d a, Mrg.refl _ _ _, S1⟩
      case round =>
        clear S1
        obtain ⟨k, dk, hak, hkj, rfl, HSH, HMR, S1⟩ := hrel
        by_cases hk2 : k + 1 < j
        · have hk3 : (k : Int) < (j : Int) - 1 := by omega
          have hsk : dk.size = N := HMR.out.size.trans HDN.out
          obtain ⟨cI, cJ, T, hF⟩ := swapF R (HMR.out.size.trans HS.out) S1.out k (k + 1) (by omega) (by omega)
          have HSH2 := Lib.hid (HSH.out.step hak (by omega))
          have HMR2 := Lib.hid (HSH.out.mrg hO HMR.out hak hk2 hj (by rw [HDN.out]; exact hbN) (fun t h1 h2 => HLO.out t (by have := HM.out; omega) h2))
          have la := hF.la
          have lb := hF.lb
          have sa := hF.sa
          have sb := hF.sb
          have ST := Lib.hid hF.sw
          have ea : ((k : Int) + 1).toNat = k + 1 := by omega
          have pa : (0 : Int) ≤ (k : Int) + 1 := by omega
          have ba : (k : Int) + 1 < (N : Int) := by omega
          have bb : (k : Int) < (N : Int) := by omega
          have rb : IntKind.i64.wrap ((k : Int) + 1) = (k : Int) + 1 := by rw [IntKind.wrap_i64]; omega
          have hmix := mix
          clear hF S1 hsk HSH HMR
          go_wp2_with fail
          go_big_region_o
          clear la lb sa sb
          go_wp2_with fail
          go_roundw
          case rel => exact ⟨k + 1, _, by omega, by omega, by go_num, HSH2, HMR2, ST⟩
          case measure => simp [intOf]; omega
        · have hk3 : ¬ (k : Int) < (j : Int) - 1 := by omega
          have hkj2 : k = j - 1 := by omega
          go_wp2_with fail
          go_end0
          have h1 := HM.out
          subst hkj2
          have hsh := HSH.out
          subst h1
          exact ⟨rfl, dk, HMR.out, Sh.done hO hsh SR.out hi (by omega) HLO.out HHI.out, S1.out⟩
set_option maxHeartbeats 8000000 in
set_option maxRecDepth 1000000 in
theorem sym_right (hO : SWO (ltOf cf)) (blk off cap N : Nat) (hN : N < 1000000) (d0 : Array OpN) (w0 : World) (R : RowK encO 23 w0 blk off d0) (hd0 : d0.size = N) (a m b : Nat) (d : Array OpN) (w : World) (ham : a < m) (hmb : m < b) (hbN : b ≤ N) (hm : m ≠ a + 1) (hb1 : b = m + 1) (hdN : d.size = N) (S : SW w0 blk off d w)
    (sl : SortedIn (ltOf cf) a m d) (sr : SortedIn (ltOf cf) m b d) :
    Calls Try.prog 42 #[.slice (some ⟨blk, off, none⟩) N cap, .int .i64 a, .int .i64 m, .int .i64 b, .func (.func 30) #[] #[]] w (SymPost w0 blk off d a b) := by
  have HS := Lib.hid (hdN.trans hd0.symm)
  have HDN := Lib.hid hdN
  have S0 := Lib.hid S
  have SL := Lib.hid sl
  have SR := Lib.hid sr
  clear S sl sr hdN hd0
  have em : (((m : Int) - (a : Int)) == 1) = false := by rw [beq_eq_false_iff_ne]; omega
  have eb : (b : Int) - (m : Int) = 1 := by omega
  have HM := Lib.hid hb1
  clear hm hb1
  go_enter Try.func42, Try.ntmps42
  go_wp2_with fail
  go_loopw [14, 15] (fun vi vj wr => ∃ (i j : Nat), a ≤ i ∧ i ≤ j ∧ j ≤ m ∧ vi = .int .i64 (i : Int) ∧ vj = .int .i64 (j : Int) ∧ Hid (SW w0 blk off d wr) ∧ Hid (∀ t, a ≤ t → t < i → ltOf cf d[m]! d[t]! = false) ∧ Hid (∀ t, j ≤ t → t < m → ltOf cf d[m]! d[t]! = true)) (fun vi vj _ => (intOf vj).toNat - (intOf vi).toNat)
  case atStart => exact ⟨a, m, Nat.le_refl _, by omega, Nat.le_refl _, rfl, rfl, S0, fun t h1 h2 => absurd h2 (by omega), fun t h1 h2 => absurd h2 (by omega)⟩
  case round =>
    obtain ⟨i, j, hi, hij, hj, rfl, rfl, S1, HLO, HHI⟩ := hrel
    clear S0
    by_cases hlt : i < j
    · obtain ⟨h, hh⟩ : ∃ h, h = (i + j) / 2 := ⟨_, rfl⟩
      have eh : ((i : Int) + (j : Int)) / 2 = (h : Int) := by omega
      have hih : i ≤ h := by omega
      have hhj : h < j := by omega
      have hsn : d.size = N := HDN.out
      obtain ⟨la, lb, hc⟩ := cmpF R HS.out S1.out m h (by omega) (by omega)
      generalize encO d[m]! = cI at la hc
      generalize encO d[h]! = cJ at lb hc
      generalize hv : cf d[m]! d[h]! = v at hc
      have HV := Lib.hid hv
      have hmix := mix
      have eg := eg30
      clear hv
      clear hh hsn
      have b1 : (h : Int) < (N : Int) := by omega
      have b2 : (m : Int) < (N : Int) := by omega
      by_cases hv0 : v < 0
      · have hd0' : decide (v < 0) = true := decide_eq_true hv0
        go_wp2_with fail
        go_quiet_grown (first | (go_at_fn 30; refine Calls.grown_of (hc _ _)) | (go_at_call 30; refine Calls.grown_of (hc _ _)) | (refine Calls.grown_of (hc _ _)))
        have S2 := Lib.hid (S1.out.grown nq osq)
        clear la lb hc eg
        generalize grow (wr.drewN nq) osq = w2 at *
        clear nq osq
        go_wp2_with fail
        go_roundw
        case rel => exact ⟨i, h, hi, hih, by omega, rfl, rfl, S2, HLO.out, fun t h1 h2 => by
          have e0 := lt_of_neg HV.out hv0
          have e1 := SortedIn.le hO SL.out (i := h) (j := t) (by omega) h1 h2
          exact lt_le hO e0 e1⟩
        case measure => simp [intOf]; omega
      · have hd0' : decide (v < 0) = false := decide_eq_false hv0
        go_wp2_with fail
        go_quiet_grown (first | (go_at_fn 30; refine Calls.grown_of (hc _ _)) | (go_at_call 30; refine Calls.grown_of (hc _ _)) | (refine Calls.grown_of (hc _ _)))
        have S2 := Lib.hid (S1.out.grown nq osq)
        clear la lb hc eg
        generalize grow (wr.drewN nq) osq = w2 at *
        clear nq osq
        go_wp2_with fail
        go_roundw
        case rel => exact ⟨h + 1, j, by omega, by omega, hj, by go_num, rfl, S2, fun t h1 h2 => by
          have e0 := nlt_of_pos HV.out (by omega)
          have e1 := SortedIn.le hO SL.out (i := t) (j := h) h1 (by omega) (by omega)
          exact hO.ntrans _ _ _ e0 e1, HHI.out⟩
        case measure => simp [intOf]; omega
    · have hji : j = i := by omega
      subst hji
      clear hlt
      go_wp2_with fail
      go_loopw [17] (fun vk wr => ∃ (k : Nat) (dk : Array OpN), j ≤ k ∧ k ≤ m ∧ vk = .int .i64 (k : Int) ∧ Hid (ShR d dk m k) ∧ Hid (Mrg (ltOf cf) a (m + 1) d dk) ∧ Hid (SW w0 blk off dk wr)) (fun vk _ => (intOf vk).toNat)
      case atStart => exact ⟨m, d, by omega, Nat.le_refl _, rfl, ShR.start d m, Mrg.refl _ _ _, S1⟩
      case round =>
        clear S1
        obtain ⟨k, dk, hjk, hkm, rfl, HSH, HMR, S1⟩ := hrel
        by_cases hk2 : j < k
        · obtain ⟨kp, rfl⟩ : ∃ kp, k = kp + 1 := ⟨k - 1, by omega⟩
          have hk3 : (j : Int) < (kp : Int) + 1 := by omega
          have hsk : dk.size = N := HMR.out.size.trans HDN.out
          obtain ⟨cI, cJ, T, hF⟩ := swapF R (HMR.out.size.trans HS.out) S1.out (kp + 1) kp (by omega) (by omega)
          have HSH2 := Lib.hid (HSH.out.step hkm (by omega))
          have HMR2 := Lib.hid (HSH.out.mrg hO HMR.out hi (by omega) hkm (by rw [HDN.out]; omega) HHI.out)
          have la := hF.la
          have lb := hF.lb
          have sa := hF.sa
          have sb := hF.sb
          have ST := Lib.hid hF.sw
          have ea : ((kp : Int) + 1).toNat = kp + 1 := by omega
          have pa : (0 : Int) ≤ (kp : Int) + 1 := by omega
          have ba : (kp : Int) + 1 < (N : Int) := by omega
          have bb : (kp : Int) < (N : Int) := by omega
          have ra : IntKind.i64.wrap (kp : Int) = (kp : Int) := by rw [IntKind.wrap_i64]; omega
          have hmix := mix
          clear hF S1 hsk HSH HMR
          go_wp2_with fail
          go_big_region_o
          clear la lb sa sb
          go_wp2_with fail
          go_roundw
          case rel => exact ⟨kp, _, by omega, by omega, by first | rfl | go_num | (congr 1; omega), HSH2, HMR2, ST⟩
          case measure => simp [intOf]
        · have hkj2 : k = j := by omega
          subst hkj2
          go_wp2_with fail
          go_end0
          have h1 := HM.out
          subst h1
          exact ⟨rfl, dk, HMR.out, ShR.done hO HSH.out SL.out hi hj HLO.out HHI.out, S1.out⟩
end Go.Proofs.Ytkhjmegjnglkgaa.Vc
