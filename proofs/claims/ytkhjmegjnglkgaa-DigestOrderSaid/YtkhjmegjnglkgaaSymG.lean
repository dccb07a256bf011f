/-
  slices.symMergeCmpFunc at operations: the great step, and the whole.
-/
import Derived.Test.YtkhjmegjnglkgaaSymL
namespace Go.Proofs.Ytkhjmegjnglkgaa.Vc
open Go.RowKit Go.Proofs.Ytkhjmegjnglkgaa.Wd Go.Sort Go.Proofs Go.Lib Go.Proofs.Ytkhjmegjnglkgaa.Sym
set_option linter.unusedVariables false
set_option linter.unusedSimpArgs false
attribute [local go_sem ↓] ldKx stKx
/-- Behind the rotation, as a call's post. -/
def RotPost (w0 : World) (blk off : Nat) (d : Array OpN) (m mid s e : Nat) (en : Ending) (w' : World) : Prop := en = .returned (.tuple #[]) ∧ ∃ d1, Mrg (ltOf cf) s e d d1 ∧ Rtd d d1 m mid s e ∧ SW w0 blk off d1 w'
theorem rot_post (hO : SWO (ltOf cf)) (blk off cap N : Nat) (hN : N < 1000000) (d0 : Array OpN) (w0 : World) (R : RowK encO 23 w0 blk off d0) (hd0 : d0.size = N) (a m b mid s e : Nat) (d : Array OpN) (w : World) (hbN : b ≤ N) (hdN : d.size = N) (S : SW w0 blk off d w) (F : Fnd (ltOf cf) d a m b mid s e) (h1 : s < m) (h2 : m < e) (fn : Value) :
    Calls Try.prog 47 #[.slice (some ⟨blk, off, none⟩) N cap, .int .i64 s, .int .i64 m, .int .i64 e, fn] w (RotPost w0 blk off d m mid s e) := by
  have f6 := F.f6
  obtain ⟨A, U, V, B, hd, hA, hU, hV⟩ := split4 d (Nat.le_of_lt h1) (Nat.le_of_lt h2) (show e ≤ d.size by omega)
  have q := rotate_any blk off cap s m e d0 d w0 w R (hdN.trans hd0.symm) S h1 h2 (by omega) (by omega) fn A U V B hd hA hU hV
  rw [hdN] at q
  refine q.mono ?_
  rintro en w' ⟨rfl, d1, hd1, S1⟩
  have hM : Mrg (ltOf cf) s e d d1 := Mrg.rot hO hd hd1 (fun u hu v hv => by
    obtain ⟨i, hi, rfl⟩ := List.getElem_of_mem hu
    obtain ⟨j, hj, rfl⟩ := List.getElem_of_mem hv
    have e1 := Sym.get_at hd hi
    have e2 := Sym.get_after hd hj
    rw [← e1, ← e2]
    exact F.lt_ _ _ (by omega) (by omega) (by omega) (by omega)) hA.symm (by omega)
  exact ⟨rfl, d1, hM, Rtd.of_lists hd hd1 hA hU hV F.f2 F.f5 F.f7 hM, S1⟩
/-- The recursion's word. -/
def SymC (blk off cap N : Nat) (w0 : World) (L : Nat) : Prop := ∀ (a m b : Nat) (d : Array OpN) (w : World), b - a < L → a < m → m < b → b ≤ N → d.size = N → SW w0 blk off d w → SortedIn (ltOf cf) a m d → SortedIn (ltOf cf) m b d →
  Calls Try.prog 42 #[.slice (some ⟨blk, off, none⟩) N cap, .int .i64 a, .int .i64 m, .int .i64 b, .func (.func 30) #[] #[]] w (SymPost w0 blk off d a b)
theorem SymC.use {blk off cap N : Nat} {w0 : World} {L : Nat} (h : SymC blk off cap N w0 L) (a m b : Nat) (d : Array OpN) (w : World) (h1 : b - a < L) (h2 : a < m) (h3 : m < b) (h4 : b ≤ N) (h5 : d.size = N) (h6 : SW w0 blk off d w) (h7 : SortedIn (ltOf cf) a m d) (h8 : SortedIn (ltOf cf) m b d) :
  Calls Try.prog 42 #[.slice (some ⟨blk, off, none⟩) N cap, .int .i64 a, .int .i64 m, .int .i64 b, .func (.func 30) #[] #[]] w (SymPost w0 blk off d a b) := h a m b d w h1 h2 h3 h4 h5 h6 h7 h8
/-- What the two recursive calls leave. -/
theorem sym_end (hO : SWO (ltOf cf)) {w0 : World} {blk off N a m b mid s e : Nat} {d d1 d2 d3 : Array OpN} {w' : World} (hbN : b ≤ N) (hdN : d.size = N) (F : Fnd (ltOf cf) d a m b mid s e) (M1 : Mrg (ltOf cf) s e d d1) (H : Hlv (ltOf cf) d1 a mid b s e)
    (M2 : Mrg (ltOf cf) a mid d1 d2) (S2 : SortedIn (ltOf cf) a mid d2) (M3 : Mrg (ltOf cf) mid b d2 d3) (S3 : SortedIn (ltOf cf) mid b d3) (S : SW w0 blk off d3 w') : SymPost w0 blk off d a b (.returned (.tuple #[])) w' := by
  obtain ⟨f1, f2, f3, f4, f5, f6, f7, _, _⟩ := F
  have z1 := M1.size
  obtain ⟨h1, h2⟩ := whole hO H (by omega) (by omega) (by omega) M2 S2 M3 S3
  exact ⟨rfl, d3, (M1.mono f1 f6 (by omega)).trans h1, h2, S⟩
set_option maxHeartbeats 8000000 in
set_option maxRecDepth 1000000 in
theorem sym_gen (hO : SWO (ltOf cf)) (blk off cap N : Nat) (hN : N < 1000000) (d0 : Array OpN) (w0 : World) (R : RowK encO 23 w0 blk off d0) (hd0 : d0.size = N) (a m b : Nat) (d : Array OpN) (w : World) (ham : a < m) (hmb : m < b) (hbN : b ≤ N) (hm : m ≠ a + 1) (hb1 : b ≠ m + 1) (hdN : d.size = N) (S : SW w0 blk off d w)
    (sl : SortedIn (ltOf cf) a m d) (sr : SortedIn (ltOf cf) m b d) (ih : SymC blk off cap N w0 (b - a)) :
    Calls Try.prog 42 #[.slice (some ⟨blk, off, none⟩) N cap, .int .i64 a, .int .i64 m, .int .i64 b, .func (.func 30) #[] #[]] w (SymPost w0 blk off d a b) := by
  have HS := Lib.hid (hdN.trans hd0.symm)
  have HDN := Lib.hid hdN
  have S0 := Lib.hid S
  have SL := Lib.hid sl
  have SR := Lib.hid sr
  clear S sl sr hdN hd0
  have em : (((m : Int) - (a : Int)) == 1) = false := by rw [beq_eq_false_iff_ne]; omega
  have eb : (((b : Int) - (m : Int)) == 1) = false := by rw [beq_eq_false_iff_ne]; omega
  obtain ⟨mid, hmid⟩ : ∃ mid, mid = (a + b) / 2 := ⟨_, rfl⟩
  obtain ⟨n, hn⟩ : ∃ n, n = mid + m := ⟨_, rfl⟩
  obtain ⟨pp, hpp⟩ : ∃ pp, pp + 1 = n := ⟨n - 1, by omega⟩
  have emid : ((a : Int) + (b : Int)) / 2 = (mid : Int) := by omega
  have en : (mid : Int) + (m : Int) = (n : Int) := by omega
  have ep : (n : Int) - 1 = (pp : Int) := by omega
  have hG := grd d ham hmb hmid SL.out SR.out
  have hfound := fun s (h : Srch (ltOf cf) d (mid + m) (s0Of m mid b a) (r0Of m mid) s s) => found hO ham hmb hmid h hG
  have hss : s0Of m mid b a ≤ r0Of m mid := by unfold s0Of r0Of; split <;> omega
  have hst : Srch (ltOf cf) d n (s0Of m mid b a) (r0Of m mid) (s0Of m mid b a) (r0Of m mid) := Srch.start (ltOf cf) d hss
  have hs0 : (mid < m → s0Of m mid b a + b = n) ∧ (¬ mid < m → s0Of m mid b a = a) := ⟨fun h => by unfold s0Of; rw [if_pos h]; omega, fun h => by unfold s0Of; rw [if_neg h]⟩
  have hr0 : (mid < m → r0Of m mid = mid) ∧ (¬ mid < m → r0Of m mid = m) := ⟨fun h => by unfold r0Of; rw [if_pos h], fun h => by unfold r0Of; rw [if_neg h]⟩
  have hg1 := hG.g1
  have hg2 := hG.g2
  have hg3 : ∀ c, s0Of m mid b a ≤ c → c < r0Of m mid → c < n ∧ n - 1 - c < b := fun c h1 h2 => by
    obtain ⟨x1, x2, x3⟩ := hG.g3 c h1 h2
    omega
  rw [← hn] at hG hfound
  have hamid : a < mid := by omega
  have hmidb : mid < b := by omega
  generalize s0Of m mid b a = s0 at *
  generalize r0Of m mid = r0 at *
  have HN3 := Lib.hid hn
  have HG := Lib.hid hG
  have HG3 := Lib.hid hg3
  have HFD := Lib.hid hfound
  have HST := Lib.hid hst
  have HPP := Lib.hid hpp
  have IH := Lib.hid ih
  have HS0 := Lib.hid hs0
  have HR0 := Lib.hid hr0
  have hn1 : n ≤ 2000000 := by omega
  clear hG hfound hst hn hpp hmid ih hm hb1 hs0 hr0 hg3
  by_cases hmm : mid < m
  all_goals
    try have es : (n : Int) - (b : Int) = (s0 : Int) := by have := HS0.out.1 hmm; omega
    go_enter Try.func42, Try.ntmps42
    go_wp2_with fail
    go_loopw [20, 21] (fun vs vr wr => ∃ (s r : Nat), s0 ≤ s ∧ s ≤ r ∧ r ≤ r0 ∧ vs = .int .i64 (s : Int) ∧ vr = .int .i64 (r : Int) ∧ Hid (Srch (ltOf cf) d n s0 r0 s r) ∧ Hid (SW w0 blk off d wr)) (fun vs vr _ => (intOf vr).toNat - (intOf vs).toNat)
    case atStart =>
      first
        | (exact ⟨s0, r0, Nat.le_refl _, hss, Nat.le_refl _, rfl, by rw [HR0.out.1 hmm], HST, S0⟩)
        | (exact ⟨s0, r0, Nat.le_refl _, hss, Nat.le_refl _, by rw [HS0.out.2 hmm], by rw [HR0.out.2 hmm], HST, S0⟩)
    case round =>
      obtain ⟨s, r, hss0, hsr, hrr, rfl, rfl, HSR, S1⟩ := hrel
      clear S0 HST
      by_cases hlt : s < r
      · obtain ⟨c, hc0⟩ : ∃ c, c = (s + r) / 2 := ⟨_, rfl⟩
        have ec : ((s : Int) + (r : Int)) / 2 = (c : Int) := by omega
        have hsc : s ≤ c := by omega
        have hcr : c < r := by omega
        obtain ⟨g1, g2⟩ := HG3.out c (by omega) (by omega)
        obtain ⟨q, hq⟩ : ∃ q, q = n - 1 - c := ⟨_, rfl⟩
        have eq : (pp : Int) - (c : Int) = (q : Int) := by have := HPP.out; omega
        have hsn : d.size = N := HDN.out
        have hqb : q < b := by omega
        obtain ⟨la, lb, hc⟩ := cmpF R HS.out S1.out q c (by omega) (by omega)
        generalize encO d[q]! = cI at la hc
        generalize encO d[c]! = cJ at lb hc
        generalize hv : cf d[q]! d[c]! = v at hc
        have HV := Lib.hid hv
        have hmix := mix
        have eg := eg30
        clear hv
        have HQ := Lib.hid hq
        clear hc0 hsn hq g1 g2
        have b1 : (c : Int) < (N : Int) := by omega
        have b2 : (q : Int) < (N : Int) := by omega
        have wq1 : IntKind.i64.wrap ((pp : Int) - (c : Int)) = (q : Int) := by rw [eq, IntKind.wrap_i64]; omega
        have wq2 : IntKind.i64.wrap (q : Int) = (q : Int) := by rw [IntKind.wrap_i64]; omega
        have wq3 : wrap64 (q : Int) = (q : Int) := by unfold wrap64; omega
        by_cases hv0 : v < 0
        · have hd0' : decide (v < 0) = true := decide_eq_true hv0
          go_wp2_with fail
          go_quiet_grown (first | (go_at_fn 30; refine Calls.grown_of (hc _ _)) | (go_at_call 30; refine Calls.grown_of (hc _ _)) | (refine Calls.grown_of (hc _ _)))
          have S2 := Lib.hid (S1.out.grown nq osq)
          clear la lb hc eg
          generalize grow (wr.drewN nq) osq = w2 at *
          clear nq osq
          go_wp2_with fail
          go_roundw
          case rel => exact ⟨s, c, hss0, hsc, by omega, rfl, rfl, HSR.out.yes hO HG.out hsc hcr (by have e0 := lt_of_neg HV.out hv0; rw [HQ.out] at e0; exact e0), S2⟩
          case measure => simp [intOf]; omega
        · have hd0' : decide (v < 0) = false := decide_eq_false hv0
          go_wp2_with fail
          go_quiet_grown (first | (go_at_fn 30; refine Calls.grown_of (hc _ _)) | (go_at_call 30; refine Calls.grown_of (hc _ _)) | (refine Calls.grown_of (hc _ _)))
          have S2 := Lib.hid (S1.out.grown nq osq)
          clear la lb hc eg
          generalize grow (wr.drewN nq) osq = w2 at *
          clear nq osq
          go_wp2_with fail
          go_roundw
          case rel => exact ⟨c + 1, r, by omega, by omega, hrr, by go_num, rfl, HSR.out.no hO HG.out hsc hcr (by have e0 := nlt_of_pos HV.out (by omega); rw [HQ.out] at e0; exact e0), S2⟩
          case measure => simp [intOf]; omega
      · have hrs : r = s := by omega
        subst hrs
        have hF := HFD.out r HSR.out
        have f7 : n = mid + m := HN3.out
        obtain ⟨e, he⟩ : ∃ e, e = n - r := ⟨_, rfl⟩
        rw [← he] at hF
        have ee : (n : Int) - (r : Int) = (e : Int) := by have := hF.f2; omega
        have f1 := hF.f1; have f2 := hF.f2; have f3 := hF.f3; have f4 := hF.f4; have f5 := hF.f5; have f6 := hF.f6
        have f8 : r + e = mid + m := hF.f7
        have hsm : s0 ≤ r := hss0
        have HF := Lib.hid hF
        clear hF he f7 hlt hsr hrr hss0 HSR hss hg1 hg2 ep
        have QR := Lib.hid (rot_post hO blk off cap N hN d0 w0 R (HDN.out.symm.trans HS.out |>.symm) a m b mid r e d wr hbN HDN.out S1.out HF.out)
        have cases7 : (r < m ∧ m < e ∧ a < r ∧ r < mid ∧ mid < e ∧ e < b) ∨ (r < m ∧ m < e ∧ a < r ∧ r < mid ∧ mid < e ∧ ¬ e < b) ∨ (r < m ∧ m < e ∧ ¬ a < r ∧ r < mid ∧ mid < e ∧ e < b) ∨ (r < m ∧ m < e ∧ ¬ a < r ∧ r < mid ∧ mid < e ∧ ¬ e < b) ∨
            (¬ r < m ∧ a < r ∧ r < mid ∧ ¬ mid < e) ∨ (¬ r < m ∧ a < r ∧ ¬ r < mid ∧ ¬ mid < e) ∨ (r < m ∧ ¬ m < e ∧ a < r ∧ ¬ r < mid ∧ mid < e ∧ e < b) := by omega
        rcases cases7 with ⟨k1, k2, k3, k4, k5, k6⟩ | ⟨k1, k2, k3, k4, k5, k6⟩ | ⟨k1, k2, k3, k4, k5, k6⟩ | ⟨k1, k2, k3, k4, k5, k6⟩ | ⟨k1, k2, k3, k4⟩ | ⟨k1, k2, k3, k4⟩ | ⟨k1, k2, k3, k4, k5, k6⟩
        · go_wp2_with fail
          ((with_reducible refine (QR.out k1 k2 _).mono ?_))
          rintro en2 w1 ⟨rfl, d1, m1, r1, s1⟩
          have hH := halves hO SL.out SR.out HF.out r1
          have HH := Lib.hid hH
          have M1 := Lib.hid m1
          have SS1 := Lib.hid s1
          clear m1 r1 s1 hH
          go_wp2_with fail
          ((with_reducible refine (IH.out.use a r mid d1 w1 (by omega) (by omega) (by omega) (by omega) (M1.out.size.trans HDN.out) SS1.out HH.out.s1 HH.out.s2).mono ?_))
          rintro en3 w2 ⟨rfl, d2, m2, t2, s2⟩
          have M2 := Lib.hid m2
          have T2 := Lib.hid t2
          have SS2 := Lib.hid s2
          clear m2 t2 s2
          go_wp2_with fail
          ((with_reducible refine (IH.out.use mid e b d2 w2 (by omega) (by omega) (by omega) hbN (M2.out.size.trans (M1.out.size.trans HDN.out)) SS2.out (SortedIn.same HH.out.s3 (fun i i1 i2 => M2.out.out (.inr i1))) (SortedIn.same HH.out.s4 (fun i i1 i2 => M2.out.out (.inr (by omega))))).mono ?_))
          rintro en4 w3 ⟨rfl, d3, m3, t3, s3⟩
          have M3 := Lib.hid m3
          have T3 := Lib.hid t3
          have SS3 := Lib.hid s3
          clear m3 t3 s3
          go_wp2_with fail
          go_end0
          exact sym_end hO hbN HDN.out HF.out M1.out HH.out M2.out T2.out M3.out T3.out SS3.out
        · go_wp2_with fail
          ((with_reducible refine (QR.out k1 k2 _).mono ?_))
          rintro en2 w1 ⟨rfl, d1, m1, r1, s1⟩
          have hH := halves hO SL.out SR.out HF.out r1
          have HH := Lib.hid hH
          have M1 := Lib.hid m1
          have SS1 := Lib.hid s1
          clear m1 r1 s1 hH
          go_wp2_with fail
          ((with_reducible refine (IH.out.use a r mid d1 w1 (by omega) (by omega) (by omega) (by omega) (M1.out.size.trans HDN.out) SS1.out HH.out.s1 HH.out.s2).mono ?_))
          rintro en3 w2 ⟨rfl, d2, m2, t2, s2⟩
          have M2 := Lib.hid m2
          have T2 := Lib.hid t2
          have SS2 := Lib.hid s2
          clear m2 t2 s2
          have m3 : Mrg (ltOf cf) mid b d2 d2 := Mrg.refl _ _ _
          have t3 : SortedIn (ltOf cf) mid b d2 := SortedIn.same (by first | (have h := HH.out.s3; rw [show e = b by omega] at h; exact h) | (have h := HH.out.s4; rw [show e = mid by omega] at h; exact h)) (fun i i1 i2 => M2.out.out (.inr i1))
          have s3 := SS2.out
          have M3 := Lib.hid m3
          have T3 := Lib.hid t3
          have SS3 := Lib.hid s3
          clear m3 t3 s3
          go_wp2_with fail
          go_end0
          exact sym_end hO hbN HDN.out HF.out M1.out HH.out M2.out T2.out M3.out T3.out SS3.out
        · go_wp2_with fail
          ((with_reducible refine (QR.out k1 k2 _).mono ?_))
          rintro en2 w1 ⟨rfl, d1, m1, r1, s1⟩
          have hH := halves hO SL.out SR.out HF.out r1
          have HH := Lib.hid hH
          have M1 := Lib.hid m1
          have SS1 := Lib.hid s1
          clear m1 r1 s1 hH
          have m2 : Mrg (ltOf cf) a mid d1 d1 := Mrg.refl _ _ _
          have t2 : SortedIn (ltOf cf) a mid d1 := by first | (have h := HH.out.s2; rw [show r = a by omega] at h; exact h) | (have h := HH.out.s1; rw [show r = mid by omega] at h; exact h)
          have s2 := SS1.out
          have M2 := Lib.hid m2
          have T2 := Lib.hid t2
          have SS2 := Lib.hid s2
          clear m2 t2 s2
          go_wp2_with fail
          ((with_reducible refine (IH.out.use mid e b d1 w1 (by omega) (by omega) (by omega) hbN (M2.out.size.trans (M1.out.size.trans HDN.out)) SS2.out (SortedIn.same HH.out.s3 (fun i i1 i2 => M2.out.out (.inr i1))) (SortedIn.same HH.out.s4 (fun i i1 i2 => M2.out.out (.inr (by omega))))).mono ?_))
          rintro en4 w3 ⟨rfl, d3, m3, t3, s3⟩
          have M3 := Lib.hid m3
          have T3 := Lib.hid t3
          have SS3 := Lib.hid s3
          clear m3 t3 s3
          go_wp2_with fail
          go_end0
          exact sym_end hO hbN HDN.out HF.out M1.out HH.out M2.out T2.out M3.out T3.out SS3.out
        · go_wp2_with fail
          ((with_reducible refine (QR.out k1 k2 _).mono ?_))
          rintro en2 w1 ⟨rfl, d1, m1, r1, s1⟩
          have hH := halves hO SL.out SR.out HF.out r1
          have HH := Lib.hid hH
          have M1 := Lib.hid m1
          have SS1 := Lib.hid s1
          clear m1 r1 s1 hH
          have m2 : Mrg (ltOf cf) a mid d1 d1 := Mrg.refl _ _ _
          have t2 : SortedIn (ltOf cf) a mid d1 := by first | (have h := HH.out.s2; rw [show r = a by omega] at h; exact h) | (have h := HH.out.s1; rw [show r = mid by omega] at h; exact h)
          have s2 := SS1.out
          have M2 := Lib.hid m2
          have T2 := Lib.hid t2
          have SS2 := Lib.hid s2
          clear m2 t2 s2
          have m3 : Mrg (ltOf cf) mid b d1 d1 := Mrg.refl _ _ _
          have t3 : SortedIn (ltOf cf) mid b d1 := SortedIn.same (by first | (have h := HH.out.s3; rw [show e = b by omega] at h; exact h) | (have h := HH.out.s4; rw [show e = mid by omega] at h; exact h)) (fun i i1 i2 => M2.out.out (.inr i1))
          have s3 := SS2.out
          have M3 := Lib.hid m3
          have T3 := Lib.hid t3
          have SS3 := Lib.hid s3
          clear m3 t3 s3
          go_wp2_with fail
          go_end0
          exact sym_end hO hbN HDN.out HF.out M1.out HH.out M2.out T2.out M3.out T3.out SS3.out
        · go_wp2_with fail
          have m1 : Mrg (ltOf cf) r e d d := Mrg.refl _ _ _
          have r1 := Rtd.none_ HF.out (show ¬ (r < m ∧ m < e) by omega)
          have s1 := S1.out
          have hH := halves hO SL.out SR.out HF.out r1
          have HH := Lib.hid hH
          have M1 := Lib.hid m1
          have SS1 := Lib.hid s1
          clear m1 r1 s1 hH
          ((with_reducible refine (IH.out.use a r mid d wr (by omega) (by omega) (by omega) (by omega) (M1.out.size.trans HDN.out) SS1.out HH.out.s1 HH.out.s2).mono ?_))
          rintro en3 w2 ⟨rfl, d2, m2, t2, s2⟩
          have M2 := Lib.hid m2
          have T2 := Lib.hid t2
          have SS2 := Lib.hid s2
          clear m2 t2 s2
          have m3 : Mrg (ltOf cf) mid b d2 d2 := Mrg.refl _ _ _
          have t3 : SortedIn (ltOf cf) mid b d2 := SortedIn.same (by first | (have h := HH.out.s3; rw [show e = b by omega] at h; exact h) | (have h := HH.out.s4; rw [show e = mid by omega] at h; exact h)) (fun i i1 i2 => M2.out.out (.inr i1))
          have s3 := SS2.out
          have M3 := Lib.hid m3
          have T3 := Lib.hid t3
          have SS3 := Lib.hid s3
          clear m3 t3 s3
          go_wp2_with fail
          go_end0
          exact sym_end hO hbN HDN.out HF.out M1.out HH.out M2.out T2.out M3.out T3.out SS3.out
        · go_wp2_with fail
          have m1 : Mrg (ltOf cf) r e d d := Mrg.refl _ _ _
          have r1 := Rtd.none_ HF.out (show ¬ (r < m ∧ m < e) by omega)
          have s1 := S1.out
          have hH := halves hO SL.out SR.out HF.out r1
          have HH := Lib.hid hH
          have M1 := Lib.hid m1
          have SS1 := Lib.hid s1
          clear m1 r1 s1 hH
          have m2 : Mrg (ltOf cf) a mid d d := Mrg.refl _ _ _
          have t2 : SortedIn (ltOf cf) a mid d := by first | (have h := HH.out.s2; rw [show r = a by omega] at h; exact h) | (have h := HH.out.s1; rw [show r = mid by omega] at h; exact h)
          have s2 := SS1.out
          have M2 := Lib.hid m2
          have T2 := Lib.hid t2
          have SS2 := Lib.hid s2
          clear m2 t2 s2
          have m3 : Mrg (ltOf cf) mid b d d := Mrg.refl _ _ _
          have t3 : SortedIn (ltOf cf) mid b d := SortedIn.same (by first | (have h := HH.out.s3; rw [show e = b by omega] at h; exact h) | (have h := HH.out.s4; rw [show e = mid by omega] at h; exact h)) (fun i i1 i2 => M2.out.out (.inr i1))
          have s3 := SS2.out
          have M3 := Lib.hid m3
          have T3 := Lib.hid t3
          have SS3 := Lib.hid s3
          clear m3 t3 s3
          go_end0
          exact sym_end hO hbN HDN.out HF.out M1.out HH.out M2.out T2.out M3.out T3.out SS3.out
        · go_wp2_with fail
          have m1 : Mrg (ltOf cf) r e d d := Mrg.refl _ _ _
          have r1 := Rtd.none_ HF.out (show ¬ (r < m ∧ m < e) by omega)
          have s1 := S1.out
          have hH := halves hO SL.out SR.out HF.out r1
          have HH := Lib.hid hH
          have M1 := Lib.hid m1
          have SS1 := Lib.hid s1
          clear m1 r1 s1 hH
          have m2 : Mrg (ltOf cf) a mid d d := Mrg.refl _ _ _
          have t2 : SortedIn (ltOf cf) a mid d := by first | (have h := HH.out.s2; rw [show r = a by omega] at h; exact h) | (have h := HH.out.s1; rw [show r = mid by omega] at h; exact h)
          have s2 := SS1.out
          have M2 := Lib.hid m2
          have T2 := Lib.hid t2
          have SS2 := Lib.hid s2
          clear m2 t2 s2
          ((with_reducible refine (IH.out.use mid e b d wr (by omega) (by omega) (by omega) hbN (M2.out.size.trans (M1.out.size.trans HDN.out)) SS2.out (SortedIn.same HH.out.s3 (fun i i1 i2 => M2.out.out (.inr i1))) (SortedIn.same HH.out.s4 (fun i i1 i2 => M2.out.out (.inr (by omega))))).mono ?_))
          rintro en4 w3 ⟨rfl, d3, m3, t3, s3⟩
          have M3 := Lib.hid m3
          have T3 := Lib.hid t3
          have SS3 := Lib.hid s3
          clear m3 t3 s3
          go_wp2_with fail
          go_end0
          exact sym_end hO hbN HDN.out HF.out M1.out HH.out M2.out T2.out M3.out T3.out SS3.out

/-- slices.symMergeCmpFunc: two runs in order become one. -/
theorem sym_any (hO : SWO (ltOf cf)) (blk off cap N : Nat) (hN : N < 1000000) (d0 : Array OpN) (w0 : World) (R : RowK encO 23 w0 blk off d0) (hd0 : d0.size = N) : ∀ L, SymC blk off cap N w0 L
  | 0, a, m, b, d, w, hL, _, _, _, _, _, _, _ => absurd hL (Nat.not_lt_zero _)
  | L + 1, a, m, b, d, w, hL, ham, hmb, hbN, hdN, S, sl, sr => by
    by_cases h1 : m = a + 1
    · exact sym_left hO blk off cap N hN d0 w0 R hd0 a m b d w ham hmb hbN h1 hdN S sl sr
    · by_cases h2 : b = m + 1
      · exact sym_right hO blk off cap N hN d0 w0 R hd0 a m b d w ham hmb hbN h1 h2 hdN S sl sr
      · exact sym_gen hO blk off cap N hN d0 w0 R hd0 a m b d w ham hmb hbN h1 h2 hdN S sl sr (fun a' m' b' d' w' h => sym_any hO blk off cap N hN d0 w0 R hd0 L a' m' b' d' w' (by omega))
end Go.Proofs.Ytkhjmegjnglkgaa.Vc
