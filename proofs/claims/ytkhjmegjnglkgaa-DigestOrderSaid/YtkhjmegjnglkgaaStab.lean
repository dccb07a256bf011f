/-
  slices.stableCmpFunc and slices.SortStableFunc at operations.
-/
import Derived.Test.YtkhjmegjnglkgaaSymG
namespace Go.Proofs.Ytkhjmegjnglkgaa.Sym
open Go.Sort
set_option linter.unusedVariables false
variable {α : Type} [Inhabited α] {lt : α → α → Bool}
/-- The runs of s elements that begin below 'top' are in order. -/
def RunsTo (lt : α → α → Bool) (d : Array α) (s top N : Nat) : Prop := ∀ c, s ∣ c → c < top → SortedIn lt c (min (c + s) N) d
def RunsFrom (lt : α → α → Bool) (d : Array α) (s fr N : Nat) : Prop := ∀ c, s ∣ c → fr ≤ c → SortedIn lt c (min (c + s) N) d
omit [Inhabited α] in
theorem dvd_step {s c a : Nat} (hc : s ∣ c) (ha : s ∣ a) (h : c < a) : c + s ≤ a := by
  have := Nat.le_of_dvd (by omega) (Nat.dvd_sub ha hc)
  omega
theorem RunsTo.zero (d : Array α) (s N : Nat) : RunsTo lt d s 0 N := fun c _ h => absurd h (Nat.not_lt_zero _)
theorem RunsTo.step {d e : Array α} {s a b N : Nat} (h : RunsTo lt d s a N) (ha : s ∣ a) (hM : Mrg lt a b d e) (hs : SortedIn lt a b e) (hb : b = min (a + s) N) : RunsTo lt e s (a + s) N := fun c hc h1 => by
  by_cases h2 : c < a
  · have h3 := dvd_step hc ha h2
    exact SortedIn.same (h c hc h2) (fun i _ i2 => hM.out (.inl (by omega)))
  · by_cases h3 : c = a
    · subst h3
      rw [← hb]
      exact hs
    · have := dvd_step ha hc (by omega)
      omega
theorem RunsFrom.step {d e : Array α} {s a b a' N : Nat} (h : RunsFrom lt d s a N) (hM : Mrg lt a b d e) (h1 : a ≤ a') (h2 : b ≤ a') : RunsFrom lt e s a' N := fun c hc h3 =>
  SortedIn.same (h c hc (by omega)) (fun i i1 _ => hM.out (.inr (by omega)))
theorem RunsTo.all {d : Array α} {s top N : Nat} (h : RunsTo lt d s top N) (hN : N ≤ top) : RunsFrom lt d s 0 N := fun c hc _ => by
  by_cases h1 : c < top
  · exact h c hc h1
  · intro i j i1 ij j2
    omega
end Go.Proofs.Ytkhjmegjnglkgaa.Sym
namespace Go.Proofs.Ytkhjmegjnglkgaa.Vc
open Go.RowKit Go.Proofs.Ytkhjmegjnglkgaa.Wd Go.Sort Go.Proofs Go.Lib Go.Proofs.Ytkhjmegjnglkgaa.Sym
set_option linter.unusedVariables false
theorem ins_sw (hO : SWO (ltOf cf)) (blk cap N : Nat) (hN : N < 1000000) (d0 : Array OpN) (w0 : World) (R : RowK encO 23 w0 blk 0 d0) (hd0 : d0.size = N) (a b : Nat) (d : Array OpN) (w : World) (hab : a ≤ b) (hbN : b ≤ N) (hdN : d.size = N) (S : SW w0 blk 0 d w) :
    Calls Try.prog 41 #[.slice (some ⟨blk, 0, none⟩) N cap, .int .i64 a, .int .i64 b, .func (.func 30) #[] #[]] w (SymPost w0 blk 0 d a b) := by
  have q := ins_any blk cap a b d w (S.holds R.hblk R.hH (hdN.trans hd0.symm)) (S.lt R.hblk) hab (by omega) (by omega)
  rw [hdN] at q
  refine q.mono ?_
  rintro e w' ⟨rfl, n, os, rfl⟩
  obtain ⟨h1, h2⟩ := ins_mrg hO d a b hab (by omega)
  exact ⟨rfl, _, h1, h2, S.on R.hblk n _ os h1.size⟩

set_option maxHeartbeats 4000000 in
set_option maxRecDepth 1000000 in
theorem stable_any (hO : SWO (ltOf cf)) (blk cap N : Nat) (hN : N < 1000000) (d : Array OpN) (w : World) (R : RowK encO 23 w blk 0 d) (hd0 : d.size = N) :
    Calls Try.prog 35 #[.slice (some ⟨blk, 0, none⟩) N cap, .int .i64 (N : Int), .func (.func 30) #[] #[]] w (SymPost w blk 0 d 0 N) := by
  have S0 := Lib.hid (SWK.start (w0 := w) R.hH)
  have HD := Lib.hid hd0
  have QI := Lib.hid (fun a b e W h1 h2 h3 (S : SW w blk 0 e W) => ins_sw hO blk cap N hN d w R hd0 a b e W h1 h2 h3 S)
  have QS := Lib.hid (fun a m b e W h2 h3 h4 h5 (h6 : SW w blk 0 e W) h7 h8 => (sym_any hO blk 0 cap N hN d w R hd0 (b - a + 1)).use a m b e W (Nat.lt_succ_self _) h2 h3 h4 h5 h6 h7 h8)
  clear hd0
  go_enter Try.func35, Try.ntmps35
  go_wp2_with fail
  go_loopw [7, 8] (fun va vb wr => ∃ (a : Nat) (dk : Array OpN), a ≤ N ∧ va = .int .i64 (a : Int) ∧ vb = .int .i64 ((a : Int) + 20) ∧ Hid (20 ∣ a) ∧ Hid (Mrg (ltOf cf) 0 N d dk) ∧ Hid (RunsTo (ltOf cf) dk 20 a N) ∧ Hid (SW w blk 0 dk wr)) (fun va _ _ => N - (intOf va).toNat)
  case atStart => exact ⟨0, d, Nat.zero_le _, rfl, rfl, Nat.dvd_zero _, Mrg.refl _ _ _, RunsTo.zero _ _ _, S0⟩
  case round =>
    obtain ⟨a, dk, ha, rfl, rfl, HDV, HM, HR, S1⟩ := hrel
    clear S0
    by_cases hlt : a + 20 ≤ N
    · have hlt2 : (a : Int) + 20 ≤ (N : Int) := by omega
      have q := QI.out a (a + 20) dk wr (by omega) hlt (HM.out.size.trans HD.out) S1.out
      rw [show ((a + 20 : Nat) : Int) = (a : Int) + 20 by omega] at q
      have Q := Lib.hid q
      clear q
      go_wp2_with fail
      ((with_reducible refine Q.out.mono ?_))
      rintro e w2 ⟨rfl, dn, m1, t1, s1⟩
      have HM2 := Lib.hid (HM.out.trans (m1.mono (Nat.zero_le _) hlt (by rw [HM.out.size, HD.out]; exact Nat.le_refl _)))
      have HR2 := Lib.hid (HR.out.step HDV.out m1 t1 (by omega))
      have S2 := Lib.hid s1
      clear m1 t1 s1
      go_wp2_with fail
      go_roundw
      case rel => exact ⟨a + 20, dn, hlt, by go_num, by first | rfl | go_num | (congr 1; omega), Nat.dvd_add HDV.out (Nat.dvd_refl _), HM2, HR2, S2⟩
      case measure => simp [intOf]; omega
    · have hlt2 : ¬ (a : Int) + 20 ≤ (N : Int) := by omega
      have Q := Lib.hid (QI.out a N dk wr ha (Nat.le_refl _) (HM.out.size.trans HD.out) S1.out)
      go_wp2_with fail
      ((with_reducible refine Q.out.mono ?_))
      rintro e w2 ⟨rfl, dn, m1, t1, s1⟩
      have HM2 := Lib.hid (HM.out.trans (m1.mono (Nat.zero_le _) (Nat.le_refl _) (by rw [HM.out.size, HD.out]; exact Nat.le_refl _)))
      have HR2 := Lib.hid ((HR.out.step HDV.out m1 t1 (by omega)).all (by omega))
      have S2 := Lib.hid s1
      clear m1 t1 s1 HM HR S1 Q hlt hlt2
      go_wp2_with fail
      go_loopw [6, 7, 8, 9] (fun vs _ _ _ wr => ∃ (s : Nat) (dk : Array OpN), 0 < s ∧ s ≤ 2000000 ∧ vs = .int .i64 (s : Int) ∧ Hid (Mrg (ltOf cf) 0 N d dk) ∧ Hid (RunsFrom (ltOf cf) dk s 0 N) ∧ Hid (SW w blk 0 dk wr)) (fun vs _ _ _ _ => N - (intOf vs).toNat)
      case atStart => exact ⟨20, dn, by omega, by omega, rfl, HM2, HR2, S2⟩
      case round =>
        clear HM2 HR2 S2 HDV ha
        obtain ⟨s, dk, hs0, hs1, rfl, HM, HR, S1⟩ := hrel
        by_cases hlt : s < N
        · go_wp2_with fail
          go_loopw [7, 8] (fun va vb wr => ∃ (a : Nat) (dk : Array OpN), a ≤ N ∧ va = .int .i64 (a : Int) ∧ vb = .int .i64 ((a : Int) + 2 * (s : Int)) ∧ Hid (2 * s ∣ a) ∧ Hid (Mrg (ltOf cf) 0 N d dk) ∧ Hid (RunsTo (ltOf cf) dk (2 * s) a N) ∧ Hid (RunsFrom (ltOf cf) dk s a N) ∧ Hid (SW w blk 0 dk wr)) (fun va _ _ => N - (intOf va).toNat)
          case atStart => exact ⟨0, dk, Nat.zero_le _, rfl, by simp, Nat.dvd_zero _, HM, RunsTo.zero _ _ _, HR, S1⟩
          case round =>
            clear HM HR S1
            obtain ⟨a, dk, ha, rfl, rfl, HDV, HM, HT, HF, S1⟩ := hrel
            have hda : s ∣ a := Nat.dvd_trans (Nat.dvd_mul_left s 2) HDV.out
            have HDA := Lib.hid hda
            clear hda
            by_cases hlt3 : a + 2 * s ≤ N
            · have hlt2 : (a : Int) + 2 * (s : Int) ≤ (N : Int) := by omega
              have t1 := HF.out a HDA.out (Nat.le_refl _)
              have t2 := HF.out (a + s) (Nat.dvd_add HDA.out (Nat.dvd_refl _)) (by omega)
              rw [show min (a + s) N = a + s by omega] at t1
              rw [show min (a + s + s) N = a + 2 * s by omega] at t2
              have q := QS.out a (a + s) (a + 2 * s) dk wr (by omega) (by omega) hlt3 (HM.out.size.trans HD.out) S1.out t1 t2
              rw [show ((a + s : Nat) : Int) = (a : Int) + (s : Int) by omega, show ((a + 2 * s : Nat) : Int) = (a : Int) + 2 * (s : Int) by omega] at q
              have Q := Lib.hid q
              clear q t1 t2
              go_wp2_with fail
              ((with_reducible refine Q.out.mono ?_))
              rintro e w2 ⟨rfl, dn, m1, t1, s1⟩
              have HM2 := Lib.hid (HM.out.trans (m1.mono (Nat.zero_le _) hlt3 (by rw [HM.out.size, HD.out]; exact Nat.le_refl _)))
              have HT2 := Lib.hid (HT.out.step HDV.out m1 t1 (by omega))
              have HF2 := Lib.hid (HF.out.step m1 (a' := a + 2 * s) (by omega) (Nat.le_refl _))
              have S2 := Lib.hid s1
              clear m1 t1 s1
              go_wp2_with fail
              go_roundw
              case rel => exact ⟨a + 2 * s, dn, hlt3, by first | rfl | go_num | (congr 1; omega), by first | rfl | go_num | (congr 1; omega), Nat.dvd_add HDV.out (Nat.dvd_refl _), HM2, HT2, HF2, S2⟩
              case measure => simp [intOf]; omega
            · have hlt2 : ¬ (a : Int) + 2 * (s : Int) ≤ (N : Int) := by omega
              by_cases hm : a + s < N
              · have hm2 : (a : Int) + (s : Int) < (N : Int) := by omega
                have t1 := HF.out a HDA.out (Nat.le_refl _)
                have t2 := HF.out (a + s) (Nat.dvd_add HDA.out (Nat.dvd_refl _)) (by omega)
                rw [show min (a + s) N = a + s by omega] at t1
                rw [show min (a + s + s) N = N by omega] at t2
                have q := QS.out a (a + s) N dk wr (by omega) hm (Nat.le_refl _) (HM.out.size.trans HD.out) S1.out t1 t2
                rw [show ((a + s : Nat) : Int) = (a : Int) + (s : Int) by omega] at q
                have Q := Lib.hid q
                clear q t1 t2
                go_wp2_with fail
                ((with_reducible refine Q.out.mono ?_))
                rintro e w2 ⟨rfl, dn, m1, t1, s1⟩
                have HM2 := Lib.hid (HM.out.trans (m1.mono (Nat.zero_le _) (Nat.le_refl _) (by rw [HM.out.size, HD.out]; exact Nat.le_refl _)))
                have HR2 := Lib.hid ((HT.out.step HDV.out m1 t1 (by omega)).all (by omega))
                have S2 := Lib.hid s1
                clear m1 t1 s1
                go_wp2_with fail
                go_roundw
                case rel => exact ⟨2 * s, dn, by omega, by omega, by first | rfl | go_num | (congr 1; omega), HM2, HR2, S2⟩
                case measure => simp [intOf]; omega
              · have hm2 : ¬ (a : Int) + (s : Int) < (N : Int) := by omega
                have t1 := HF.out a HDA.out (Nat.le_refl _)
                rw [show min (a + s) N = min (a + 2 * s) N by omega] at t1
                have HR2 := Lib.hid ((HT.out.step HDV.out (Mrg.refl a (min (a + 2 * s) N) dk) t1 rfl).all (by omega))
                clear t1
                go_wp2_with fail
                go_roundw
                case rel => exact ⟨2 * s, dk, by omega, by omega, by first | rfl | go_num | (congr 1; omega), HM, HR2, S1⟩
                case measure => simp [intOf]; omega
        · go_wp2_with fail
          go_end0
          have h := HR.out 0 (Nat.dvd_zero _) (Nat.le_refl _)
          rw [show min (0 + s) N = N by omega] at h
          exact ⟨rfl, dk, HM.out, h, S1.out⟩
end Go.Proofs.Ytkhjmegjnglkgaa.Vc
