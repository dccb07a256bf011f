/-
  slices.rotateCmpFunc at operations.
-/
import Derived.Test.YtkhjmegjnglkgaaSwapR
namespace Go.Proofs.Ytkhjmegjnglkgaa.Vc
open Go.RowKit Go.Proofs.Ytkhjmegjnglkgaa.Wd Go.Sort Go.Proofs Go.Lib Go.Proofs.Ytkhjmegjnglkgaa.Sym
set_option linter.unusedVariables false

/-- Where a rotation stands: these blocks are still to be exchanged. -/
structure RotSt (G : List OpN) (m i j : Nat) (dk : Array OpN) : Prop where
  ex : ∃ A X Y B, dk.toList = A ++ (X ++ (Y ++ B)) ∧ A.length + i = m ∧ X.length = i ∧ Y.length = j ∧ G = A ++ (Y ++ (X ++ B))
theorem RotSt.gt {G : List OpN} {m i j : Nat} {dk : Array OpN} (h : RotSt G m i j dk) (hij : j < i) : RotSt G m (i - j) j (swapR dk (m - i) m j) := by
  obtain ⟨A, X, Y, B, h1, h2, h3, h4, h5⟩ := h.ex
  have e0 : dk.toList = A ++ (X.take j ++ (X.drop j ++ (Y ++ B))) := by rw [h1, ← List.append_assoc (X.take j), List.take_append_drop]
  have e := swapR_list (a := m - i) (b := m) (n := j) e0 (by simp; omega) (by omega) (by simp; omega) (by simp; omega)
  refine ⟨A ++ Y, X.drop j, X.take j, B, by rw [e]; simp only [List.append_assoc], by simp; omega, by simp; omega, by simp; omega, ?_⟩
  rw [h5, ← List.append_assoc (X.take j), List.take_append_drop]
  simp only [List.append_assoc]
theorem RotSt.lt {G : List OpN} {m i j : Nat} {dk : Array OpN} (h : RotSt G m i j dk) (hij : i < j) : RotSt G m i (j - i) (swapR dk (m - i) (m + j - i) i) := by
  obtain ⟨A, X, Y, B, h1, h2, h3, h4, h5⟩ := h.ex
  have e0 : dk.toList = A ++ (X ++ (Y.take (j - i) ++ (Y.drop (j - i) ++ B))) := by rw [h1, ← List.append_assoc (Y.take (j - i)), List.take_append_drop]
  have e := swapR_list (a := m - i) (b := m + j - i) (n := i) e0 (by simp; omega) (by omega) (by simp; omega) (by omega)
  refine ⟨A, Y.drop (j - i), Y.take (j - i), X ++ B, e, by omega, by simp; omega, by simp; omega, ?_⟩
  rw [h5, ← List.append_assoc (Y.take (j - i)), List.take_append_drop]
theorem RotSt.eq {G : List OpN} {m i : Nat} {dk : Array OpN} (h : RotSt G m i i dk) : (swapR dk (m - i) m i).toList = G := by
  obtain ⟨A, X, Y, B, h1, h2, h3, h4, h5⟩ := h.ex
  rw [h5, swapR_list (d := dk) (A := A) (X := X) (M := []) (Y := Y) (B := B) (by rw [h1]; rfl) (by omega) (by omega) (by simp; omega) (by omega)]
  rfl
theorem RotSt.le {G : List OpN} {m i j : Nat} {dk : Array OpN} (h : RotSt G m i j dk) : i ≤ m ∧ m + j ≤ dk.size := by
  obtain ⟨A, X, Y, B, h1, h2, h3, h4, h5⟩ := h.ex
  have e := congrArg List.length h1
  simp at e
  omega
attribute [local go_sem ↓] ldKx stKx
set_option maxHeartbeats 4000000 in
set_option maxRecDepth 1000000 in
theorem rotate_any (blk off cap a m b : Nat) (d0 d : Array OpN) (w0 w : World) (R : RowK encO 23 w0 blk off d0) (hs : d.size = d0.size) (S : SW w0 blk off d w) (ham : a < m) (hmb : m < b) (hb : b ≤ d.size) (hsz : d.size < 1000000) (F : Value)
    (A U V B : List OpN) (hd : d.toList = A ++ (U ++ (V ++ B))) (hA : A.length = a) (hU : U.length = m - a) (hV : V.length = b - m) :
    Calls Try.prog 47 #[.slice (some ⟨blk, off, none⟩) d.size cap, .int .i64 a, .int .i64 m, .int .i64 b, F] w fun e w' => e = .returned (.tuple #[]) ∧ ∃ d', d'.toList = A ++ (V ++ (U ++ B)) ∧ SW w0 blk off d' w' := by
  have ST0 := Lib.hid (show RotSt (A ++ (V ++ (U ++ B))) m (m - a) (b - m) d from ⟨A, U, V, B, hd, by omega, hU, hV, rfl⟩)
  have S0 := Lib.hid S
  generalize A ++ (V ++ (U ++ B)) = G at *
  obtain ⟨i0, hi0⟩ : ∃ i0, m - a = i0 := ⟨_, rfl⟩
  obtain ⟨j0, hj0⟩ : ∃ j0, b - m = j0 := ⟨_, rfl⟩
  have ei : (m : Int) - (a : Int) = (i0 : Int) := by omega
  have ej : (b : Int) - (m : Int) = (j0 : Int) := by omega
  have hip : 0 < i0 := by omega
  have hjp : 0 < j0 := by omega
  rw [hi0, hj0] at ST0
  have HS := Lib.hid hs
  clear S hd hA hU hV hi0 hj0 hs
  go_enter Try.func47, Try.ntmps47
  go_wp2_with fail
  go_loopw [10, 11] (fun vi vj wr => ∃ (i j : Nat) (dk : Array OpN), 0 < i ∧ 0 < j ∧ vi = .int .i64 (i : Int) ∧ vj = .int .i64 (j : Int) ∧ dk.size = d.size ∧ Hid (RotSt G m i j dk) ∧ Hid (SW w0 blk off dk wr)) (fun vi vj _ => (intOf vi).toNat + (intOf vj).toNat)
  case atStart => exact ⟨i0, j0, d, hip, hjp, rfl, rfl, rfl, ST0, S0⟩
  case round =>
    clear ST0 S0 ei ej
    obtain ⟨i, j, dk, hi, hj, rfl, rfl, hds, HR, S1⟩ := hrel
    obtain ⟨hle1, hle2⟩ := HR.out.le
    have hle3 : m + j ≤ 1000000 := by omega
    rcases (show j < i ∨ i < j ∨ i = j by omega) with hc | hc | hc
    · have q := swapRange_any blk off cap (m - i) m j d0 dk w0 wr R (hds.trans HS.out) S1.out (by omega) (by omega) (by omega) F
      have hn := HR.out.gt hc
      have hz := (swapR_size dk (m - i) m j).trans hds
      rw [hds, show ((m - i : Nat) : Int) = (m : Int) - (i : Int) by omega] at q
      generalize swapR dk (m - i) m j = dn at *
      have Q := Lib.hid q
      have HN := Lib.hid hn
      have e1 : ¬ ((i : Int) = (j : Int)) := by omega
      have HZ := Lib.hid hz
      clear q hn hz hds
      go_wp2_with fail
      ((with_reducible refine Q.out.mono ?_))
      rintro e w3 ⟨rfl, s3⟩
      have S3 := Lib.hid s3
      clear s3
      go_wp2_with fail
      go_roundw
      case rel => exact ⟨i - j, j, dn, by omega, hj, by congr 1; omega, rfl, HZ.out, HN, S3⟩
      case measure => simp [intOf]; omega
    · have q := swapRange_any blk off cap (m - i) (m + j - i) i d0 dk w0 wr R (hds.trans HS.out) S1.out (by omega) (by omega) (by omega) F
      have hn := HR.out.lt hc
      have hz := (swapR_size dk (m - i) (m + j - i) i).trans hds
      rw [hds, show ((m - i : Nat) : Int) = (m : Int) - (i : Int) by omega, show ((m + j - i : Nat) : Int) = (m : Int) + (j : Int) - (i : Int) by omega] at q
      generalize swapR dk (m - i) (m + j - i) i = dn at *
      have Q := Lib.hid q
      have HN := Lib.hid hn
      have e1 : ¬ ((i : Int) = (j : Int)) := by omega
      have HZ := Lib.hid hz
      clear q hn hz hds
      go_wp2_with fail
      ((with_reducible refine Q.out.mono ?_))
      rintro e w3 ⟨rfl, s3⟩
      have S3 := Lib.hid s3
      clear s3
      go_wp2_with fail
      go_roundw
      case rel => exact ⟨i, j - i, dn, hi, by omega, rfl, by congr 1; omega, HZ.out, HN, S3⟩
      case measure => simp [intOf]; omega
    · subst hc
      have q := swapRange_any blk off cap (m - i) m i d0 dk w0 wr R (hds.trans HS.out) S1.out (by omega) (by omega) (by omega) F
      have hn := HR.out.eq
      rw [hds, show ((m - i : Nat) : Int) = (m : Int) - (i : Int) by omega] at q
      generalize swapR dk (m - i) m i = dn at *
      have Q := Lib.hid q
      have HN := Lib.hid hn
      clear q hn hds
      go_wp2_with fail
      ((with_reducible refine Q.out.mono ?_))
      rintro e w3 ⟨rfl, s3⟩
      have S3 := Lib.hid s3
      clear s3
      go_wp2_with fail
      go_end0
      exact ⟨rfl, dn, HN.out, S3.out⟩
end Go.Proofs.Ytkhjmegjnglkgaa.Vc
