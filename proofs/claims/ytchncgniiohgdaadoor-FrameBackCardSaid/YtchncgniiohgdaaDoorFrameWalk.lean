/-
  What frame.sum and frame.Wrap come to, and the reference's Wrap.
-/
import Derived.Test.YtchncgniiohgdaaDoorCrcWalk
import Derived.Test.YtchncgniiohgdaaDoorVintPut
import Derived.Test.YtchncgniiohgdaaDoorFramePlain
namespace Go.Proofs.YtchncgniiohgdaaDoor.FrameW
open Go.RowKit Go.Proofs.YtchncgniiohgdaaDoor.Wd Go.Proofs.YtchncgniiohgdaaDoor.FrameP Go.Proofs.YtchncgniiohgdaaDoor.CrcW Go.Proofs.YtchncgniiohgdaaDoor.VintW
set_option linter.unusedVariables false

/-- A sum's four bytes, as an array. -/
def sumVal (S : Nat) : Value := .agg #[.int .u8 ((S % 256 : Nat) : Int), .int .u8 ((S / 256 % 256 : Nat) : Int), .int .u8 ((S / 65536 % 256 : Nat) : Int), .int .u8 ((S / 16777216 % 256 : Nat) : Int)]

set_option maxHeartbeats 1000000 in
theorem sum4_any (n cap : Nat) (A : Option Addr) (xs : List Nat) (w : World) (hx : RdB w A n xs) (ht : Tab w) :
    Calls Tryd.prog 17 #[.slice A n cap] w fun e w' => e = .returned (sumVal (CrcP.sum xs)) ∧ Below w.heap.size w w' := by
  have HX := Lib.hid hx
  have HT := Lib.hid ht
  have hS : CrcP.sum xs ≤ 4294967295 := by
    have := CrcP.next_lt (s := 0) (l := xs)
    show CrcP.next 0 xs ≤ _
    omega
  clear hx ht
  go_enter Tryd.func17, Tryd.ntmps17
  go_wp2_with fail
  have hb : Below w.heap.size w (w.alloc (.cells #[.int .u8 0, .int .u8 0, .int .u8 0, .int .u8 0] 44)) := (Below.refl _ _).alloc (Nat.le_refl _) _
  have h1 := sum_any n cap A xs _ (HX.out.below hb) (HT.out.below hb)
  obtain ⟨S, hSS⟩ : ∃ S, S = CrcP.sum xs := ⟨_, rfl⟩
  rw [← hSS] at h1 hS
  have HS := Lib.hid hSS
  clear hSS
  refine h1.mono ?_
  rintro e w' ⟨rfl, rfl⟩
  clear hb h1
  go_wp2
  refine bodyPost_ret (v := .agg #[.int .u8 ((S : Int) % 256), .int .u8 ((S : Int) / 256 % 256), .int .u8 ((S : Int) / 65536 % 256), .int .u8 ((S : Int) / 16777216)]) (by simp [results, Tryd.results17, go_sem]) rfl ⟨?_, (Below.refl _ _).alloc (Nat.le_refl _) _⟩
  rw [← HS.out]
  unfold sumVal
  rw [show ((S % 256 : Nat) : Int) = (S : Int) % 256 by omega, show ((S / 256 % 256 : Nat) : Int) = (S : Int) / 256 % 256 by omega, show ((S / 65536 % 256 : Nat) : Int) = (S : Int) / 65536 % 256 by omega, show ((S / 16777216 % 256 : Nat) : Int) = (S : Int) / 16777216 by omega]

set_option maxHeartbeats 1000000 in
theorem wrap_big (n cap : Nat) (A : Option Addr) (xs : List Nat) (w : World) (hx : RdB w A n xs) (hn : 4096 < n) :
    Calls Tryd.prog 9 #[.slice A n cap] w fun e w' => e = .returned (.tuple #[.slice none 0 0, .int .i64 3]) ∧ w = w' := by
  have hfit := hx.fits
  clear hx
  go_enter Tryd.func9, Tryd.ntmps9
  go_wp2
  go_ret2
  exact ⟨rfl, rfl⟩
/-- The call returns the bytes xs in new memory, and no error. -/
def GivesOk (w : World) (xs : List Nat) (e : Ending) (w' : World) : Prop := ∃ v, e = .returned (.tuple #[v, .int .i64 0]) ∧ OwnB w' w.heap.size v xs ∧ Below w.heap.size w w'

set_option maxHeartbeats 1000000 in
theorem wrap_any (n cap : Nat) (A : Option Addr) (xs : List Nat) (w : World) (hx : RdB w A n xs) (ht : Tab w) (hn : n ≤ 4096) :
    Calls Tryd.prog 9 #[.slice A n cap] w (GivesOk w (wrap xs)) := by
  have hfit := hx.fits
  have HX := Lib.hid hx
  have HL := Lib.hid hx.len
  have HT := Lib.hid ht
  have q1 := fun W => put_any n W (by omega)
  have hl := VintP.enc_length n
  have hw : wrap xs = (VintP.enc n ++ xs) ++ le4 (CrcP.sum (VintP.enc n ++ xs)) := by unfold wrap head; rw [HL.out]
  generalize VintP.enc n = es at *
  obtain ⟨S, hSS⟩ : ∃ S, S = CrcP.sum (es ++ xs) := ⟨_, rfl⟩
  rw [← hSS] at hw
  have hel : es.length ≤ 10 := hl.2
  have Q1 := Lib.hid q1
  have HWW := Lib.hid hw
  have HSS := Lib.hid hSS
  clear hx ht q1 hw hSS hl
  go_enter Tryd.func9, Tryd.ntmps9
  go_wp2_with (first
    | (go_at_call 16; ((with_reducible refine (Q1.out _).mono ?_)); rintro e w1 ⟨v1, rfl, ho1, hb1⟩; have HO1 := Lib.hid ho1; have HB1 := Lib.hid hb1; clear ho1 hb1)
    | (at_builtin; refine app_list w.heap.size rfl (.tmp 12) (.tmp 13) rfl rfl rfl HO1.out (HX.out.below HB1.out) (by omega) HB1.out.size ?_; intro v2 w2 ho2 hg2 ha2; have HB2 := Lib.hid (HO1.out.to_below HB1.out HB1.out.size hg2); have HO2 := Lib.hid ho2; clear ho2 hg2 ha2))
  obtain ⟨A2, c2, hv2, hc2, hr2⟩ := HO2.out.rd
  rw [List.length_append] at hv2 hr2
  subst hv2
  have h3 := sum4_any _ c2 A2 (es ++ xs) w2 hr2 (HT.out.below HB2.out)
  rw [← HSS.out] at h3
  unfold sumVal at h3
  unfold le4 at HWW
  have hb := le4_lt S
  unfold le4 at hb
  generalize S % 256 = b0 at *
  generalize S / 256 % 256 = b1 at *
  generalize S / 65536 % 256 = b2 at *
  generalize S / 16777216 % 256 = b3 at *
  have HBB := Lib.hid hb
  have H3 := Lib.hid h3
  have hlen : (es ++ xs).length ≤ 4106 := by rw [List.length_append, HL.out]; omega
  have HLEN := Lib.hid hlen
  clear hr2 h3 hb hlen
  refine H3.out.mono ?_
  rintro e w3 ⟨rfl, hb3⟩
  have HB3 := Lib.hid (HB2.out.trans (hb3.mono HB2.out.size))
  have HO3 := Lib.hid (HO2.out.below hb3)
  have hsz := HB3.out.size
  clear hb3
  go_wp2_with (at_builtin; refine app_list w.heap.size rfl (.tmp 17) (.tmp 18) rfl rfl rfl (HO3.out.alloc _) (RdB.new w3 44 (0, 0) [b0, b1, b2, b3] HBB.out (by simp)) (by have := HLEN.out; simp at this ⊢; omega) (by simp; omega) ?_; intro v4 w4 ho4 hg4 ha4; have HB4 := Lib.hid ((HO3.out.alloc _).to_below (HB3.out.alloc hsz _) (by simp; omega) hg4); have HO4 := Lib.hid ho4; clear ho4 hg4 ha4)
  go_ret2
  refine ⟨v4, rfl, ?_, HB4.out⟩
  rw [HWW.out]
  exact HO4.out

/-! ### The reference -/
set_option maxHeartbeats 1000000 in
theorem joinR_any (n cap m cap' : Nat) (A B : Option Addr) (xs ys : List Nat) (w : World) (hx : RdB w A n xs) (hy : RdB w B m ys) (hn : n + m ≤ 65536) :
    Calls Tryd.prog 24 #[.slice A n cap, .slice B m cap'] w (GivesB w (xs ++ ys)) := by
  have HX := Lib.hid hx
  have HY := Lib.hid hy
  have hlx : xs.length ≤ n := by rw [hx.len]; exact Nat.le_refl _
  clear hx hy
  have hb0 : Below w.heap.size w (w.alloc (.cells #[] 5)) := (Below.refl _ _).alloc (Nat.le_refl _) _
  have HB0 := Lib.hid hb0
  clear hb0
  go_enter Tryd.func24, Tryd.ntmps24
  go_wp2_with (first
    | (at_builtin; refine app_list w.heap.size rfl (.tmp 6) (.tmp 7) rfl rfl rfl (OwnB.lit0 w w.heap.size (Nat.le_refl _)) (HX.out.below HB0.out) (by simp; omega) HB0.out.size ?_; intro v2 w2 ho2 hg2 ha2; rw [List.nil_append] at ho2; have HB2 := Lib.hid ((OwnB.lit0 w w.heap.size (Nat.le_refl _)).to_below HB0.out HB0.out.size hg2); have HO2 := Lib.hid ho2; clear ho2 hg2 ha2)
    | (at_builtin; refine app_list w.heap.size rfl (.tmp 9) (.tmp 10) rfl rfl rfl HO2.out (HY.out.below HB2.out) (by omega) HB2.out.size ?_; intro v3 w3 ho3 hg3 ha3; have HB3 := Lib.hid (HO2.out.to_below HB2.out HB2.out.size hg3); have HO3 := Lib.hid ho3; clear ho3 hg3 ha3))
  go_ret
  exact ⟨v3, rfl, HO3.out, HB3.out⟩

theorem fieldR_any (n cap : Nat) (A : Option Addr) (xs : List Nat) (w : World) (hx : RdB w A n xs) (hn : n ≤ 4096) :
    Calls Tryd.prog 18 #[.slice A n cap] w (GivesB w (head xs)) := by
  have hw : head xs = VintP.enc n ++ xs := by unfold head; rw [hx.len]
  have hel := (VintP.enc_length n).2
  have q := putR_any n w (by omega)
  generalize VintP.enc n = es at *
  have HX := Lib.hid hx
  have HW := Lib.hid hw
  have Q := Lib.hid q
  clear hx hw q
  go_enter Tryd.func18, Tryd.ntmps18
  go_wp2_with fail
  refine Q.out.mono ?_
  rintro e w1 ⟨v1, rfl, ho1, hb1⟩
  obtain ⟨A1, c1, hv1, hc1, hr1⟩ := ho1.rd
  subst hv1
  have h2 := joinR_any es.length c1 n cap A1 A es xs w1 hr1 (HX.out.below hb1) (by omega)
  have HB1 := Lib.hid hb1
  have H2 := Lib.hid h2
  clear ho1 hb1 hr1 h2 hc1
  go_wp2_with fail
  refine H2.out.mono ?_
  rintro e w2 ⟨v2, rfl, ho2, hb2⟩
  have HO2 := Lib.hid ho2
  have HB2 := Lib.hid hb2
  clear ho2 hb2
  go_wp2
  go_ret
  refine ⟨v2, rfl, ?_, HB1.out.trans (HB2.out.mono HB1.out.size)⟩
  rw [HW.out]
  exact ⟨own_base HO2.out.row HB1.out.size, HO2.out.small⟩

set_option maxHeartbeats 1000000 in
theorem wrapR_big (n cap : Nat) (A : Option Addr) (xs : List Nat) (w : World) (hx : RdB w A n xs) (hn : 4096 < n) :
    Calls Tryd.prog 10 #[.slice A n cap] w fun e w' => e = .returned (.tuple #[.slice none 0 0, .int .i64 3]) ∧ w = w' := by
  have hfit := hx.fits
  clear hx
  go_enter Tryd.func10, Tryd.ntmps10
  go_wp2
  go_ret2
  exact ⟨rfl, rfl⟩

theorem le4_take {S k : Nat} (hk : k < 4) : (le4 S).take (k + 1) = (le4 S).take k ++ [S / 256 ^ k % 256] := by
  have : k = 0 ∨ k = 1 ∨ k = 2 ∨ k = 3 := by omega
  rcases this with rfl | rfl | rfl | rfl <;> simp [le4]
set_option maxHeartbeats 1000000 in
theorem wrapR_any (n cap : Nat) (A : Option Addr) (xs : List Nat) (w : World) (hx : RdB w A n xs) (hn : n ≤ 4096) :
    Calls Tryd.prog 10 #[.slice A n cap] w (GivesOk w (wrap xs)) := by
  have hfit := hx.fits
  have q := fieldR_any n cap A xs w hx hn
  have hlen : (head xs).length ≤ 4106 := by
    have h1 := (VintP.enc_length xs.length).2
    unfold head
    rw [List.length_append, hx.len]
    rw [hx.len] at h1
    omega
  have hw : wrap xs = head xs ++ le4 (CrcP.sum (head xs)) := rfl
  generalize head xs = hs at *
  have hS : CrcP.sum hs ≤ 4294967295 := by
    have := CrcP.next_lt (s := 0) (l := hs)
    show CrcP.next 0 hs ≤ _
    omega
  have HX := Lib.hid hx
  have HW := Lib.hid hw
  have Q := Lib.hid q
  have HLEN := Lib.hid hlen
  clear hx hw q hlen
  go_enter Tryd.func10, Tryd.ntmps10
  go_wp2_with fail
  refine Q.out.mono ?_
  rintro e w1 ⟨v1, rfl, ho1, hb1⟩
  obtain ⟨A1, c1, hv1, hc1, hr1⟩ := ho1.rd
  subst hv1
  have h2 := sumR_any hs.length c1 A1 hs w1 hr1
  generalize CrcP.sum hs = S at *
  have HB1 := Lib.hid hb1
  have HO1 := Lib.hid ho1
  have H2 := Lib.hid h2
  clear ho1 hb1 hr1 h2 hc1
  go_wp2_with fail
  refine H2.out.mono ?_
  rintro e w' ⟨rfl, rfl⟩
  go_wp2_with fail
  go_loopw [4, 5, 6] (fun d u i wr => ∃ k t : Nat, k ≤ 4 ∧ i = .int .i64 (k : Int) ∧ u = .int .u32 (t : Int) ∧ t ≤ 4294967295 ∧ Hid (t = S / 256 ^ k) ∧ Hid (OwnB wr w.heap.size d (hs ++ (le4 S).take k)) ∧ Hid (Below w.heap.size w wr)) (fun _ _ i _ => 4 - (intOf i).toNat)
  case atStart => exact ⟨0, S, Nat.zero_le _, rfl, rfl, hS, by simp [Hid], by simpa [Hid] using HO1.out, HB1.out⟩
  case round =>
    obtain ⟨k, t, hk, rfl, rfl, ht, HT, HO, HB⟩ := hrel
    have hsz := HB.out.size
    by_cases hlt : k < 4
    · have hlen : (hs ++ (le4 S).take k).length ≤ 4110 := by
        have h1 := HLEN.out
        have h2 : ((le4 S).take k).length ≤ 4 := by rw [List.length_take, le4_length]; omega
        rw [List.length_append]
        omega
      have hst := le4_take (S := S) hlt
      rw [← HT.out] at hst
      obtain ⟨c, hcc⟩ : ∃ c, c = t % 256 := ⟨_, rfl⟩
      rw [← hcc] at hst
      have ec : (t : Int) % 256 = (c : Int) := by omega
      have hcl : c < 256 := by omega
      have HST := Lib.hid hst
      have HLE := Lib.hid hlen
      clear hcc hst hlen
      go_wp2_with (at_builtin; refine app_list w.heap.size rfl _ _ rfl rfl rfl (HO.out.alloc _) (RdB.one _ _ _ hcl) (by have := HLE.out; omega) (by simp; omega) ?_; intro v2 w2 ho2 hg2 ha2; have HB2 := Lib.hid ((HO.out.alloc _).to_below (HB.out.alloc hsz _) (by simp; omega) hg2); have HO2 := Lib.hid ho2; clear ho2 hg2 ha2)
      go_roundw
      case rel => exact ⟨k + 1, t / 256, by omega, by go_num, by go_num, by omega, by unfold Hid; rw [HT.out, Nat.div_div_eq_div_mul, Nat.pow_succ], by unfold Hid; rw [HST.out, ← List.append_assoc]; exact HO2.out, HB2.out⟩
      case measure => simp [intOf]; omega
    · have hk4 : k = 4 := by omega
      have hw2 : hs ++ (le4 S).take k = wrap xs := by rw [hk4, List.take_of_length_le (by rw [le4_length]; exact Nat.le_refl _), HW.out]
      have HW2 := Lib.hid hw2
      have HK := Lib.hid hk4
      clear hk4 hw2
      go_wp2
      go_ret2
      refine ⟨_, rfl, ?_, HB.out⟩
      rw [← HW2.out]
      exact HO.out
end Go.Proofs.YtchncgniiohgdaaDoor.FrameW
