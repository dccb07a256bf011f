/-
  What the reference's First comes to, for every bytes.
-/
import Derived.Test.YtchncgniiohgdaaDoorFrameWalk
import Derived.Test.YtchncgniiohgdaaDoorVintGetR
import Derived.Test.YtchncgniiohgdaaDoorBRows
import Derived.WalkSpells
import Derived.Laws.Cover3
namespace Go.Proofs.YtchncgniiohgdaaDoor.FrameW
open Go.RowKit Go.Proofs.YtchncgniiohgdaaDoor.Wd Go.Proofs.YtchncgniiohgdaaDoor.FrameP Go.Proofs.YtchncgniiohgdaaDoor.CrcW Go.Proofs.YtchncgniiohgdaaDoor.VintW
set_option linter.unusedVariables false

/-- The call returns the bytes, the size and the error of r, the bytes in memory below base. -/
def GivesW (base : Nat) (w : World) (r : List Nat × Nat × Nat) (e : Ending) (w' : World) : Prop :=
  ∃ A c, e = .returned (.tuple #[.slice A r.1.length c, .int .i64 (r.2.1 : Int), .int .i64 (r.2.2 : Int)]) ∧ r.1.length ≤ c ∧ RdB w' A r.1.length r.1 ∧ Below w.heap.size w w' ∧
    ∀ ad, A = some ad → 0 < r.1.length → ad.block < base
theorem givesW_err {base : Nat} {w w' : World} {e : Ending} {x : Nat} (h : e = .returned (.tuple #[.slice none 0 0, .int .i64 0, .int .i64 (x : Int)])) (hw : Below w.heap.size w w') : GivesW base w ([], 0, x) e w' :=
  ⟨none, 0, h, Nat.le_refl _, RdB.nil_ _, hw, fun _ _ h => absurd h (Nat.lt_irrefl 0)⟩

set_option maxHeartbeats 1000000 in
set_option maxRecDepth 100000 in
theorem firstR_any (base n cap : Nat) (A : Option Addr) (xs : List Nat) (w : World) (hc : n ≤ cap) (hx : RdB w A n xs) (hbk : ∀ ad, A = some ad → 0 < n → ad.block < base) :
    Calls Tryd.prog 12 #[.slice A n cap] w (GivesW base w (first xs)) := by
  have hfit := hx.fits
  have HX := Lib.hid hx
  have HL := Lib.hid hx.len
  have HBK := Lib.hid hbk
  have q := getR_any n cap A xs w hc hx
  unfold getVal at q
  clear hx hbk
  rcases get_err xs with he | he
  rotate_left
  · have hr : first xs = ([], 0, (VintP.get 0 0 xs).2.2) := by unfold first; rw [if_pos (by omega)]
    rw [hr]
    generalize (VintP.get 0 0 xs).1 = a at *
    generalize (VintP.get 0 0 xs).2.1 = b at *
    generalize (VintP.get 0 0 xs).2.2 = c at *
    have t0 : ((c : Int) != 0) = true := by rw [bne_iff_ne]; omega
    have Q := Lib.hid q
    clear q hr he
    go_enter Tryd.func12, Tryd.ntmps12
    go_wp2_with fail
    refine Q.out.mono ?_
    rintro e w' ⟨rfl, hb⟩
    go_wp2
    go_ret3
    exact givesW_err rfl hb
  · obtain ⟨N, k, hg⟩ : ∃ N k, VintP.get 0 0 xs = (N, k, 0) := ⟨(VintP.get 0 0 xs).1, (VintP.get 0 0 xs).2.1, Prod.ext rfl (Prod.ext rfl he)⟩
    obtain ⟨g1, g2, g3, g4, g5⟩ := get_ok HX.out.small hg
    rw [HL.out] at g4
    have hr : first xs = if 4096 < N then ([], 0, 5) else if xs.length < k + N + 4 then ([], 0, 4)
        else if le4 (CrcP.sum (xs.take (k + N))) ≠ (xs.drop (k + N)).take 4 then ([], 0, 6) else ((xs.drop k).take N, k + N + 4, 0) := by
      unfold first
      rw [hg]
      rfl
    rw [hg] at q
    by_cases h1 : 4096 < N
    · rw [hr, if_pos h1]
      have Q := Lib.hid q
      clear q hr he
      go_enter Tryd.func12, Tryd.ntmps12
      go_wp2_with fail
      refine Q.out.mono ?_
      rintro e w' ⟨rfl, hb⟩
      go_wp2
      go_ret3
      exact givesW_err rfl hb
    · rw [if_neg h1] at hr
      by_cases h2 : n < k + N + 4
      · rw [hr, if_pos (by rw [HL.out]; exact h2)]
        have Q := Lib.hid q
        clear q hr he
        go_enter Tryd.func12, Tryd.ntmps12
        go_wp2_with fail
        refine Q.out.mono ?_
        rintro e w' ⟨rfl, hb⟩
        go_wp2
        go_ret3
        exact givesW_err rfl hb
      · rw [if_neg (by rw [HL.out]; exact h2)] at hr
        have hfr := first_ref HX.out.small hg (by rw [HL.out]; omega)
        have Q := Lib.hid q
        clear q he hg g1 g2
        obtain ⟨ad, rfl, hcell⟩ := HX.out.cell (by omega)
        obtain ⟨E, hE⟩ : ∃ E, E = k + N := ⟨_, rfl⟩
        have eE : (k : Int) + (N : Int) = (E : Int) := by omega
        have hEn : E + 4 ≤ n := by omega
        have hkE : k ≤ E := by omega
        have hne : ¬ cap = E := by omega
        have hnk : ¬ cap = k := by omega
        have ik0 : (0 : Int) ≤ (k : Int) := by omega
        have ik1 : (k : Int) ≤ (E : Int) := by omega
        have i0 : (0 : Int) ≤ (E : Int) := by omega
        have i1 : (E : Int) ≤ (cap : Int) := by omega
        obtain ⟨F, hF⟩ : ∃ F, F = E + 4 := ⟨_, rfl⟩
        have eF : (E : Int) + 4 = (F : Int) := by omega
        have i2 : (F : Int) ≤ (cap : Int) := by omega
        have i3 : (0 : Int) ≤ (F : Int) := by omega
        have i4 : ¬ (n : Int) < (F : Int) := by omega
        have i5 : ¬ cap = 0 := by omega
        have eEk : E - k = N := by omega
        rw [← hE, ← hF] at hr hfr
        -- what stands within
        have hin : RdB w (some (ad.add k)) (E - k) ((xs.drop k).take N) := by
          have h1 := (HX.out.take (k := E) (by omega)).drop (k := k) (cap := cap) hkE (by omega)
          rw [if_neg hnk, List.drop_take, eEk] at h1
          rw [eEk]
          exact h1
        have hw := fun W (hW : Below w.heap.size w W) => wrapR_any (E - k) (cap - k) (some (ad.add k)) ((xs.drop k).take N) W (hin.below hW) (by omega)
        have hall := fun W (hW : Below w.heap.size w W) => (HX.out.take (k := F) (by omega)).below hW
        have hres : RdB w (some (ad.add k)) N ((xs.drop k).take N) := by rw [← eEk]; rw [← eEk] at hin; exact hin
        have hlen : ((xs.drop k).take N).length = N := hres.len
        have hwl := wrap_lt (b := (xs.drop k).take N) hin.small (by rw [hlen]; omega)
        have hsm : ∀ x ∈ xs.take F, x < 256 := fun x hx => HX.out.small x (List.mem_of_mem_take hx)
        generalize xs.take F = fs at *
        generalize (xs.drop k).take N = ys at *
        generalize wrap ys = zs at *
        have HW := Lib.hid hw
        have HALL := Lib.hid hall
        have HRES := Lib.hid hres
        have HLEN := Lib.hid hlen
        have cv := fun W (hW : Below w.heap.size w W) => conv_str (hall W hW) cap
        have HE := Lib.hid hE
        have HEK := Lib.hid eEk
        have HF := Lib.hid hF
        clear hcell hw hall hres hlen hin hE eEk hF
        by_cases hz : zs = fs
        · rw [if_neg (by rw [← hfr.1 hz]; simp)] at hr
          have HR := Lib.hid hr
          subst hz
          clear hr hfr
          go_enter Tryd.func12, Tryd.ntmps12
          go_wp2_with fail
          refine Q.out.mono ?_
          rintro e w1 ⟨rfl, hb1⟩
          have HB1 := Lib.hid hb1
          clear hb1
          go_wp2_with fail
          refine (HW.out w1 HB1.out).mono ?_
          rintro e w2 ⟨v2, rfl, ho2, hb2⟩
          obtain ⟨A2, c2, hv2, hc2, hr2⟩ := ho2.rd
          subst hv2
          have hb3 := HB1.out.trans (hb2.mono HB1.out.size)
          have cv2 := fun W (hW : Below w2.heap.size w2 W) => conv_str (hr2.below hW) c2
          have cvE : ∀ W, Below w2.heap.size w2 W → (convert 22 9 (.slice (some ad) F cap)).run Tryd.prog W = .ok (.string (strB zs)) W := fun W hW => cv W (hb3.trans (hW.mono hb3.size))
          have HB3 := Lib.hid hb3
          clear ho2 hb2 hr2 hc2 hb3 cv
          go_wp2_with fail
          have cvd := fun k => cv2 (w2.drewN k) (drewN_below (Below.refl _ _) k)
          have cvf := fun k => cvE (w2.drewN k) (drewN_below (Below.refl _ _) k)
          clear cv2 cvE
          go_quiet (fail)
          go_wp2
          go_ret3
          refine ⟨some (ad.add k), cap - k, ?_, ?_, ?_, drewN_below HB3.out _, ?_⟩
          · rw [HR.out]
            simp only [HLEN.out, ← HEK.out]
            rfl
          · rw [HR.out]
            simp only [HLEN.out]
            omega
          · rw [HR.out]
            simp only [HLEN.out]
            exact HRES.out.below (drewN_below HB3.out _)
          · rw [HR.out]
            rintro ad' hA _
            injection hA with hA
            rw [← hA, add_block]
            exact HBK.out ad rfl (by omega)
        · rw [if_pos (fun e => hz (hfr.2 e))] at hr
          have HR := Lib.hid hr
          have hzb := strB_beq hwl hsm hz
          clear hr hfr hz
          go_enter Tryd.func12, Tryd.ntmps12
          go_wp2_with fail
          refine Q.out.mono ?_
          rintro e w1 ⟨rfl, hb1⟩
          have HB1 := Lib.hid hb1
          clear hb1
          go_wp2_with fail
          refine (HW.out w1 HB1.out).mono ?_
          rintro e w2 ⟨v2, rfl, ho2, hb2⟩
          obtain ⟨A2, c2, hv2, hc2, hr2⟩ := ho2.rd
          subst hv2
          have hb3 := HB1.out.trans (hb2.mono HB1.out.size)
          have cv2 := fun W (hW : Below w2.heap.size w2 W) => conv_str (hr2.below hW) c2
          have cvE : ∀ W, Below w2.heap.size w2 W → (convert 22 9 (.slice (some ad) F cap)).run Tryd.prog W = .ok (.string (strB fs)) W := fun W hW => cv W (hb3.trans (hW.mono hb3.size))
          have HB3 := Lib.hid hb3
          clear ho2 hb2 hr2 hc2 hb3 cv
          go_wp2_with fail
          have cvd := fun k => cv2 (w2.drewN k) (drewN_below (Below.refl _ _) k)
          have cvf := fun k => cvE (w2.drewN k) (drewN_below (Below.refl _ _) k)
          clear cv2 cvE
          go_quiet (fail)
          go_wp2
          go_ret3
          rw [HR.out]
          exact givesW_err rfl (drewN_below HB3.out _)
end Go.Proofs.YtchncgniiohgdaaDoor.FrameW
