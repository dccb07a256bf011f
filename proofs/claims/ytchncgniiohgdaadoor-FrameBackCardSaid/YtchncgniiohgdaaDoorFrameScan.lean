/-
  What frame.Scan comes to, for every bytes.
-/
import Derived.Test.YtchncgniiohgdaaDoorFrameFst
import Derived.Test.YtchncgniiohgdaaDoorBRows
namespace Go.Proofs.YtchncgniiohgdaaDoor.FrameW
open Go.RowKit Go.Proofs.YtchncgniiohgdaaDoor.Wd Go.Proofs.YtchncgniiohgdaaDoor.FrameP Go.Proofs.YtchncgniiohgdaaDoor.CrcW Go.Proofs.YtchncgniiohgdaaDoor.VintW
set_option linter.unusedVariables false

/-- The call returns the rows r.1 and the number r.2. -/
def GivesS (w : World) (r : List (List Nat) × Nat) (e : Ending) (w' : World) : Prop :=
  ∃ v, e = .returned (.tuple #[v, .int .i64 (r.2 : Int)]) ∧ OwnL w' w.heap.size v r.1 ∧ Below w.heap.size w w'

theorem own_part {w : World} {base : Nat} {v : Value} {xs : List Nat} (h : OwnB w base v xs) {k : Option Nat} (hk : ∀ j, k = some j → j < base) : Part w k xs v := by
  obtain ⟨A, c, rfl, hc, hr⟩ := h.rd
  refine ⟨A, c, rfl, hc, hr, fun ad hA _ e => ?_⟩
  subst hA
  have h1 := h.row.lt ad.block rfl
  have h2 := hk _ e
  omega

set_option maxHeartbeats 2000000 in
set_option maxRecDepth 100000 in
theorem scan_any (n cap : Nat) (A : Option Addr) (xs : List Nat) (w : World) (hc : n ≤ cap) (hx : RdB w A n xs) (ht : Tab w) (hn : n ≤ 100000) :
    Calls Tryd.prog 13 #[.slice A n cap] w (GivesS w (scan xs)) := by
  have HX := Lib.hid hx
  have HL := Lib.hid hx.len
  have HT := Lib.hid ht
  clear hx ht
  go_enter Tryd.func13, Tryd.ntmps13
  go_wp2_with fail
  go_loopw [4, 5] (fun d i wr => ∃ (k : Nat) (l : List (List Nat)), k ≤ n ∧ i = .int .i64 (k : Int) ∧ l.length ≤ k ∧ Hid (scan xs = (l ++ (scan (xs.drop k)).1, k + (scan (xs.drop k)).2)) ∧ Hid (OwnL wr w.heap.size d l) ∧ Hid (Below w.heap.size w wr)) (fun _ i _ => n - (intOf i).toNat)
  case atStart => exact ⟨0, [], Nat.zero_le _, rfl, Nat.le_refl _, by unfold Hid; simp, OwnL.nil_ _ _, Below.refl _ _⟩
  case round =>
    obtain ⟨k, l, hk, rfl, hll, HS, HO, HW⟩ := hrel
    by_cases hlt : k < n
    · obtain ⟨ad, rfl, hcell⟩ := HX.out.cell (by omega)
      have hck : ¬ cap = k := by omega
      have i0 : (0 : Int) ≤ (k : Int) := Int.natCast_nonneg _
      have i1 : (k : Int) ≤ (n : Int) := by omega
      have i2 : (k : Int) ≤ (cap : Int) := by omega
      have hdr := (HX.out.below HW.out).drop (k := k) (cap := cap) (by omega) hc
      rw [if_neg hck] at hdr
      have hq := first_any (n - k) (cap - k) (some (ad.add k)) (xs.drop k) _ (by omega) hdr (HT.out.below HW.out)
      obtain ⟨r, hr⟩ : ∃ r, r = first (xs.drop k) := ⟨_, rfl⟩
      rw [← hr] at hq
      obtain ⟨c, s, e⟩ := r
      have HQ := Lib.hid hq
      clear hcell hdr hq
      by_cases he : e = 0
      · subst he
        have hok := first_ok (fun x hx => HX.out.small x (List.mem_of_mem_drop hx)) hr.symm
        have hst := scan_step (fun x hx => HX.out.small x (List.mem_of_mem_drop hx)) hr.symm
        have hs1 : s ≤ n - k := by
          have := hok.2.1
          rw [List.length_drop, HL.out] at this
          exact this
        have hs0 := hok.1
        have hnew : scan xs = ((l ++ [c]) ++ (scan (xs.drop (k + s))).1, (k + s) + (scan (xs.drop (k + s))).2) := by
          rw [HS.out, hst, List.drop_drop]
          simp only [Prod.mk.injEq, List.append_assoc, List.singleton_append, true_and]
          omega
        have HN := Lib.hid hnew
        have hsz := HW.out.size
        clear hok hst hnew hr
        go_wp2_with fail
        refine HQ.out.mono ?_
        rintro e w3 ⟨v3, rfl, ho3, hb3⟩
        obtain ⟨A3, c3, hv3, _, _⟩ := ho3.rd
        subst hv3
        have hp3 : Part w3 u4.ownBlock c (.slice A3 c.length c3) := own_part ho3 (fun j hj => (HO.out.lt j hj).2)
        have HO3 := Lib.hid (HO.out.below hb3)
        have HB3 := Lib.hid (HW.out.trans (hb3.mono hsz))
        have hsz3 := HB3.out.size
        have hcl : (w3.alloc (.cells #[.slice A3 c.length c3] 22)).cell? ⟨w3.heap.size, 0, none⟩ = some (.slice A3 c.length c3) := by simp
        have HP3 := Lib.hid (hp3.keep ((Below.refl _ _).alloc (Nat.le_refl _) (.cells #[.slice A3 c.length c3] 22)))
        have HCL := Lib.hid hcl
        clear ho3 hb3 hp3 hcl
        go_wp2_with (at_builtin; refine appL_list w.heap.size rfl (.tmp 23) (.tmp 25) rfl rfl rfl (HO3.out.alloc _) HP3.out HCL.out (by omega) (by simp; omega) ?_; intro v4 w4 ho4 hg4; have HB4 := Lib.hid ((HO3.out.alloc _).to_below (HB3.out.alloc hsz3 _) (by simp; omega) hg4); have HO4 := Lib.hid ho4; clear ho4 hg4)
        go_roundw
        case rel => exact ⟨k + s, l ++ [c], by omega, by go_num, by simp; omega, HN.out, HO4.out, HB4.out⟩
        case measure => simp [intOf]; omega
      · have hst := scan_stop (b := xs.drop k) (by rw [← hr]; exact he)
        have hnew : scan xs = (l, k) := by rw [HS.out, hst]; simp
        have HN := Lib.hid hnew
        have hsz := HW.out.size
        have t0 : ((e : Int) != 0) = true := by rw [bne_iff_ne]; omega
        clear hst hnew hr he
        go_wp2_with fail
        refine HQ.out.mono ?_
        rintro e w3 ⟨v3, rfl, ho3, hb3⟩
        have HO3 := Lib.hid (HO.out.below hb3)
        have HB3 := Lib.hid (HW.out.trans (hb3.mono hsz))
        clear ho3 hb3
        go_wp2_with fail
        go_ret2
        refine ⟨u4, ?_, ?_, HB3.out⟩
        · rw [HN.out]
          rfl
        · rw [HN.out]
          exact HO3.out
    · have hkn : k = n := by omega
      have hnew : scan xs = (l, k) := by
        rw [HS.out, show xs.drop k = [] by rw [List.drop_eq_nil_iff, HL.out]; omega, scan_nil]
        simp
      have HN := Lib.hid hnew
      clear hnew
      go_wp2_with fail
      go_ret2
      refine ⟨u4, ?_, ?_, HW.out⟩
      · rw [HN.out]
        rfl
      · rw [HN.out]
        exact HO.out
end Go.Proofs.YtchncgniiohgdaaDoor.FrameW
