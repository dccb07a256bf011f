/-
  The walk of the law 'trugtop.WholeStored'.
-/
import Derived.Test.YtgogbpkcceadbaaGreatDoorWrkW
import Derived.Test.YtgogbpkcceadbaaGreatDoorCloW
import Derived.Test.YtgogbpkcceadbaaGreatDoorSameV
namespace Go.Proofs.YtgogbpkcceadbaaGreatDoor.Sg
open Go.RowKit Go.Proofs.YtgogbpkcceadbaaGreatDoor.Wd Go.Proofs.YtgogbpkcceadbaaGreatDoor.VintP Go.Proofs.YtgogbpkcceadbaaGreatDoor.VintW Go.Proofs.YtgogbpkcceadbaaGreatDoor.Pk Go.Proofs.YtgogbpkcceadbaaGreatDoor.Vc Go.Proofs.YtgogbpkcceadbaaGreatDoor.CrcW Go.Proofs.YtgogbpkcceadbaaGreatDoor.FrameP Go.Proofs.YtgogbpkcceadbaaGreatDoor.FrameW
set_option linter.unusedVariables false
attribute [local go_sem ↓] ldKx stKx

set_option maxHeartbeats 8000000 in
set_option maxRecDepth 100000 in
theorem wholeStored_any (w : World) (n cap : Nat) (A : Option Addr) (l : List OpN) (hnc : n ≤ cap) (hr : RdO w A n l) (e : Nat) (he : e ≤ 255) (c : Nat) (hc : c ≤ 65535) (ht : Tab w) :
    Calls Tryz.prog 3 #[.slice A n cap, .int .u8 (e : Int), .int .u16 (c : Int)] w fun en w' => en = .returned (.bool true) ∧ Below w.heap.size w w' := by
  have hfit := hr.fits
  have HL := Lib.hid hr
  have HT := Lib.hid ht
  have QW := Lib.hid (works_any w ht)
  have HC := Lib.hid hc
  have HNC := Lib.hid hnc
  clear hr ht
  go_enter Tryz.func3, Tryz.ntmps3
  go_wp2_with fail
  refine QW.out.mono ?_
  rintro en w1 ⟨rfl, hb1⟩
  have HB1 := Lib.hid hb1
  have QH := Lib.hid (history_any l n cap A hnc w1 (HL.out.below hb1))
  clear hb1 QW
  go_wp2_with fail
  refine QH.out.mono ?_
  rintro en w2 ⟨hgb, hb2⟩
  obtain ⟨b, rfl, hb⟩ := hgb.ex
  have HB2 := Lib.hid (HB1.out.trans (hb2.mono HB1.out.size))
  clear hgb hb2 QH HB1
  cases b with
  | false =>
    clear hb
    go_wp2_with fail
    go_ret
    exact ⟨rfl, HB2.out⟩
  | true =>
    have hh := hb rfl
    have HH := Lib.hid hh
    have h40 : n ≤ 40 := by have := hh.len; have := HL.out.len; omega
    have n40 : ¬ ((n : Int) > 40) := by omega
    obtain ⟨E, hE⟩ : ∃ E, E = e % 10 + 1 := ⟨_, rfl⟩
    have QS := Lib.hid (stored_any l n cap A E (by omega) (by omega) h40 hnc hh.right w2 (HL.out.below HB2.out) (HT.out.below HB2.out))
    have H40 := Lib.hid h40
    have hEi : (e : Int) % 10 + 1 = (E : Int) := by omega
    have hEt : (e : Int).tmod 10 + 1 = (E : Int) := by rw [Int.tmod_eq_emod_of_nonneg (by omega)]; omega
    have hm0 : (0 : Int) ≤ (e : Int) % 10 := by omega
    clear hb hh h40 hE
    go_wp2_with fail
    refine QS.out.mono ?_
    rintro en w3 ⟨v3, rfl, ho3, hb3⟩
    obtain ⟨A3, c3, hv3⟩ := ho3.sl
    rw [HL.out.len] at hv3
    subst hv3
    have hrd3 := ho3.rdo.2
    rw [HL.out.len] at hrd3
    have HR3 := Lib.hid hrd3
    have HB3 := Lib.hid (HB2.out.trans (hb3.mono HB2.out.size))
    clear ho3 hb3 hrd3 QS HB2 n40
    go_wp2_with fail
    go_loopw [40] (fun i wr => ∃ k q : Nat, k ≤ n ∧ i = .int .i64 (k : Int) ∧ Hid (wr = w3.drewN q)) (fun i _ => n - (intOf i).toNat)
    case atStart => exact ⟨0, 0, Nat.zero_le _, rfl, rfl⟩
    case round =>
      obtain ⟨k, q, hk, rfl, HQ⟩ := hrel
      have hbw : Below w3.heap.size w3 wr := by rw [HQ.out]; exact drewN_below (Below.refl _ _) q
      by_cases hlt : k < n
      · have hkl : k < l.length := by rw [HL.out.len]; exact hlt
        obtain ⟨x, hx⟩ : ∃ x, l[k]? = some x := ⟨_, List.getElem?_eq_getElem hkl⟩
        obtain ⟨ad1, hA1, _⟩ := HL.out.cell (by omega)
        obtain ⟨ad2, hA2, _⟩ := HR3.out.cell (by omega)
        subst hA1 hA2
        have hl1 := (HL.out.below HB3.out).below hbw
        have hl2 := HR3.out.below hbw
        have g1 : ∀ j, (ldK 34 (ad1.add (k * 23))).run Tryz.prog (wr.drewN j) = .ok (.agg (opA x.1).toArray) (wr.drewN j) := fun j => hl1.load hx _ (drewN_below (Below.refl _ _) j)
        have g2 : ∀ j, (ldK 34 (ad2.add (k * 23))).run Tryz.prog (wr.drewN j) = .ok (.agg (opA x.1).toArray) (wr.drewN j) := fun j => hl2.load hx _ (drewN_below (Below.refl _ _) j)
        have heq := fun W => eqOpL x.1 x.1 x.2 x.2 W
        rw [decide_eq_true rfl] at heq
        have i0 : (0 : Int) ≤ (k : Int) := by omega
        have i1 : (k : Int) < (n : Int) := by omega
        clear hx hkl hbw hl1 hl2
        go_wp2_with fail
        go_quiet (fail)
        go_wp2_with fail
        go_roundw
        case rel => exact ⟨k + 1, q + nq, by omega, by go_num, by unfold Hid; rw [HQ.out]; unfold World.drewN; simp [Nat.add_assoc]⟩
        case measure => simp [intOf]; omega
      · have hbr := HB3.out.trans (hbw.mono HB3.out.size)
        have HBR := Lib.hid hbr
        have hl1 := HL.out.below hbr
        have hl2 := HR3.out.below hbw
        have HL1 := Lib.hid hl1
        have HL2 := Lib.hid hl2
        have QV1 := Lib.hid (view_any l n c3 A3 c HC.out (by have := H40.out; omega) wr hl2)
        clear hbr hbw hl1 hl2
        go_wp2_with fail
        refine QV1.out.mono ?_
        rintro en w4 ⟨v4, rfl, ho4, hb4, hsm⟩
        have HB4 := Lib.hid (HBR.out.trans (hb4.mono HBR.out.size))
        have HO4 := Lib.hid ho4
        have HSM := Lib.hid hsm
        have QV2 := Lib.hid (view_any l n cap A c HC.out (by have := H40.out; omega) w4 (HL1.out.below hb4))
        have HL4 := Lib.hid (HL2.out.below hb4)
        clear ho4 hb4 hsm QV1
        go_wp2_with fail
        refine QV2.out.mono ?_
        rintro en w5 ⟨v5, rfl, ho5, hb5, _⟩
        have HB5 := Lib.hid (HB4.out.trans (hb5.mono HB4.out.size))
        obtain ⟨A4, c4, hv4, hr4⟩ := (HO4.out.below hb5).rd
        obtain ⟨A5, c5, hv5, hr5⟩ := ho5.rd
        have HL5 := Lib.hid (HL4.out.below hb5)
        have QE := Lib.hid (same_any _ _ c4 c5 c (viewV l c).1 (viewV l c).2.1 A4 A5 w5 hr4 hr5 HSM.out)
        generalize (viewV l c).2.2.length = m at *
        subst hv4 hv5
        generalize (viewV l c).1 = tk at *
        generalize (viewV l c).2.1 = ot at *
        clear ho5 hb5 hr4 hr5 QV2
        go_wp2_with fail
        refine QE.out.mono ?_
        rintro en w6 ⟨rfl, hb6⟩
        have HB6 := Lib.hid (HB5.out.trans (hb6.mono HB5.out.size))
        have QC := Lib.hid (closed_any l n c3 A3 (by have := H40.out; omega) w6 (HL5.out.below hb6) HH.out.clo)
        clear hb6 QE
        go_wp2_with fail
        refine QC.out.mono ?_
        rintro en w7 ⟨rfl, hb7⟩
        have HB7 := Lib.hid (HB6.out.trans (hb7.mono HB6.out.size))
        clear hb7 QC
        go_wp2_with fail
        go_ret
        exact ⟨rfl, HB7.out⟩
end Go.Proofs.YtgogbpkcceadbaaGreatDoor.Sg
