/-
  truglaw08.History.
-/
import Derived.Test.YtgogbpkcceadbaaGreatDoorRefD
namespace Go.Proofs.YtgogbpkcceadbaaGreatDoor.Vc
open Go.RowKit Go.Proofs.YtgogbpkcceadbaaGreatDoor.Wd Go.Proofs.YtgogbpkcceadbaaGreatDoor.Pk Go.Proofs.YtgogbpkcceadbaaGreatDoor.Sg
set_option linter.unusedVariables false
attribute [local go_sem ↓] ldKx stKx

/-- What a history is, as far as it is asked. -/
structure HistP (l : List OpN) : Prop where
  len : l.length ≤ 40
  clo : CloP l
  right : ∀ x ∈ l, RightO x.1
theorem VecAt.put {w : World} {g : Nat} {xs : List Nat} (h : VecAt w g xs) {j : Nat} (hj : j < 16) (n : Nat) (hn : n ≤ 4294967295) :
    (stK 28 ⟨g, j, none⟩ (.int .u32 (n : Int))).run Tryz.prog w = .ok () (w.setCell ⟨g, j, none⟩ (.int .u32 (n : Int))) ∧ VecAt (w.setCell ⟨g, j, none⟩ (.int .u32 (n : Int))) g (xs.set j n) := by
  refine ⟨store_u32 _ (h.cell hj) (by simp [World.frozen?, h.row]), ⟨⟨by rw [List.length_set]; exact h.vec.len, fun x hx => ?_⟩, ?_⟩⟩
  · rcases List.mem_or_eq_of_mem_set hx with hx | hx
    · exact h.vec.small x hx
    · rw [hx]; exact hn
  · rw [setCell_eq_setRow w g j _ _ _ _ h.row, setRow_heap w g _ _ _ _ h.row]
    congr 2
    unfold vecA
    rw [List.map_set]
    apply Array.ext'
    simp
set_option maxHeartbeats 8000000 in
set_option maxRecDepth 100000 in
theorem history_any (l : List OpN) (n cap : Nat) (A : Option Addr) (hcap : n ≤ cap) (w : World) (hl : RdO w A n l) :
    Calls Tryz.prog 5 #[.slice A n cap] w fun e w' => GivesB (HistP l) e ∧ Below w.heap.size w w' := by
  have hfit := hl.fits
  by_cases h40 : n ≤ 40
  · have n1 : ¬ ((n : Int) > 40) := by omega
    have HL := Lib.hid hl
    have QC := Lib.hid (closedR_any l n cap A (by omega) hcap w hl)
    have H40 := Lib.hid h40
    clear hl h40
    go_enter Tryz.func5, Tryz.ntmps5
    go_wp2_with fail
    refine QC.out.mono ?_
    rintro e w2 ⟨hgb, hg2⟩
    obtain ⟨c, rfl, hc⟩ := hgb.ex
    have HB2 := Lib.hid hg2.below
    clear hgb hg2 QC
    cases c with
    | false =>
      clear hc
      go_wp2_with fail
      go_ret
      exact ⟨⟨⟨false, rfl, fun h => by cases h⟩⟩, HB2.out⟩
    | true =>
      have HC := Lib.hid (hc rfl)
      have HB3 := Lib.hid (HB2.out.alloc HB2.out.size (.cells (vecA (List.replicate 16 0)) 32))
      have HV3 := Lib.hid (VecAt.new w2 zeroVec)
      have e3 : w2.alloc (.cells #[.int .u32 0, .int .u32 0, .int .u32 0, .int .u32 0, .int .u32 0, .int .u32 0, .int .u32 0, .int .u32 0, .int .u32 0, .int .u32 0, .int .u32 0, .int .u32 0, .int .u32 0, .int .u32 0, .int .u32 0, .int .u32 0] 32) = w2.alloc (.cells (vecA (List.replicate 16 0)) 32) := rfl
      have hG := HB2.out.size
      generalize w2.alloc (.cells (vecA (List.replicate 16 0)) 32) = w3 at *
      clear hc
      go_wp2_with fail
      clear e3
      generalize w2.heap.size = G at *
      go_loopw [20] (fun i wr => ∃ (k : Nat) (kn : List Nat), k ≤ n ∧ i = .int .i64 (k : Int) ∧ Hid (Below w.heap.size w wr) ∧ Hid (VecAt wr G kn) ∧ Hid (∀ x ∈ l.take k, RightO x.1)) (fun i _ => n - (intOf i).toNat)
      case atStart => exact ⟨0, _, Nat.zero_le _, rfl, HB3.out, HV3.out, by unfold Hid; first | trivial | simp⟩
      case round =>
        obtain ⟨k, kn, hk, rfl, HW, HV, HR⟩ := hrel
        by_cases hlt : k < n
        · have hkl : k < l.length := by rw [HL.out.len]; exact hlt
          obtain ⟨x, hx⟩ : ∃ x, l[k]? = some x := ⟨_, List.getElem?_eq_getElem hkl⟩
          have HTK := Lib.hid (show l.take (k + 1) = l.take k ++ [x] by rw [List.take_add_one, hx]; rfl)
          obtain ⟨ad, hA, _⟩ := HL.out.cell (by omega)
          subst hA
          have hld := (HL.out.below HW.out).load hx _ (Below.refl _ _)
          have hso := store_opN wr x.1 x.2
          obtain ⟨w4, hw4⟩ : ∃ w4, w4 = wr.alloc (.cells (opA x.1).toArray 34) := ⟨_, rfl⟩
          rw [← hw4] at hso
          have b4 : Below wr.heap.size wr w4 := by rw [hw4]; exact (Below.refl _ _).alloc (Nat.le_refl _) _
          have ho4 : OpAt w4 wr.heap.size x.1 := by rw [hw4]; exact OpAt.new wr x.2
          have hv4 := HV.out.below b4
          have lv := hv4.load
          have lo := ho4.loads
          have HO4 := Lib.hid ho4
          have HV4 := Lib.hid hv4
          have HB4 := Lib.hid (HW.out.trans (b4.mono HW.out.size))
          have QY := Lib.hid (readyR_any kn x.1 HV.out.vec x.2)
          have i0 : (0 : Int) ≤ (k : Int) := by omega
          have i1 : (k : Int) < (n : Int) := by omega
          have hltG := HV.out.lt
          clear hx hkl hw4 b4 ho4 hv4
          go_wp2_with fail
          refine (QY.out _).mono ?_
          rintro e w5 ⟨hgn, hg5⟩
          obtain ⟨c, hc9, rfl, hc⟩ := hgn.ex
          have HB5 := Lib.hid (HB4.out.trans (hg5.below.mono HB4.out.size))
          have ho5 := HO4.out.below hg5.below
          have hv5 := HV4.out.below hg5.below
          have l0 := ho5.l0
          have l1 := ho5.l1
          have HV5 := Lib.hid hv5
          clear hgn hg5 ho5 hv5 HO4 HV4 HB4 lv lo hld hso QY
          by_cases hc0 : c = 0
          · have hrt := hc hc0
            subst hc0
            have hr16 := hrt.rep
            obtain ⟨st, hv6⟩ := HV5.out.put hr16 x.1.seq x.2.seq
            have HV6 := Lib.hid hv6
            have HB6 := Lib.hid (HB5.out.setCell (p := ⟨G, x.1.rep, none⟩) (by show _ ≤ G; omega) (.int .u32 ((x.1.seq : Nat) : Int)))
            have HRT := Lib.hid hrt
            have i2 : (0 : Int) ≤ ((x.1.rep : Nat) : Int) := by omega
            have i3 : ((x.1.rep : Nat) : Int) < 16 := by omega
            clear hc hrt hv6 hr16 hc9
            go_wp2_with fail
            go_roundw
            case rel => exact ⟨k + 1, _, by omega, by go_num, HB6.out, HV6.out, by unfold Hid; rw [HTK.out]; intro y hy; rcases List.mem_append.1 hy with hy | hy; exact HR.out y hy; rw [List.mem_singleton.1 hy]; exact HRT.out⟩
            case measure => simp [intOf]; omega
          · have n2 : ¬ (c : Int) = 0 := by omega
            have d2 : ((c : Int) == 0) = false := by simp; omega
            clear hc hc0
            go_wp2_with fail
            go_ret
            exact ⟨⟨⟨false, rfl, fun h => by cases h⟩⟩, HB5.out⟩
        · have hkn : l.take k = l := List.take_of_length_le (by rw [HL.out.len]; omega)
          have hr := HR.out
          rw [hkn] at hr
          have hkn2 : k = n := by omega
          have HH := Lib.hid (show HistP l from ⟨by have := HL.out.len; have := H40.out; omega, HC.out, hr⟩)
          subst hkn2
          have HW2 := Lib.hid HW.out
          clear hkn hr HR HW HV
          go_wp2_with fail
          generalize wr = ws at *
          go_loopw [38] (fun i wr => ∃ j : Nat, j ≤ k ∧ i = .int .i64 (j : Int) ∧ Hid (Below w.heap.size w wr)) (fun i _ => k - (intOf i).toNat)
          case atStart => exact ⟨0, Nat.zero_le _, rfl, HW2.out⟩
          case round =>
            obtain ⟨j, hj, rfl, HWj⟩ := hrel
            by_cases hjk : j < k
            · have hkl : j < l.length := by rw [HL.out.len]; exact hjk
              obtain ⟨x, hx⟩ : ∃ x, l[j]? = some x := ⟨_, List.getElem?_eq_getElem hkl⟩
              obtain ⟨ad, hA, _⟩ := HL.out.cell (by omega)
              subst hA
              have hld := (HL.out.below HWj.out).load hx _ (Below.refl _ _)
              have hso := store_opN wr x.1 x.2
              obtain ⟨w4, hw4⟩ : ∃ w4, w4 = wr.alloc (.cells (opA x.1).toArray 34) := ⟨_, rfl⟩
              rw [← hw4] at hso
              have b4 : Below wr.heap.size wr w4 := by rw [hw4]; exact (Below.refl _ _).alloc (Nat.le_refl _) _
              have HO4 := Lib.hid (show OpAt w4 wr.heap.size x.1 by rw [hw4]; exact OpAt.new wr x.2)
              have HB4 := Lib.hid (HWj.out.trans (b4.mono HWj.out.size))
              have i0 : (0 : Int) ≤ (j : Int) := by omega
              have i1 : (j : Int) < (k : Int) := by omega
              clear hx hkl hw4 b4
              go_wp2_with fail
              clear hld hso
              generalize wr.heap.size = g at *
              generalize wr = wq at *
              go_loopw [44] (fun i wr => ∃ r : Nat, r ≤ k ∧ i = .int .i64 (r : Int) ∧ Hid (Below w.heap.size w wr) ∧ Hid (OpAt wr g x.1)) (fun i _ => k - (intOf i).toNat)
              case atStart => exact ⟨0, Nat.zero_le _, rfl, HB4.out, HO4.out⟩
              case round =>
                obtain ⟨r, hr, rfl, HWr, HOr⟩ := hrel
                by_cases hrk : r < k
                · have hkl : r < l.length := by rw [HL.out.len]; exact hrk
                  obtain ⟨y, hy⟩ : ∃ y, l[r]? = some y := ⟨_, List.getElem?_eq_getElem hkl⟩
                  have hld := (HL.out.below HWr.out).load hy _ (Below.refl _ _)
                  have hso := store_opN wr y.1 y.2
                  obtain ⟨w4, hw4⟩ : ∃ w4, w4 = wr.alloc (.cells (opA y.1).toArray 34) := ⟨_, rfl⟩
                  rw [← hw4] at hso
                  have b4 : Below wr.heap.size wr w4 := by rw [hw4]; exact (Below.refl _ _).alloc (Nat.le_refl _) _
                  have hp4 : OpAt w4 wr.heap.size y.1 := by rw [hw4]; exact OpAt.new wr y.2
                  have hx4 := HOr.out.below b4
                  have lc := hx4.loadCtx
                  have ld := hp4.loadDot
                  have HP4 := Lib.hid hp4
                  have HX4 := Lib.hid hx4
                  have HB4 := Lib.hid (HWr.out.trans (b4.mono HWr.out.size))
                  have QH := Lib.hid (hasR_any x.1.ctx y.1.rep y.1.seq x.2.ctx y.2.rep y.2.seq)
                  have QB := Lib.hid (belowR_any y.1.ctx x.1.ctx y.2.ctx x.2.ctx)
                  have i2 : (0 : Int) ≤ (r : Int) := by omega
                  have i3 : (r : Int) < (k : Int) := by omega
                  clear hy hkl hw4 b4 hp4 hx4
                  go_wp2_with fail
                  refine (QH.out _).mono ?_
                  rintro e w5 ⟨rfl, hg5⟩
                  have HB5 := Lib.hid (HB4.out.trans (hg5.below.mono HB4.out.size))
                  have hp5 := HP4.out.below hg5.below
                  have hx5 := HX4.out.below hg5.below
                  have lc5 := hp5.loadCtx
                  have lx5 := hx5.loadCtx
                  have HX5 := Lib.hid hx5
                  clear hg5 hp5 hx5 HP4 HX4 HB4 lc ld QH hld hso
                  cases hb : hasB x.1.ctx y.1.rep y.1.seq with
                  | false =>
                    clear hb
                    go_wp2_with fail
                    go_roundw
                    case rel => exact ⟨r + 1, by omega, by go_num, HB5.out, HX5.out⟩
                    case measure => simp [intOf]; omega
                  | true =>
                    clear hb
                    go_wp2_with fail
                    refine (QB.out _).mono ?_
                    rintro e w6 ⟨⟨c, rfl⟩, hg6⟩
                    have HB6 := Lib.hid (HB5.out.trans (hg6.below.mono HB5.out.size))
                    have HX6 := Lib.hid (HX5.out.below hg6.below)
                    clear hg6 lc5 lx5 QB
                    cases c with
                    | false =>
                      go_wp2_with fail
                      go_ret
                      exact ⟨⟨⟨false, rfl, fun h => by cases h⟩⟩, HB6.out⟩
                    | true =>
                      go_wp2_with fail
                      go_roundw
                      case rel => exact ⟨r + 1, by omega, by go_num, HB6.out, HX6.out⟩
                      case measure => simp [intOf]; omega
                · go_wp2_with fail
                  exact ⟨⟨j + 1, by omega, by go_num, HWr.out⟩, by simp [intOf]; omega⟩
            · go_wp2_with fail
              go_ret
              exact ⟨⟨⟨true, rfl, fun _ => HH.out⟩⟩, HWj.out⟩
  · have n1 : ((n : Int) > 40) := by omega
    clear hl h40
    go_enter Tryz.func5, Tryz.ntmps5
    go_wp2_with fail
    go_ret
    exact ⟨⟨⟨false, rfl, fun h => by cases h⟩⟩, Below.refl _ _⟩
end Go.Proofs.YtgogbpkcceadbaaGreatDoor.Vc
