/-
  fold.all and fold.Closed, of closed operations.
-/
import Derived.Test.YtgogbpkcceadbaaGreatDoorDotK
import Derived.Great.Walk
namespace Go.Proofs.YtgogbpkcceadbaaGreatDoor.Vc
open Go.RowKit Go.Proofs.YtgogbpkcceadbaaGreatDoor.Wd Go.Proofs.YtgogbpkcceadbaaGreatDoor.Pk Go.Proofs.YtgogbpkcceadbaaGreatDoor.Sg
set_option linter.unusedVariables false

set_option maxHeartbeats 2000000 in
set_option maxRecDepth 100000 in
theorem all_any (b nn r n : Nat) (D : DataW Unit) (w : World) (hm : MapD w b nn D) (hr : r ≤ 255) (hn : n ≤ 4294967295) (hall : ∀ s, 1 ≤ s → s ≤ min n 1048576 → Go.Maps.has D (dK r s) = true) :
    Calls Tryz.prog 22 #[.map (some b), .int .u8 (r : Int), .int .u32 (n : Int)] w fun e w' => e = .returned (.bool true) ∧ Below w.heap.size w w' := by
  obtain ⟨M, hM⟩ : ∃ M, M = min n 1048576 := ⟨_, rfl⟩
  have hmn : min (n : Int) 1048576 = (M : Int) := by omega
  have hM2 : M ≤ 1048576 := by omega
  rw [← hM] at hall
  have HA := Lib.hid hall
  have HM := Lib.hid hm
  have HR := Lib.hid hr
  clear hall hm hM hr
  go_enter Tryz.func22, Tryz.ntmps22
  go_wp2_with fail
  go_loopw [7] (fun i wr => ∃ s : Nat, 1 ≤ s ∧ s ≤ M + 1 ∧ i = .int .u32 (s : Int) ∧ Hid (Below w.heap.size w wr)) (fun i _ => M + 1 - (intOf i).toNat)
  case atStart => exact ⟨1, by omega, by omega, rfl, Below.refl _ _⟩
  case round =>
    obtain ⟨s, h1, h2, rfl, HB⟩ := hrel
    by_cases hlt : s ≤ M
    · have hlk := MapD.look (World.ownsMap.kept HM.out (grown_none HB.out) (by simp)) HR.out (show s ≤ 4294967295 by omega)
      rw [HA.out s h1 hlt] at hlk
      have i1 : (s : Int) ≤ (M : Int) := by omega
      have i2 : IntKind.u32.wrap ((s : Int) + 1) = (s : Int) + 1 := by rw [IntKind.wrap_u32]; omega
      have HB2 := Lib.hid (HB.out.alloc HB.out.size (.cells #[] 68))
      go_wp2_with fail
      exact ⟨⟨s + 1, by omega, by omega, rfl, HB2.out⟩, by simp [intOf]; omega⟩
    · have i1 : ¬ ((s : Int) ≤ (M : Int)) := by omega
      go_wp2_with fail
      go_ret
      exact ⟨rfl, HB.out⟩
theorem store_unit (W : World) : (stK 68 ⟨W.heap.size, 0, none⟩ (.agg #[])).run Tryz.prog (W.alloc (.cells #[] 68)) = .ok () (W.alloc (.cells #[] 68)) := by
  rw [stK, run_storeVar_row _ W.heap.size 68 68 #[] #[] (heap_alloc_new W _) (by kernel_rfl) rfl (by simp), setCells_alloc_new]
structure ClAt (w0 w : World) (k : Nat) (l : List OpN) : Prop where
  map : MapD w w0.heap.size k (dotsD l)
  blw : Below w0.heap.size w0 w
theorem ClAt.below {w0 w w' : World} {k : Nat} {l : List OpN} (h : ClAt w0 w k l) (hb : Below w.heap.size w w') : ClAt w0 w' k l := ⟨World.ownsMap.kept h.map (grown_none hb) (by simp), h.blw.trans (hb.mono h.blw.size)⟩
attribute [local go_sem ↓] ldKx stKx
set_option maxHeartbeats 8000000 in
set_option maxRecDepth 100000 in
theorem closed_any (l : List OpN) (n cap : Nat) (A : Option Addr) (hn : n ≤ 100) (w : World) (hr : RdO w A n l) (hcl : CloP l) :
    Calls Tryz.prog 9 #[.slice A n cap] w fun e w' => e = .returned (.bool true) ∧ Below w.heap.size w w' := by
  have hfit := hr.fits
  have hmm := @run_makeMap Tryz.prog
  have HM0 := Lib.hid (show ClAt w (w.alloc (.map #[] 0)) 0 [] from ⟨World.ownsMap_made w Tryz.prog 30 unitElem, (Below.refl _ _).alloc (Nat.le_refl _) _⟩)
  have HR := Lib.hid hr
  have HCL := Lib.hid hcl
  clear hr hcl
  go_enter Tryz.func9, Tryz.ntmps9
  go_wp2_with fail
  clear hmm
  generalize w.alloc (.map #[] 0) = w1 at *
  go_loopw [16] (fun i wr => ∃ k : Nat, k ≤ n ∧ i = .int .i64 (k : Int) ∧ Hid (ClAt w wr k (l.take k))) (fun i _ => n - (intOf i).toNat)
  case atStart => exact ⟨0, Nat.zero_le _, rfl, HM0.out⟩
  case round =>
    obtain ⟨k, hk, rfl, HW⟩ := hrel
    by_cases hlt : k < n
    · have hkl : k < l.length := by rw [HR.out.len]; exact hlt
      obtain ⟨x, hx⟩ : ∃ x, l[k]? = some x := ⟨_, List.getElem?_eq_getElem hkl⟩
      have htk : l.take (k + 1) = l.take k ++ [x] := by rw [List.take_add_one, hx]; rfl
      have hfr := HCL.out.fresh hx
      have hdt := HCL.out.ok x (List.mem_of_getElem? hx)
      unfold dotB at hdt
      rw [decide_eq_true_eq] at hdt
      obtain ⟨d1, d2, d3⟩ := hdt
      obtain ⟨ad, hA, _⟩ := HR.out.cell (by omega)
      subst hA
      have hld := (HR.out.below HW.out.blw).load hx _ (Below.refl _ _)
      have hso := store_opN wr x.1 x.2
      obtain ⟨w4, hw4⟩ : ∃ w4, w4 = wr.alloc (.cells (opA x.1).toArray 34) := ⟨_, rfl⟩
      rw [← hw4] at hso
      have b4 : Below wr.heap.size wr w4 := by rw [hw4]; exact (Below.refl _ _).alloc (Nat.le_refl _) _
      have ho4 : OpAt w4 wr.heap.size x.1 := by rw [hw4]; exact OpAt.new wr x.2
      have ld4 := ho4.loadDot
      have hsd := store_dot w4 #[.int .u8 0, .int .u32 0] rfl ((x.1.rep : Nat) : Int) ((x.1.seq : Nat) : Int)
      obtain ⟨w5, hw5⟩ : ∃ w5, w5 = w4.alloc (.cells #[.int .u8 ((x.1.rep : Nat) : Int), .int .u32 ((x.1.seq : Nat) : Int)] 30) := ⟨_, rfl⟩
      rw [← hw5] at hsd
      have s5 : w5.heap.size = w4.heap.size + 1 := by rw [hw5]; simp
      have b5 : Below w4.heap.size w4 w5 := by rw [hw5]; exact (Below.refl _ _).alloc (Nat.le_refl _) _
      have hrow5 : w5.heap[w4.heap.size]? = some (.cells #[.int .u8 ((x.1.rep : Nat) : Int), .int .u32 ((x.1.seq : Nat) : Int)] 30 (0, 0)) := by rw [hw5]; exact heap_alloc_new w4 _
      have hsu := store_unit w5
      obtain ⟨w6, hw6⟩ : ∃ w6, w6 = w5.alloc (.cells #[] 68) := ⟨_, rfl⟩
      rw [← hw6] at hsu
      have e6 := hw6.symm
      have b6 : Below w5.heap.size w5 w6 := by rw [hw6]; exact (Below.refl _ _).alloc (Nat.le_refl _) _
      have hrow6 : w6.heap[w4.heap.size]? = _ := (b6.block _ (by omega)).trans hrow5
      have ld5 := run_loadVar_row (P := Tryz.prog) w5 (w4.heap.size) _ 30 _ _ _ hrow5 Tryz.underlying30 rfl (by kernel_rfl)
      rw [ldKx] at ld5
      have ld6 := run_loadVar_row (P := Tryz.prog) w6 (w4.heap.size) _ 30 _ _ _ hrow6 Tryz.underlying30 rfl (by kernel_rfl)
      rw [ldKx] at ld6
      have l60 : (ldK 5 ⟨w4.heap.size, 0, none⟩).run Tryz.prog w6 = .ok (.int .u8 ((x.1.rep : Nat) : Int)) w6 := load_u8 (by rw [cell_of_row w6 _ 0 _ _ _ hrow6]; rfl)
      have l61 : (ldK 28 ⟨w4.heap.size, 1, none⟩).run Tryz.prog w6 = .ok (.int .u32 ((x.1.seq : Nat) : Int)) w6 := load_u32 (by rw [cell_of_row w6 _ 1 _ _ _ hrow6]; rfl)
      have hw5c := (HW.out.below b4).below b5
      have hw6c := hw5c.below b6
      have hlk := MapD.look hw5c.map x.2.rep x.2.seq
      rw [hfr] at hlk
      obtain ⟨w7, hup, hm7, hg7⟩ := MapD.put hw6c.map x.2.rep x.2.seq (by omega)
      have HW7 := Lib.hid (show ClAt w w7 (k + 1) (l.take (k + 1)) from ⟨by rw [htk, dotsD_snoc]; exact hm7, hw6c.blw.grown hg7 hw6c.blw.size (fun j hj => by injection hj; omega)⟩)
      have i0 : (0 : Int) ≤ (k : Int) := by omega
      have i1 : (k : Int) < (n : Int) := by omega
      clear hx htk hkl hfr hw4 hw5 hw6 s5 b4 b5 b6 ho4 hrow5 hrow6 hw5c hw6c hm7 hg7
      go_wp2_with fail
      exact ⟨⟨k + 1, by omega, by go_num, HW7.out⟩, by simp [intOf]; omega⟩
    · have hkn : l.take k = l := List.take_of_length_le (by rw [HR.out.len]; omega)
      have hw := HW.out
      rw [hkn] at hw
      have hkn2 : k = n := by omega
      subst hkn2
      have HW2 := Lib.hid hw
      clear hkn hw HW
      go_wp2_with fail
      generalize wr = ws at *
      go_loopw [50] (fun i wr => ∃ j : Nat, j ≤ k ∧ i = .int .i64 (j : Int) ∧ Hid (ClAt w wr k l)) (fun i _ => k - (intOf i).toNat)
      case atStart => exact ⟨0, Nat.zero_le _, rfl, HW2.out⟩
      case round =>
        obtain ⟨j, hj, rfl, HWj⟩ := hrel
        by_cases hjk : j < k
        · have hkl : j < l.length := by rw [HR.out.len]; exact hjk
          obtain ⟨x, hx⟩ : ∃ x, l[j]? = some x := ⟨_, List.getElem?_eq_getElem hkl⟩
          have HX := Lib.hid (List.mem_of_getElem? hx)
          obtain ⟨ad, hA, _⟩ := HR.out.cell (by omega)
          subst hA
          have hld := (HR.out.below HWj.out.blw).load hx _ (Below.refl _ _)
          have hso := store_opN wr x.1 x.2
          obtain ⟨w4, hw4⟩ : ∃ w4, w4 = wr.alloc (.cells (opA x.1).toArray 34) := ⟨_, rfl⟩
          rw [← hw4] at hso
          have b4 : Below wr.heap.size wr w4 := by rw [hw4]; exact (Below.refl _ _).alloc (Nat.le_refl _) _
          have ho4 : OpAt w4 wr.heap.size x.1 := by rw [hw4]; exact OpAt.new wr x.2
          have lc := ho4.loadCtx
          have HW4 := Lib.hid (HWj.out.below b4)
          have i0 : (0 : Int) ≤ (j : Int) := by omega
          have i1 : (j : Int) < (k : Int) := by omega
          clear hx hkl hw4 b4 ho4
          go_wp2_with fail
          generalize wr = wq at *
          go_loopw [56] (fun i wr => ∃ r : Nat, r ≤ 16 ∧ i = .int .i64 (r : Int) ∧ Hid (ClAt w wr k l)) (fun i _ => 16 - (intOf i).toNat)
          case atStart => exact ⟨0, Nat.zero_le _, rfl, HW4.out⟩
          case round =>
            obtain ⟨r, hr, rfl, HWr⟩ := hrel
            by_cases hr16 : r < 16
            · have hix := vec_index x.2.ctx hr16 wr
              have hsm := x.2.ctx.at_ r
              have QA := Lib.hid (all_any w.heap.size k r (x.1.ctx.getD r 0) (dotsD l) wr HWr.out.map (by omega) hsm (fun s h1 h2 => HCL.out.there HX.out hr16 h1 h2))
              generalize x.1.ctx.getD r 0 = nn at *
              have i2 : (r : Int) < 16 := by omega
              have i3 : IntKind.u8.wrap (r : Int) = (r : Int) := by rw [IntKind.wrap_u8]; omega
              go_wp2_with fail
              refine QA.out.mono ?_
              rintro e w6 ⟨rfl, hb6⟩
              have HW6 := Lib.hid (HWr.out.below hb6)
              clear hb6 QA
              go_wp2_with fail
              go_roundw
              case rel => exact ⟨r + 1, by omega, by go_num, HW6.out⟩
              case measure => simp [intOf]; omega
            · have i2 : ¬ (r : Int) < 16 := by omega
              go_wp2_with fail
              exact ⟨⟨j + 1, by omega, by go_num, HWr.out⟩, by simp [intOf]; omega⟩
        · go_wp2_with fail
          go_ret
          exact ⟨rfl, HWj.out.blw⟩
end Go.Proofs.YtgogbpkcceadbaaGreatDoor.Vc
