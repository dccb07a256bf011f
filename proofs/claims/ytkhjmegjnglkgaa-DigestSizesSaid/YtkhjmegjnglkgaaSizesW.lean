/-
  The walk of the law 'truglaw19.DigestSizes'.
-/
import Derived.Test.YtkhjmegjnglkgaaDigAlive
namespace Go.Proofs.Ytkhjmegjnglkgaa.Vc
open Go.RowKit Go.Proofs.Ytkhjmegjnglkgaa.Wd
set_option linter.unusedVariables false

theorem spA_newB (w : World) (B : Nat) (hB : w.heap.size = B) (ty : TypeId) (x y z : Nat) : ∀ (j : Nat) (u : Value), (spA (x, y, z))[j]? = some u → (w.alloc (.cells #[.int .u8 ((x : Nat) : Int), .int .u32 ((y : Nat) : Int), .int .u32 ((z : Nat) : Int)] ty)).cell? ((⟨B, 0, none⟩ : Addr).add j) = some u := by
  subst hB
  exact spA_new w ty x y z
set_option maxHeartbeats 4000000 in
set_option maxRecDepth 100000 in
theorem digestSizes_any (w : World) (n cap : Nat) (A : Option Addr) (l : List Sp) (hnc : n ≤ cap) (hr : RdS w A n l) :
    Calls Try.prog 4 #[.slice A n cap] w fun e w' => e = .returned (.bool true) ∧ Below w.heap.size w w' := by
  have hfit := hr.fits
  have HR := Lib.hid hr
  clear hr
  by_cases hn : n ≤ 60
  · go_enter Try.func4, Try.ntmps4
    go_wp2_with fail
    refine (alive_any w).mono ?_
    rintro e w1 ⟨rfl, hb1⟩
    have HB1 := Lib.hid hb1
    have HL := Lib.hid (HR.out.below hb1)
    clear hb1
    go_wp2_with fail
    go_loopw [3, 13] (fun d i wr => ∃ k : Nat, k ≤ n ∧ i = .int .i64 (k : Int) ∧ Hid (OwnS 38 wr w1.heap.size d (l.take k)) ∧ Hid (Below w1.heap.size w1 wr)) (fun _ i _ => n - (intOf i).toNat)
    case atStart => exact ⟨0, Nat.zero_le _, rfl, OwnS.nil_ _ _ _, Below.refl _ _⟩
    case round =>
      obtain ⟨k, hk, rfl, HO, HW⟩ := hrel
      have hsz := HW.out.size
      by_cases hlt : k < n
      · obtain ⟨ad, rfl, hcl⟩ := (HL.out.below HW.out).cell (by omega)
        obtain ⟨h1, h2, h3⟩ := hcl k hlt
        have hsn := takeS_snoc (l := l) (k := k) (by rw [HL.out.len]; exact hlt)
        have htl : (l.take k).length ≤ k := List.length_take_le _ _
        have HTL := Lib.hid htl
        obtain ⟨s, hs⟩ : ∃ s, s = l.getD k (0, 0, 0) := ⟨_, rfl⟩
        rw [← hs] at h1 h2 h3 hsn
        have HSN := Lib.hid hsn
        obtain ⟨r, f, t⟩ := s
        dsimp only at h1 h2 h3
        have i0 : (0 : Int) ≤ (k : Int) := by omega
        have i1 : (k : Int) < (n : Int) := by omega
        rw [← add_of_add] at h2 h3
        have h2' : wr.cell? { block := (ad.add (k * 3)).block, off := (ad.add (k * 3)).off + 1 } = some (.int .u32 (f : Int)) := h2
        have h3' : wr.cell? { block := (ad.add (k * 3)).block, off := (ad.add (k * 3)).off + 2 } = some (.int .u32 (t : Int)) := h3
        clear hcl hs hsn h2 h3 htl
        go_wp2_with (at_builtin; refine appS_list (sp := (r, f, t)) Try.underlying26 infoS w1.heap.size rfl (.tmp 17) (.tmp 19) rfl rfl rfl ((HO.out.alloc _).alloc _) (spA_newB _ (wr.heap.size + 1) (by simp) _ r f t) (by have := HTL.out; omega) (by simp; omega) ?_; intro v4 w4 ho4 hg4; have HB4 := Lib.hid (((HO.out.alloc _).alloc _).to_below ((HW.out.alloc hsz _).alloc (by simp; omega) _) (by simp; omega) hg4); have HO4 := Lib.hid ho4; clear ho4 hg4)
        go_roundw
        case rel => exact ⟨k + 1, by omega, by go_num, by unfold Hid; rw [HSN.out]; exact HO4.out, HB4.out⟩
        case measure => simp [intOf]; omega
      · have hkn : l.take k = l := List.take_of_length_le (by rw [HL.out.len]; omega)
        have hq := HO.out
        rw [hkn] at hq
        have HQ := Lib.hid hq
        obtain ⟨A3, c3, hv3, hc3, hr3⟩ := hq.rd HL.out.small
        subst hv3
        have HR3 := Lib.hid hr3
        have HLN := Lib.hid HL.out.len
        clear hkn hq hr3
        go_wp2_with fail
        refine (size_any l.length _ _ l _ HR3.out (by rw [HLN.out]; omega)).mono ?_
        rintro e w5 ⟨rfl, hb5⟩
        have HB5 := Lib.hid (HW.out.trans (hb5.mono hsz))
        clear hb5
        go_wp2_with fail
        refine (sizeR_any n _ _ l _ (HL.out.below HB5.out) (by omega)).mono ?_
        rintro e w6 ⟨rfl, hb6⟩
        have HB6 := Lib.hid (HB5.out.trans (hb6.mono HB5.out.size))
        clear hb6
        go_wp2_with fail
        go_ret
        exact ⟨rfl, HB1.out.trans (HB6.out.mono HB1.out.size)⟩
  · go_enter Try.func4, Try.ntmps4
    go_wp2_with fail
    refine (alive_any w).mono ?_
    rintro e w1 ⟨rfl, hb1⟩
    have HB1 := Lib.hid hb1
    clear hb1
    go_wp2_with fail
    go_ret
    exact ⟨rfl, HB1.out⟩
end Go.Proofs.Ytkhjmegjnglkgaa.Vc
