/-
  The walk of the law 'truglaw10.FrameJoin'.
-/
import Derived.Test.YtchncgniiohgdaaDoorFrameAlive
import Derived.Test.YtchncgniiohgdaaDoorFrameKept
namespace Go.Proofs.YtchncgniiohgdaaDoor.FrameL
open Go.RowKit Go.Proofs.YtchncgniiohgdaaDoor.Wd Go.Proofs.YtchncgniiohgdaaDoor.FrameP Go.Proofs.YtchncgniiohgdaaDoor.CrcW Go.Proofs.YtchncgniiohgdaaDoor.VintW Go.Proofs.YtchncgniiohgdaaDoor.FrameW
set_option linter.unusedVariables false

theorem RdL_bytes {w : World} {A : Option Addr} {n : Nat} {l : List (List Nat)} (h : RdL w A n l) : ∀ b ∈ l, ∀ x ∈ b, x < 256 := by
  intro b hb x hx
  obtain ⟨j, hj, rfl⟩ := List.getElem_of_mem hb
  obtain ⟨ad, _, hc⟩ := h.cell (by rw [← h.len]; omega)
  obtain ⟨B, c, _, _, h3⟩ := hc j (by rw [← h.len]; exact hj)
  have e : l.getD j [] = l[j] := by rw [List.getD_eq_getElem?_getD, List.getElem?_eq_getElem hj]; rfl
  rw [e] at h3
  exact h3.small x hx

set_option maxHeartbeats 4000000 in
set_option maxRecDepth 100000 in
theorem frameJoin_any (w : World) (n cap : Nat) (A : Option Addr) (l : List (List Nat)) (hc : n ≤ cap) (hl : RdL w A n l) (n' cap' : Nat) (A' : Option Addr) (rs : List Nat) (hc' : n' ≤ cap') (hx : RdB w A' n' rs) (ht : Tab w) :
    Calls Tryd.prog 7 #[.slice A n cap, .slice A' n' cap'] w fun e w' => e = .returned (.bool true) ∧ Below w.heap.size w w' := by
  have hfit := hx.fits
  have hfitl := hl.fits
  have hby := RdL_bytes hl
  have HX := Lib.hid hx
  have HL := Lib.hid hl
  have HLL := Lib.hid hl.len
  have HT := Lib.hid ht
  have HBY := Lib.hid hby
  clear hx ht hl hby
  by_cases h1 : 3000 < n'
  · go_enter Tryd.func7, Tryd.ntmps7
    go_wp2_with fail
    refine (alive_any w HT.out).mono ?_
    rintro e w1 ⟨rfl, hb⟩
    have HB := Lib.hid hb
    clear hb
    go_wp2_with fail
    go_ret
    exact ⟨rfl, HB.out⟩
  · go_enter Tryd.func7, Tryd.ntmps7
    go_wp2_with fail
    refine (alive_any w HT.out).mono ?_
    rintro e w1 ⟨rfl, hb⟩
    have HB := Lib.hid hb
    have HX1 := Lib.hid (HX.out.below hb)
    have HL1 := Lib.hid (HL.out.below hb)
    have HT1 := Lib.hid (HT.out.below hb)
    clear hb
    go_wp2_with fail
    go_loopw [5, 6, 7] (fun d q i wr => ∃ k : Nat, k ≤ n ∧ k ≤ 20 ∧ i = .int .i64 (k : Int) ∧ q = .int .i64 ((kept (l.take k)).length : Int) ∧ Hid (OwnB wr w1.heap.size d (frames (kept (l.take k)))) ∧ Hid (Below w1.heap.size w1 wr)) (fun _ _ i _ => 20 - (intOf i).toNat)
    case atStart => exact ⟨0, Nat.zero_le _, Nat.zero_le _, rfl, rfl, OwnB.nil_ _ _, Below.refl _ _⟩
    case round =>
      obtain ⟨k, hk, hk20, rfl, rfl, HO, HW⟩ := hrel
      by_cases hgo : k < n ∧ k < 20
      · obtain ⟨hlt, hlt20⟩ := hgo
        obtain ⟨ad, rfl, hcl⟩ := (HL1.out.below HW.out).cell (by omega)
        obtain ⟨B, c, hcell, hle, hrb⟩ := hcl k hlt
        have i0 : (0 : Int) ≤ (k : Int) := Int.natCast_nonneg _
        have i1 : (k : Int) < (n : Int) := by omega
        have hsz := HW.out.size
        have hkl : k < l.length := by rw [HLL.out]; exact hlt
        have hkn := kept_length l k
        by_cases hb : (l.getD k []).length ≤ 300
        · have hki := kept_in hkl hb
          have hki2 : frames (kept (l.take (k + 1))) = frames (kept (l.take k)) ++ wrap (l.getD k []) := by rw [hki, frames_snoc]
          have hki3 : (kept (l.take (k + 1))).length = (kept (l.take k)).length + 1 := by rw [hki, List.length_append]; rfl
          have hfl : (frames (kept (l.take k))).length ≤ 6280 := by
            have h2 := frames_le (l := kept (l.take k)) (fun b hb => (kept_mem hb).2)
            omega
          have hwl : (wrap (l.getD k [])).length ≤ 314 := by
            have h2 := (VintP.enc_length (l.getD k []).length).2
            rw [wrap_length]
            omega
          have q1 := wrap_any _ c B (l.getD k []) wr hrb (HT1.out.below HW.out) (by omega)
          obtain ⟨M, hM⟩ : ∃ M, M = (l.getD k []).length := ⟨_, rfl⟩
          rw [← hM] at hcell q1 hb
          generalize (kept (l.take k)).length = K at *
          generalize frames (kept (l.take k)) = fs at *
          generalize wrap (l.getD k []) = zs at *
          have Q1 := Lib.hid q1
          have HK2 := Lib.hid hki2
          have HK3 := Lib.hid hki3
          clear hcl hrb q1 hki hki2 hki3 hM hle
          go_wp2_with fail
          refine Q1.out.mono ?_
          rintro e w3 ⟨v3, rfl, ho3, hb3⟩
          have HO3 := Lib.hid (HO.out.below hb3)
          have HB3 := Lib.hid (HW.out.trans (hb3.mono hsz))
          have hsz3 := HB3.out.size
          obtain ⟨A3, c3, hv3, hc3, hr3⟩ := ho3.rd
          subst hv3
          have HR3 := Lib.hid hr3
          clear ho3 hb3 hr3
          go_wp2_with (at_builtin; refine app_list w1.heap.size rfl (.tmp 46) (.tmp 47) rfl rfl rfl HO3.out HR3.out (by omega) hsz3 ?_; intro v4 w4 ho4 hg4 ha4; have HB4 := Lib.hid (HO3.out.to_below HB3.out hsz3 hg4); have HO4 := Lib.hid ho4; clear ho4 hg4 ha4)
          go_roundw
          case rel => exact ⟨k + 1, by omega, by omega, by go_num, by rw [HK3.out]; go_num, by unfold Hid; rw [HK2.out]; exact HO4.out, HB4.out⟩
          case measure => simp [intOf]; omega
        · have hko := kept_out hkl hb
          have HKO := Lib.hid hko
          obtain ⟨M, hM⟩ : ∃ M, M = (l.getD k []).length := ⟨_, rfl⟩
          rw [← hM] at hcell hb
          clear hcl hrb hko hM hle
          go_wp2_with fail
          go_roundw
          case rel => exact ⟨k + 1, by omega, by omega, by go_num, by rw [HKO.out], by unfold Hid; rw [HKO.out]; exact HO.out, HW.out⟩
          case measure => simp [intOf]; omega
      · have hks : ∀ b ∈ kept (l.take k), b.length ≤ 4096 ∧ ∀ x ∈ b, x < 256 := fun b hb => by
          have h2 := kept_mem hb
          exact ⟨by omega, HBY.out b (List.mem_of_mem_take h2.1)⟩
        have hfl : (frames (kept (l.take k))).length ≤ 6280 := by
          have h2 := frames_le (l := kept (l.take k)) (fun b hb => (kept_mem hb).2)
          have h3 := kept_length l k
          omega
        have hkn := kept_length l k
        have hsf := scan_frames (l := kept (l.take k)) hks (rest := rs) HX1.out.small
        obtain ⟨t, htt⟩ : ∃ t, t = scan rs := ⟨_, rfl⟩
        obtain ⟨m, j⟩ := t
        have hjl := (scan_le _ rs (Nat.le_refl _) HX1.out.small).1
        rw [← htt] at hsf hjl
        rw [HX1.out.len] at hjl
        dsimp only at hjl
        have hrn := HX1.out.len
        generalize kept (l.take k) = K at *
        have q3 := fun W (hW : Below w1.heap.size w1 W) => scan_any n' cap' A' rs W hc' (HX1.out.below hW) (HT1.out.below hW) (by omega)
        rw [← htt] at q3
        have Q3 := Lib.hid q3
        have HRN := Lib.hid hrn
        obtain ⟨F, hF⟩ : ∃ F, F = (frames K).length := ⟨_, rfl⟩
        rw [← hF] at hfl hsf
        have HSF := Lib.hid hsf
        have HF := Lib.hid hF
        obtain ⟨A5, c5, hv5, hc5, hr5⟩ := HO.out.rd
        rw [← hF] at hv5 hc5 hr5
        subst hv5
        have HR5 := Lib.hid hr5
        generalize frames K = fs at *
        obtain ⟨N, hN⟩ : ∃ N, N = K.length := ⟨_, rfl⟩
        obtain ⟨M, hM⟩ : ∃ M, M = m.length := ⟨_, rfl⟩
        rw [← hN] at hkn
        have HN := Lib.hid hN
        have HM := Lib.hid hM
        have hsz := HW.out.size
        clear q3 hsf hks hF htt hr5
        rw [← hN]
        clear hN hM hrn
        have hcase : (n ≤ k) ∨ (k < n ∧ 20 ≤ k) := by omega
        rcases hcase with g | ⟨g, g'⟩
        all_goals
          go_wp2_with (first
            | (at_builtin; refine app_list w1.heap.size rfl (.const (.slice none 0 0)) (.tmp 52) rfl rfl rfl (OwnB.nil_ _ _) HR5.out (by simp; omega) hsz ?_; intro v6 w6 ho6 hg6 ha6; rw [List.nil_append] at ho6; have HB6 := Lib.hid ((OwnB.nil_ wr w1.heap.size).to_below HW.out hsz hg6); have HO6 := Lib.hid ho6; have hsz6 := HB6.out.size; have HHG := Lib.hid hg6; clear ho6 hg6 ha6)
            | (at_builtin; refine app_list w1.heap.size rfl (.tmp 53) (.tmp 54) rfl rfl rfl HO6.out (HX1.out.below HB6.out) (by rw [← HF.out]; omega) hsz6 ?_; intro v7 w7 ho7 hg7 ha7; have HB7 := Lib.hid (HO6.out.to_below HB6.out hsz6 hg7); have HO7 := Lib.hid ho7; clear ho7 hg7 ha7))
          have hl7 : (fs ++ rs).length = F + n' := by rw [List.length_append, ← HF.out, HRN.out]
          obtain ⟨A7, c7, hv7, hc7, hr7⟩ := HO7.out.rd
          rw [hl7] at hv7 hc7 hr7
          subst hv7
          have q8 := scan_any (F + n') c7 A7 (fs ++ rs) w7 hc7 hr7 (HT1.out.below HB7.out) (by omega)
          rw [HSF.out] at q8
          have Q8 := Lib.hid q8
          clear hl7 hr7 q8
          refine Q8.out.mono ?_
          rintro e w8 ⟨v8, rfl, ho8, hb8⟩
          have hsz7 := HB7.out.size
          have HB8 := Lib.hid (HB7.out.trans (hb8.mono hsz7))
          obtain ⟨A8, c8, hv8, hc8, hr8⟩ := ho8.rd
          have hl8 : (K ++ m).length = N + M := by rw [List.length_append, ← HN.out, ← HM.out]
          dsimp only at hv8 hc8 hr8
          rw [hl8] at hv8 hc8 hr8
          subst hv8
          have HR8 := Lib.hid hr8
          have hM := hr8.fits
          dsimp only
          clear ho8 hb8 hr8 hl8
          go_wp2_with fail
          refine (Q3.out w8 HB8.out).mono ?_
          rintro e w9 ⟨v9, rfl, ho9, hb9⟩
          have hsz8 := HB8.out.size
          have HB9 := Lib.hid (HB8.out.trans (hb9.mono hsz8))
          obtain ⟨A9, c9, hv9, hc9, hr9⟩ := ho9.rd
          dsimp only at hv9 hc9 hr9
          rw [← HM.out] at hv9 hc9 hr9
          subst hv9
          have HR9 := Lib.hid hr9
          have HR8b := Lib.hid (HR8.out.below hb9)
          dsimp only
          clear ho9 hb9 hr9
          have hge : ∀ z, z < M → (K ++ m).getD (N + z) [] = m.getD z [] := fun z hz => by
            rw [List.getD_eq_getElem?_getD, List.getD_eq_getElem?_getD, List.getElem?_append_right (by rw [← HN.out]; omega), ← HN.out]
            congr 2
            omega
          have HGE := Lib.hid hge
          clear hge
          go_wp2_with fail
          go_loopw [81] (fun i wz => ∃ z : Nat, z ≤ M ∧ i = .int .i64 (z : Int) ∧ Hid (Below w9.heap.size w9 wz)) (fun i _ => M - (intOf i).toNat)
          case atStart => exact ⟨0, Nat.zero_le _, rfl, Below.refl _ _⟩
          case round =>
            obtain ⟨z, hz, rfl, HZ⟩ := hrel
            by_cases hlt : z < M
            · have i0 : (0 : Int) ≤ (N : Int) + (z : Int) := by omega
              have i1 : (N : Int) + (z : Int) < (N : Int) + (M : Int) := by omega
              have j0 : (0 : Int) ≤ (z : Int) := by omega
              have j1 : (z : Int) < (M : Int) := by omega
              obtain ⟨a8, rfl, hcl8⟩ := (HR8b.out.below HZ.out).cell (by omega)
              obtain ⟨a9, rfl, hcl9⟩ := (HR9.out.below HZ.out).cell (by omega)
              obtain ⟨B8, d8, p4, p5, p6⟩ := hcl8 (N + z) (by omega)
              obtain ⟨B9, d9, p7, p8, p9⟩ := hcl9 z hlt
              rw [HGE.out z hlt] at p4 p5 p6
              have cvd := fun j => conv_str (p6.drewN j) d8
              have cve := fun j => conv_str (p9.drewN j) d9
              clear hcl8 hcl9
              generalize m.getD z [] = ys at *
              obtain ⟨Y, hY⟩ : ∃ Y, Y = N + z := ⟨_, rfl⟩
              have eY : (N : Int) + (z : Int) = (Y : Int) := by omega
              have k0 : (0 : Int) ≤ (Y : Int) := by omega
              have k1 : (Y : Int) < (N : Int) + (M : Int) := by omega
              rw [← hY] at p4
              clear i0 i1 hY
              go_wp2_with fail
              go_quiet (fail)
              go_wp2_with fail
              go_roundw
              case rel => exact ⟨z + 1, by omega, by go_num, drewN_below HZ.out _⟩
              case measure => simp [intOf]; omega
            · go_wp2_with fail
              go_ret
              exact ⟨rfl, HB.out.trans ((HB9.out.trans (HZ.out.mono HB9.out.size)).mono HB.out.size)⟩
end Go.Proofs.YtchncgniiohgdaaDoor.FrameL
