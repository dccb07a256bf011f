/-
  What the reference's reading comes to, for every bytes: the same as the program's.
-/
import Derived.Test.YtchncgniiohgdaaDoorVintPut
import Derived.Test.YtchncgniiohgdaaDoorVintGet
namespace Go.Proofs.YtchncgniiohgdaaDoor.VintW
open Go.RowKit Go.Proofs.YtchncgniiohgdaaDoor.Wd Go.Proofs.YtchncgniiohgdaaDoor.VintP
set_option linter.unusedVariables false

/-- What holds at the head of a round: k bytes are read, all with the highest bit. -/
def GetRel (xs : List Nat) (k N : Nat) : Prop := (∀ x ∈ xs.take k, 128 ≤ x) ∧ N = val (xs.take k) ∧ N < 128 ^ k ∧ get 0 0 xs = get k N (xs.drop k)
theorem getRel_0 (xs : List Nat) : GetRel xs 0 0 := ⟨by simp, rfl, by decide, rfl⟩
theorem getRel_step {xs : List Nat} {k N : Nat} (h : GetRel xs k N) (hk : k < xs.length) (hsm : ∀ x ∈ xs, x < 256) (hk9 : k ≤ 9) (h9 : k = 9 → xs.getD k 0 ≤ 1) :
    val (xs.take (k + 1)) = N + xs.getD k 0 % 128 * 128 ^ k ∧
    (128 ≤ xs.getD k 0 → GetRel xs (k + 1) (N + xs.getD k 0 % 128 * 128 ^ k)) ∧
    (xs.getD k 0 < 128 → (enc (N + xs.getD k 0 % 128 * 128 ^ k) = xs.take (k + 1) → get 0 0 xs = (N + xs.getD k 0 % 128 * 128 ^ k, k + 1, 0)) ∧
      (enc (N + xs.getD k 0 % 128 * 128 ^ k) ≠ xs.take (k + 1) → get 0 0 xs = (0, 0, 5))) := by
  obtain ⟨h1, h2, h3, h4⟩ := h
  have hc := getD_lt hsm k
  have hgc := get_cons (k := k) (N := N) hk
  rw [← h4] at hgc
  rw [if_neg (by omega)] at hgc
  have hst := or_step h3 (Nat.mod_lt (xs.getD k 0) (by decide : 0 < 128)) (by omega)
  have hl : (xs.take k).length = k := by rw [List.length_take]; omega
  have ev : val (xs.take (k + 1)) = N + xs.getD k 0 % 128 * 128 ^ k := by
    rw [take_snoc hk, val_append, hl, h2]
    simp only [val]
    rw [Nat.mul_zero, Nat.add_zero, Nat.mul_comm]
  have et := take_snoc hk
  generalize xs.getD k 0 = c at *
  refine ⟨ev, fun hb => ⟨?_, ev.symm, hst.2.2.1, ?_⟩, fun hs => ?_⟩
  · intro x hx
    rw [et] at hx
    rcases List.mem_append.1 hx with hx | hx
    · exact h1 x hx
    · rw [List.mem_singleton.1 hx]; exact hb
  · rw [hgc, if_pos hb]
  · rw [if_neg (by omega)] at hgc
    by_cases h0 : c = 0 ∧ 0 < k
    · rw [if_pos h0] at hgc
      have hne : enc (N + c % 128 * 128 ^ k) ≠ xs.take (k + 1) := by
        rw [← ev, et, h0.1]
        rw [et, h0.1] at ev
        refine enc_ne (fun e => ?_) (by rw [ev]; omega)
        have := congrArg List.length e
        rw [hl] at this
        simp at this
        omega
      exact ⟨fun e => absurd e hne, fun _ => hgc⟩
    · rw [if_neg h0] at hgc
      have he : enc (N + c % 128 * 128 ^ k) = xs.take (k + 1) := by
        rw [← ev, et]
        refine encF_val 9 _ c (by omega) (fun x hx => ⟨h1 x hx, hsm x (List.mem_of_mem_take hx)⟩) hs ?_
        by_cases hk0 : k = 0
        · exact .inl (List.eq_nil_of_length_eq_zero (by omega))
        · exact .inr (by omega)
      exact ⟨fun _ => hgc, fun hne => absurd he hne⟩

set_option maxHeartbeats 1000000 in
set_option maxRecDepth 100000 in
theorem getR_any (n cap : Nat) (A : Option Addr) (xs : List Nat) (w : World) (hc0 : n ≤ cap) (hx : RdB w A n xs) :
    Calls Tryd.prog 22 #[.slice A n cap] w fun e w' => e = .returned (getVal (get 0 0 xs)) ∧ Below w.heap.size w w' := by
  have hfit := hx.fits
  have HX := Lib.hid hx
  have HL := Lib.hid hx.len
  clear hx
  go_enter Tryd.func22, Tryd.ntmps22
  go_wp2
  go_loopw [5, 6, 7] (fun u t i wr => ∃ k N s : Nat, k ≤ n ∧ k ≤ 9 ∧ i = .int .i64 (k : Int) ∧ u = .int .u64 (N : Int) ∧ t = .int .u64 (s : Int) ∧ s ≤ 18446744073709551615 ∧ Hid (s = 128 ^ k) ∧ Hid (GetRel xs k N) ∧ Hid (Below w.heap.size w wr)) (fun _ _ i _ => 10 - (intOf i).toNat)
  case atStart => exact ⟨0, 0, 1, Nat.zero_le _, Nat.zero_le _, rfl, rfl, rfl, by decide, rfl, getRel_0 xs, Below.refl _ _⟩
  case round =>
    obtain ⟨k, N, s, hk, hk9, rfl, rfl, rfl, hs64, HS, HR, HB⟩ := hrel
    by_cases hlt : k < n
    · obtain ⟨ad, rfl, hc, hb⟩ := HX.out.at_ hlt
      rw [← HB.out.cell (World.block_lt_of_cell? w _ hc)] at hc
      have hne : ((k : Int) == (n : Int)) = false := by rw [beq_eq_false_iff_ne]; omega
      have hkx : k < xs.length := by rw [HL.out]; exact hlt
      by_cases hf : k = 9 ∧ 1 < xs.getD k 0
      · have hg : get 0 0 xs = (0, 0, 5) := by rw [HR.out.2.2.2, get_cons hkx, if_pos (.inr hf)]
        have hc1 := hf.2
        have t9 : ((k : Int) == 9) = true := by rw [beq_iff_eq]; omega
        have HG := Lib.hid hg
        clear hg hf
        generalize xs.getD k 0 = c at *
        go_wp2
        go_ret3
        rw [HG.out]
        exact ⟨rfl, HB.out⟩
      · obtain ⟨st1, st2, st3⟩ := getRel_step HR.out hkx HX.out.small hk9 (by omega)
        have hst := or_step HR.out.2.2.1 (Nat.mod_lt (xs.getD k 0) (by decide : 0 < 128)) (by omega)
        generalize xs.getD k 0 = c at *
        obtain ⟨d, hd⟩ : ∃ d, d = c % 128 := ⟨_, rfl⟩
        rw [← hd] at st1 st2 st3 hst
        have ed : (c : Int) % 128 = (d : Int) := by omega
        have hdl : d < 128 := by omega
        obtain ⟨p, hp⟩ : ∃ p, p = d * 128 ^ k := ⟨_, rfl⟩
        rw [← hp] at st1 st2 st3 hst
        have ep : (d : Int) * (s : Int) = (p : Int) := by rw [hp, HS.out]; simp
        obtain ⟨M, hM⟩ : ∃ M, M = N + p := ⟨_, rfl⟩
        rw [← hM] at st1 st2 st3 hst
        have hM1 := hst.2.1
        have hNM : N ≤ M := by omega
        have hpM : p ≤ M := by omega
        have eM : (N : Int) + (p : Int) = (M : Int) := by omega
        have hcase : (k ≤ 8 ∧ ((k : Int) == 9) = false) ∨ (9 ≤ k ∧ c ≤ 1 ∧ ((k : Int) == 9) = true) := by
          by_cases h : k = 9
          · exact .inr ⟨by omega, by omega, by rw [beq_iff_eq]; omega⟩
          · exact .inl ⟨by omega, by rw [beq_eq_false_iff_ne]; omega⟩
        have ST2 := Lib.hid st2
        have ST3 := Lib.hid st3
        clear hf hd hp hM hst st1 st2 st3
        by_cases hbig : 128 ≤ c
        · rcases hcase with ⟨hk8, t9⟩ | ⟨_, hc1, _⟩
          rotate_left
          · omega
          obtain ⟨t, ht⟩ : ∃ t, t = s * 128 := ⟨_, rfl⟩
          have et : (s : Int) * 128 = (t : Int) := by omega
          have htp : t = 128 ^ (k + 1) := by rw [ht, HS.out, Nat.pow_succ]
          have htl : t ≤ 18446744073709551615 := by
            rw [htp]
            have h1 : (128 : Nat) ^ (k + 1) ≤ 128 ^ 9 := Nat.pow_le_pow_right (by decide) (by omega)
            have h2 : (128 : Nat) ^ 9 = 9223372036854775808 := by decide
            omega
          have HTP := Lib.hid htp
          clear ht htp
          go_wp2
          go_roundw
          case rel => exact ⟨k + 1, M, t, by omega, by omega, by go_num, rfl, rfl, htl, HTP.out, ST2.out hbig, HB.out⟩
          case measure => simp [intOf]; omega
        · have hsl : c < 128 := by omega
          have hpt := fun W => putR_any M W hM1
          have hcvb : ∀ W, Below w.heap.size w W → (convert 22 9 (.slice (some ad) (k + 1) cap)).run Tryd.prog W = .ok (.string (strB (xs.take (k + 1)))) W := fun W hW => conv_str ((HX.out.take (by omega : k + 1 ≤ n)).below hW) cap
          have hd : Below w.heap.size w wr.drew := HB.out.drew
          have w1 : IntKind.i64.wrap ((k : Int) + 1) = (k : Int) + 1 := IntWalk.i64_in _ (by omega)
          have w2 : (0 : Int) ≤ (k : Int) + 1 := by omega
          have w3 : ((k : Int) + 1).toNat = k + 1 := by omega
          have w4 : (k : Int) + 1 ≤ (cap : Int) := by omega
          have hsT : ∀ x ∈ xs.take (k + 1), x < 256 := fun x hx => HX.out.small x (List.mem_of_mem_take hx)
          have hsE := enc_lt (show M < 18446744073709551616 by omega)
          have st := ST3.out hsl
          have HC := Lib.hid hc
          clear hc
          by_cases he : enc M = xs.take (k + 1)
          · have hg := st.1 he
            rw [he] at hpt
            generalize xs.take (k + 1) = T at *
            have HG := Lib.hid hg
            have HPT := Lib.hid hpt
            clear he hg hpt st hsE hsT
            rcases hcase with ⟨hk8, t9⟩ | ⟨hk8, hc1, t9⟩
            all_goals
              have hc := HC.out
              go_wp2_with fail
              go_region_with (go_at_call 15; ((with_reducible refine (HPT.out _).mono ?_)); rintro e w5 ⟨v5, rfl, ho5, hb5⟩; have hb6 := Below.trans ‹Below w.heap.size w wr.drew› (hb5.mono (Below.size ‹Below w.heap.size w wr.drew›)); obtain ⟨A5, c5, hv5, hc5, hr5⟩ := ho5.rd; subst hv5; have hcv5 := conv_str hr5 c5; clear ho5 hr5 hb5)
              all_goals
                go_wp2
                go_ret3
                rw [HG.out]
                exact ⟨rfl, hb6⟩
          · have hg := st.2 he
            have hsne := strB_beq hsE hsT he
            generalize enc M = T1 at *
            generalize xs.take (k + 1) = T at *
            have HG := Lib.hid hg
            have HPT := Lib.hid hpt
            clear he hg hpt st hsE hsT
            rcases hcase with ⟨hk8, t9⟩ | ⟨hk8, hc1, t9⟩
            all_goals
              have hc := HC.out
              go_wp2_with fail
              go_region_with (go_at_call 15; ((with_reducible refine (HPT.out _).mono ?_)); rintro e w5 ⟨v5, rfl, ho5, hb5⟩; have hb6 := Below.trans ‹Below w.heap.size w wr.drew› (hb5.mono (Below.size ‹Below w.heap.size w wr.drew›)); obtain ⟨A5, c5, hv5, hc5, hr5⟩ := ho5.rd; subst hv5; have hcv5 := conv_str hr5 c5; clear ho5 hr5 hb5)
              all_goals
                go_wp2
                go_ret3
                rw [HG.out]
                exact ⟨rfl, hb6⟩
    · have hkn : ((k : Int) == (n : Int)) = true := by rw [beq_iff_eq]; omega
      have hg := HR.out.2.2.2
      rw [show xs.drop k = [] by rw [List.drop_eq_nil_iff, HL.out]; omega] at hg
      have HGG := Lib.hid hg
      clear hg
      go_wp2
      go_ret3
      rw [HGG.out]
      exact ⟨rfl, HB.out⟩
end Go.Proofs.YtchncgniiohgdaaDoor.VintW
