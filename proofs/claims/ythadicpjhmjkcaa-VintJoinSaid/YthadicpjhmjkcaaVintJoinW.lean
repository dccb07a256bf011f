/-
  The walk of the law 'truglaw02.VintJoin'.
-/
import Derived.Test.YthadicpjhmjkcaaVintAlive
namespace Go.Proofs.Ythadicpjhmjkcaa.VintL
open Go.RowKit Go.Proofs.Ythadicpjhmjkcaa.Wd Go.Proofs.Ythadicpjhmjkcaa.VintP Go.Proofs.Ythadicpjhmjkcaa.VintW
set_option linter.unusedVariables false

/-- A round of the second loop: the first number is found, the rest is left. -/
theorem join_step {ys : List Nat} {k : Nat} (hk : k < ys.length) (hs : ∀ x ∈ ys, x ≤ 18446744073709551615) :
    get 0 0 (cat (ys.drop k)) = (ys.getD k 0, (enc (ys.getD k 0)).length, 0) ∧ (cat (ys.drop k)).drop (enc (ys.getD k 0)).length = cat (ys.drop (k + 1)) ∧
      (cat (ys.drop k)).length = (enc (ys.getD k 0)).length + (cat (ys.drop (k + 1))).length := by
  have hle := getD_le hs k
  have e : ys.drop k = ys.getD k 0 :: ys.drop (k + 1) := by
    rw [List.getD_eq_getElem?_getD, List.getElem?_eq_getElem hk, Option.getD_some]
    exact List.drop_eq_getElem_cons hk
  rw [e]
  refine ⟨cat_get (by omega) _, ?_, ?_⟩
  · simp [cat]
  · simp [cat]
theorem cat_take_snoc {ys : List Nat} {k : Nat} (hk : k < ys.length) : cat (ys.take (k + 1)) = cat (ys.take k) ++ enc (ys.getD k 0) := by
  rw [take_snoc hk, cat_append]
  simp [cat]

set_option maxHeartbeats 2000000 in
set_option maxRecDepth 100000 in
theorem vintJoin_any (w : World) (n cap : Nat) (A : Option Addr) (xs : List Nat) (hc : n ≤ cap) (hx : RdN .u64 18446744073709551615 w A n xs) :
    Calls Try.prog 9 #[.slice A n cap] w fun e w' => e = .returned (.bool true) ∧ Below w.heap.size w w' := by
  have hfit := hx.fits
  have HX := Lib.hid hx
  have HL := Lib.hid hx.len
  clear hx
  go_enter Try.func9, Try.ntmps9
  go_wp2_with fail
  refine (alive_any w).mono ?_
  rintro e w1 ⟨rfl, hb⟩
  have HB := Lib.hid hb
  have HX1 := Lib.hid (HX.out.below hb)
  clear hb
  go_wp2_with fail
  go_loopw [3, 4] (fun d i wr => ∃ k : Nat, k ≤ n ∧ k ≤ 100 ∧ i = .int .i64 (k : Int) ∧ Hid (OwnB wr w1.heap.size d (cat (xs.take k))) ∧ Hid (Below w1.heap.size w1 wr)) (fun _ i _ => 100 - (intOf i).toNat)
  case atStart => exact ⟨0, Nat.zero_le _, Nat.zero_le _, rfl, OwnB.nil_ _ _, Below.refl _ _⟩
  case round =>
    obtain ⟨k, hk, hk1, rfl, HO, HW⟩ := hrel
    by_cases hgo : k < n ∧ k < 100
    · obtain ⟨hlt, hlt1⟩ := hgo
      obtain ⟨ad, rfl, hcl, hle⟩ := HX1.out.at_ hlt
      rw [← HW.out.cell (World.block_lt_of_cell? _ _ hcl)] at hcl
      have hst := cat_take_snoc (ys := xs) (k := k) (by rw [HL.out]; exact hlt)
      have hel := enc_length (xs.getD k 0)
      have q := fun W => put_any (xs.getD k 0) W hle
      generalize xs.getD k 0 = x at *
      generalize enc x = es at *
      have hcat : (cat (xs.take k)).length ≤ 1000 := by
        have h1 := cat_length (xs.take k)
        have h2 : (xs.take k).length ≤ k := List.length_take_le _ _
        omega
      have hes : es.length ≤ 10 := hel.2
      have Q := Lib.hid q
      have HST := Lib.hid hst
      have hsz := HW.out.size
      clear q hst hel
      go_wp2_with (first
        | (go_at_call 12; ((with_reducible refine (Q.out _).mono ?_)); rintro e w3 ⟨v3, rfl, ho3, hb3⟩; obtain ⟨A3, c3, hv3, hc3, hr3⟩ := ho3.rd; subst hv3; have HR3 := Lib.hid hr3; have HB3 := Lib.hid (HW.out.trans (hb3.mono hsz)); have HO3 := Lib.hid (HO.out.below hb3); have hsz3 := Nat.le_trans hsz hb3.size; clear ho3 hb3 hr3)
        | (at_builtin; refine app_list w1.heap.size rfl (.tmp 21) (.tmp 26) rfl rfl rfl HO3.out HR3.out (by omega) hsz3 ?_; intro v4 w4 ho4 hg4 ha4; have HB4 := Lib.hid (HO3.out.to_below HB3.out hsz3 hg4); have HO4 := Lib.hid ho4; clear ho4 hg4 ha4))
      go_roundw
      case rel => exact ⟨k + 1, by omega, by omega, by go_num, by unfold Hid; rw [HST.out]; exact HO4.out, HB4.out⟩
      case measure => simp [intOf]; omega
    · obtain ⟨m, hm⟩ : ∃ m, m = k := ⟨_, rfl⟩
      have hsmall : ∀ x ∈ xs.take k, x ≤ 18446744073709551615 := fun x hx => HX.out.small x (List.mem_of_mem_take hx)
      have hlen : (xs.take k).length = k := by rw [List.length_take, HL.out]; omega
      obtain ⟨A2, c2, hv2, hc2, hr2⟩ := HO.out.rd
      subst hv2
      have hget : ∀ j, j < k → (xs.take k).getD j 0 = xs.getD j 0 := fun j hj => by
        rw [List.getD_eq_getElem?_getD, List.getD_eq_getElem?_getD, List.getElem?_take_of_lt hj]
      generalize xs.take k = ys at *
      have HSM := Lib.hid hsmall
      have HLY := Lib.hid hlen
      have HGY := Lib.hid hget
      have HR := Lib.hid hr2
      have HBE := Lib.hid (HB.out.trans (HW.out.mono HB.out.size))
      have HXR := Lib.hid (HX1.out.below HW.out)
      obtain ⟨lc, hlc⟩ : ∃ lc, lc = (cat ys).length := ⟨_, rfl⟩
      rw [← hlc] at hc2
      have HLC := Lib.hid hlc
      have hr2' := hr2
      rw [← hlc] at hr2'
      clear hsmall hlen hget hr2 hm
      have hcase : (n ≤ k) ∨ (k < n ∧ 100 ≤ k) := by omega
      rcases hcase with g | ⟨g, g'⟩
      all_goals
        go_wp2_with fail
        go_loop [3, 5] (fun d i => ∃ (j : Nat) (A' : Option Addr) (n' c' : Nat), j ≤ k ∧ i = .int .i64 (j : Int) ∧ d = .slice A' n' c' ∧ n' ≤ c' ∧ Hid (RdB wr A' n' (cat (ys.drop j)))) (fun _ i => k - (intOf i).toNat)
        case atStart => exact ⟨0, A2, _, c2, Nat.zero_le _, rfl, rfl, by rw [← HLC.out]; exact hc2, HR.out⟩
        case round =>
          clear hc2 hr2'
          obtain ⟨j, A', n', c', hj, rfl, rfl, hnc, HJ⟩ := hrel
          by_cases hlt : j < k
          · obtain ⟨s1, s2, s3⟩ := join_step (ys := ys) (k := j) (by rw [HLY.out]; exact hlt) HSM.out
            obtain ⟨ad, hA, hcl, hle⟩ := HXR.out.at_ (show j < n by omega)
            have hje := HGY.out j hlt
            rw [← hje] at hcl hle
            have hel := (enc_length (ys.getD j 0)).1
            have hln := HJ.out.len
            have hdr := HJ.out.drop (k := (enc (ys.getD j 0)).length) (cap := c') (by omega) hnc
            rw [s2] at hdr
            generalize ys.getD j 0 = y at *
            generalize (enc y).length = L at *
            have hLn : L ≤ n' := by omega
            have HD := Lib.hid hdr
            have S1 := Lib.hid s1
            subst hA
            have t0 : ((y : Int) != (y : Int)) = false := by simp
            clear hdr s1 s2 s3 hln hje
            go_wp2_with fail
            refine (get_lit _ _ HJ.out (y : Int) (L : Int) 0 y L 0 rfl rfl rfl S1.out).mono ?_
            rintro e w' ⟨rfl, rfl⟩
            go_wp2_with fail
            exact ⟨⟨j + 1, _, n' - L, c' - L, by omega, by go_num, rfl, by omega, HD.out⟩, by simp [intOf]; omega⟩
          · have hjn := HJ.out.len
            rw [show ys.drop j = [] by rw [List.drop_eq_nil_iff, HLY.out]; omega] at hjn
            have t1 : ((n' : Int) == 0) = true := by rw [← hjn]; rfl
            clear hjn
            go_wp2
            go_ret
            exact ⟨rfl, HBE.out⟩
end Go.Proofs.Ythadicpjhmjkcaa.VintL
