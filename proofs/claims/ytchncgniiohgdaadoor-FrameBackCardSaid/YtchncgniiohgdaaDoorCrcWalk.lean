/-
  What the functions of package crc and of its reference come to, for every word and every bytes, over a world whose table of four bits holds what the program's text lays.
-/
import Derived.Test.YtchncgniiohgdaaDoorWords
import Derived.Test.YtchncgniiohgdaaDoorCrcPlain
import Derived.Lib.Hide
import Derived.IntWalk
namespace Go.Proofs.YtchncgniiohgdaaDoor.CrcW
open Go.RowKit Go.Proofs.YtchncgniiohgdaaDoor.Wd Go.Proofs.YtchncgniiohgdaaDoor.CrcP

/-- The table's cells hold its numbers. -/
def Tab (w : World) : Prop := ∀ i, i < 16 → w.cell? ⟨0, i, none⟩ = some (.int .u32 ((tab.getD i 0 : Nat) : Int))

theorem Tab.below {w w' : World} (h : Tab w) (hb : Below w.heap.size w w') : Tab w' :=
  fun i hi => (hb.cell (World.block_lt_of_cell? w _ (h i hi))).trans (h i hi)

theorem Tab.drewN {w : World} (h : Tab w) (n : Nat) : Tab (w.drewN n) := h

/-- Four bits of a word, in the walk's own words. -/
theorem four {w : World} (ht : Tab w) {V : Nat} (hV : V < 4294967296) : ∃ R T V' : Nat, R < 16 ∧ Hid (V' = nib V) ∧ V' < 4294967296 ∧ bits .and .u32 (V : Int) 15 = (R : Int) ∧
    w.cell? ⟨0, R, none⟩ = some (.int .u32 (T : Int)) ∧ bits .xor .u32 ((V : Int) / 16) (T : Int) = (V' : Int) := by
  refine ⟨V % 16, tab.getD (V % 16) 0, nib V, Nat.mod_lt _ (by decide), rfl, nib_lt hV, ?_, ht _ (Nat.mod_lt _ (by decide)), ?_⟩
  · have h := u32_and_nat V 15 hV (by decide)
    rw [show V &&& 15 = V % 16 from Nat.and_two_pow_sub_one_eq_mod V 4] at h
    exact h
  · have h := u32_xor_nat (V / 16) (tab.getD (V % 16) 0) (by omega) (tab_lt _)
    rw [show ((V / 16 : Nat) : Int) = (V : Int) / 16 by omega] at h
    exact h
theorem xorIn {W c : Nat} (hW : W < 4294967296) (hc : c < 256) : ∃ V : Nat, Hid (V = W ^^^ c) ∧ V < 4294967296 ∧ bits .xor .u32 (W : Int) (c : Int) = (V : Int) :=
  ⟨W ^^^ c, rfl, xor_lt hW (by omega), u32_xor_nat W c hW (by omega)⟩
theorem compl_u32 {s : Nat} (hs : s < 4294967296) : bits .xor .u32 IntKind.u32.max (s : Int) = ((4294967295 - s : Nat) : Int) := by
  rw [compl_xor hs, Nat.xor_comm]
  exact u32_xor_nat 4294967295 s (by decide) hs
theorem next_next (s : Nat) (xs : List Nat) : 4294967295 - run (4294967295 - s) xs = next s xs := rfl

set_option maxHeartbeats 400000 in
theorem next_any (s n cap : Nat) (A : Option Addr) (xs : List Nat) (w : World) (hs : s < 4294967296) (hx : RdB w A n xs) (ht : Tab w) :
    Calls Tryd.prog 26 #[.int .u32 (s : Int), .slice A n cap] w fun e w' => e = .returned (.int .u32 ((next s xs : Nat) : Int)) ∧ w = w' := by
  have hfit := hx.fits
  have HL := Lib.hid hx.len
  obtain ⟨I, hI⟩ : ∃ I, I = 4294967295 - s := ⟨_, rfl⟩
  have hIl : I < 4294967296 := by omega
  have e0 : bits .xor .u32 IntKind.u32.max (s : Int) = (I : Int) := by rw [hI]; exact compl_u32 hs
  have HI := Lib.hid hI
  clear hI
  go_enter Tryd.func26, Tryd.ntmps26
  go_wp2
  go_loop [5, 12] (fun u i => ∃ k W : Nat, k ≤ n ∧ i = .int .i64 k ∧ u = .int .u32 (W : Int) ∧ W < 4294967296 ∧ Hid (run I (xs.take k) = W)) (fun _ i => n - (intOf i).toNat)
  case atStart => exact ⟨0, I, Nat.zero_le _, rfl, rfl, hIl, rfl⟩
  case round =>
    obtain ⟨k, W, hk, rfl, rfl, hW, HW⟩ := hrel
    by_cases hlt : k < n
    · obtain ⟨ad, rfl, hc, hb⟩ := hx.at_ hlt
      obtain ⟨c, hcc⟩ : ∃ c, c = xs.getD k 0 := ⟨_, rfl⟩
      rw [← hcc] at hc hb
      have HC := Lib.hid hcc
      clear hcc
      obtain ⟨V, HV, hV, e1⟩ := xorIn hW hb
      obtain ⟨R1, T1, V1, hR1, HV1, hV1, e2, c2, e3⟩ := four ht hV
      obtain ⟨R2, T2, V2, hR2, HV2, hV2, e4, c4, e5⟩ := four ht hV1
      have HT := Lib.hid ht
      clear ht hx
      go_wp2
      go_round
      case rel =>
        refine ⟨k + 1, V2, by omega, by go_num, rfl, hV2, ?_⟩
        have hl := HL.out
        unfold Hid
        rw [take_snoc (by omega), run_snoc, HW.out, ← HC.out]
        show nib (nib (W ^^^ c)) = V2
        rw [← HV.out, ← HV1.out, ← HV2.out]
      case measure => simp [intOf]; omega
    · have hkn : k = n := by omega
      have e6 := compl_u32 hW
      obtain ⟨Z, hZ⟩ : ∃ Z : Nat, Z = 4294967295 - W := ⟨_, rfl⟩
      rw [← hZ] at e6
      have HZ := Lib.hid hZ
      have HK := Lib.hid hkn
      clear hZ hkn
      go_wp2
      go_ret
      have hl := HL.out
      have : Z = next s xs := by
        rw [HZ.out, ← HW.out, HK.out, HI.out, ← hl, List.take_length]; rfl
      rw [this]
      exact ⟨rfl, rfl⟩

theorem sum_any (n cap : Nat) (A : Option Addr) (xs : List Nat) (w : World) (hx : RdB w A n xs) (ht : Tab w) :
    Calls Tryd.prog 23 #[.slice A n cap] w fun e w' => e = .returned (.int .u32 ((sum xs : Nat) : Int)) ∧ w = w' := by
  have h := next_any 0 n cap A xs w (by decide) hx ht
  have HX := Lib.hid hx
  have HT := Lib.hid ht
  clear hx ht
  go_enter Tryd.func23, Tryd.ntmps23
  go_wp2_with fail
  refine h.mono ?_
  rintro e w' ⟨rfl, rfl⟩
  go_wp2
  go_ret
  exact ⟨rfl, rfl⟩

/-! ### The reference: bit by bit -/
set_option maxHeartbeats 400000 in
theorem take_any (W c : Nat) (w : World) (hW : W < 4294967296) (hc : c < 256) :
    Calls Tryd.prog 27 #[.int .u32 (W : Int), .int .u8 (c : Int)] w fun e w' => e = .returned (.int .u32 ((stp W c : Nat) : Int)) ∧ w = w' := by
  obtain ⟨V, HV, hV, e1⟩ := xorIn hW hc
  go_enter Tryd.func27, Tryd.ntmps27
  go_wp2
  go_loop [0, 5] (fun u i => ∃ k U : Nat, k ≤ 8 ∧ i = .int .i64 k ∧ u = .int .u32 (U : Int) ∧ U < 4294967296 ∧ Hid (CrcP.bits k V = U)) (fun _ i => 8 - (intOf i).toNat)
  case atStart => exact ⟨0, V, Nat.zero_le _, rfl, rfl, hV, rfl⟩
  case round =>
    obtain ⟨k, U, hk, rfl, rfl, hU, HU⟩ := hrel
    clear e1
    by_cases hlt : k < 8
    · by_cases ho : U % 2 = 1
      · have e2 : bits .xor .u32 ((U : Int) / 2) 3988292384 = ((bit U : Nat) : Int) := by
          have h := u32_xor_nat (U / 2) 3988292384 (by omega) (by decide)
          rw [show ((U / 2 : Nat) : Int) = (U : Int) / 2 by omega] at h
          rw [bit, if_pos ho]
          exact h
        obtain ⟨Z, hZ⟩ : ∃ Z, Z = bit U := ⟨_, rfl⟩
        rw [← hZ] at e2
        have hZl : Z < 4294967296 := by rw [hZ]; exact bit_lt hU
        have HZ := Lib.hid hZ
        have t1 : ((U : Int) % 2 == 1) = true := by rw [beq_iff_eq]; omega
        clear hZ ho
        go_wp2
        go_round
        case rel => exact ⟨k + 1, Z, by omega, by go_num, rfl, hZl, by show bit (CrcP.bits k V) = Z; rw [HU.out, HZ.out]⟩
        case measure => simp [intOf]; omega
      · have t1 : ((U : Int) % 2 == 1) = false := by rw [beq_eq_false_iff_ne]; omega
        have hb2 : bit U = U / 2 := by rw [bit, if_neg ho]
        have HB := Lib.hid hb2
        clear hb2 ho
        go_wp2
        go_round
        case rel => exact ⟨k + 1, U / 2, by omega, by go_num, by go_num, by omega, by show bit (CrcP.bits k V) = U / 2; rw [HU.out, HB.out]⟩
        case measure => simp [intOf]; omega
    · have hk8 : k = 8 := by omega
      have HK := Lib.hid hk8
      clear hk8
      go_wp2
      go_ret
      have : U = stp W c := by rw [← HU.out, HK.out, HV.out, stp_take]; rfl
      rw [this]
      exact ⟨rfl, rfl⟩

set_option maxHeartbeats 400000 in
theorem nextR_any (s n cap : Nat) (A : Option Addr) (xs : List Nat) (w : World) (hs : s < 4294967296) (hx : RdB w A n xs) :
    Calls Tryd.prog 25 #[.int .u32 (s : Int), .slice A n cap] w fun e w' => e = .returned (.int .u32 ((next s xs : Nat) : Int)) ∧ w = w' := by
  have hfit := hx.fits
  have HL := Lib.hid hx.len
  obtain ⟨I, hI⟩ : ∃ I, I = 4294967295 - s := ⟨_, rfl⟩
  have hIl : I < 4294967296 := by omega
  have e0 : bits .xor .u32 (s : Int) 4294967295 = (I : Int) := by
    rw [hI, compl_xor hs]; exact u32_xor_nat s 4294967295 hs (by decide)
  have HI := Lib.hid hI
  clear hI
  go_enter Tryd.func25, Tryd.ntmps25
  go_wp2
  go_loop [5, 6] (fun u i => ∃ k W : Nat, k ≤ n ∧ i = .int .i64 k ∧ u = .int .u32 (W : Int) ∧ W < 4294967296 ∧ Hid (run I (xs.take k) = W)) (fun _ i => n - (intOf i).toNat)
  case atStart => exact ⟨0, I, Nat.zero_le _, rfl, rfl, hIl, rfl⟩
  case round =>
    obtain ⟨k, W, hk, rfl, rfl, hW, HW⟩ := hrel
    clear e0
    by_cases hlt : k < n
    · obtain ⟨ad, rfl, hc, hb⟩ := hx.at_ hlt
      obtain ⟨c, hcc⟩ : ∃ c, c = xs.getD k 0 := ⟨_, rfl⟩
      rw [← hcc] at hc hb
      have HC := Lib.hid hcc
      clear hcc hx
      go_wp2_with fail
      refine (take_any W c _ hW hb).mono ?_
      rintro e w' ⟨rfl, rfl⟩
      have hVl : stp W c < 4294967296 := stp_lt hW hb
      generalize hV : stp W c = V at *
      have HV := Lib.hid hV
      clear hV
      go_wp2
      go_round
      case rel =>
        refine ⟨k + 1, V, by omega, by go_num, rfl, hVl, ?_⟩
        have hl := HL.out
        unfold Hid
        rw [take_snoc (by omega), run_snoc, HW.out, ← HC.out, HV.out]
      case measure => simp [intOf]; omega
    · have hkn : k = n := by omega
      obtain ⟨Z, hZ⟩ : ∃ Z : Nat, Z = 4294967295 - W := ⟨_, rfl⟩
      have e6 : bits .xor .u32 (W : Int) 4294967295 = (Z : Int) := by
        rw [hZ, compl_xor hW]; exact u32_xor_nat W 4294967295 hW (by decide)
      have HZ := Lib.hid hZ
      have HK := Lib.hid hkn
      clear hZ hkn
      go_wp2
      go_ret
      have hl := HL.out
      have : Z = next s xs := by
        rw [HZ.out, ← HW.out, HK.out, HI.out, ← hl, List.take_length]; rfl
      rw [this]
      exact ⟨rfl, rfl⟩

theorem sumR_any (n cap : Nat) (A : Option Addr) (xs : List Nat) (w : World) (hx : RdB w A n xs) :
    Calls Tryd.prog 19 #[.slice A n cap] w fun e w' => e = .returned (.int .u32 ((sum xs : Nat) : Int)) ∧ w = w' := by
  have h := nextR_any 0 n cap A xs w (by decide) hx
  have HX := Lib.hid hx
  clear hx
  go_enter Tryd.func19, Tryd.ntmps19
  go_wp2_with fail
  refine h.mono ?_
  rintro e w' ⟨rfl, rfl⟩
  go_wp2
  go_ret
  exact ⟨rfl, rfl⟩
end Go.Proofs.YtchncgniiohgdaaDoor.CrcW
