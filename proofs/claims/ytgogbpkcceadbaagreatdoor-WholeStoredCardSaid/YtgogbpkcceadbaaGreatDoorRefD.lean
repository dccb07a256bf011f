/-
  The reference's Closed.
-/
import Derived.Test.YtgogbpkcceadbaaGreatDoorRefC
import Derived.Test.YtgogbpkcceadbaaGreatDoorHasM
namespace Go.Proofs.YtgogbpkcceadbaaGreatDoor.Vc
open Go.RowKit Go.Proofs.YtgogbpkcceadbaaGreatDoor.Wd
set_option linter.unusedVariables false
attribute [local go_sem ↓] ldKx stKx

/-- What the first rounds have shown. -/
structure CloA (l : List OpN) : Prop where
  ok : ∀ x ∈ l, dotB x.1.rep x.1.seq = true
  nd : l.Pairwise fun a b => ¬ sameDot a b
theorem CloA.snoc {l : List OpN} {x : OpN} (h : CloA l) (hd : dotB x.1.rep x.1.seq = true) (hn : hasDot l x.1.rep x.1.seq = false) : CloA (l ++ [x]) := by
  refine ⟨fun y hy => ?_, ?_⟩
  · rcases List.mem_append.1 hy with hy | hy
    · exact h.ok y hy
    · rw [List.mem_singleton.1 hy]; exact hd
  · rw [List.pairwise_append]
    refine ⟨h.nd, by simp, fun a ha b hb hs => ?_⟩
    rw [List.mem_singleton.1 hb] at hs
    have : hasDot l x.1.rep x.1.seq = true := List.any_eq_true.2 ⟨a, ha, decide_eq_true hs⟩
    rw [hn] at this
    cases this
/-- .. and the others. -/
def CntP (l : List OpN) (x : OpN) (r : Nat) : Prop := countN l x.1.ctx r = min (x.1.ctx.getD r 0) 1048576
theorem addr7 (a : Addr) (r : Nat) : (⟨a.block, a.off + 7 + r, none⟩ : Addr) = a.add (7 + r) := by
  unfold Addr.add
  rw [if_neg (by omega), Nat.add_assoc]
def CntTo (l : List OpN) (j : Nat) : Prop := ∀ (i : Nat) (x : OpN), i < j → l[i]? = some x → ∀ r, r < 16 → CntP l x r
set_option maxHeartbeats 8000000 in
set_option maxRecDepth 100000 in
theorem closedR_any (l : List OpN) (n cap : Nat) (A : Option Addr) (hn : n ≤ 100) (hcap : n ≤ cap) (w : World) (hl : RdO w A n l) :
    Calls Tryz.prog 13 #[.slice A n cap] w fun e w' => GivesB (CloP l) e ∧ Gr w w' := by
  have hfit := hl.fits
  have HL := Lib.hid hl
  have HN := Lib.hid hn
  have hmix := mix
  clear hl hn
  go_enter Tryz.func13, Tryz.ntmps13
  go_wp2_with fail
  go_loopw [3] (fun i wr => ∃ k : Nat, k ≤ n ∧ i = .int .i64 (k : Int) ∧ Hid (Gr w wr) ∧ Hid (CloA (l.take k))) (fun i _ => n - (intOf i).toNat)
  case atStart => exact ⟨0, Nat.zero_le _, rfl, Gr.refl _, ⟨by simp, by simp⟩⟩
  case round =>
    obtain ⟨k, hk, rfl, HW, HC⟩ := hrel
    by_cases hlt : k < n
    · have hkl : k < l.length := by rw [HL.out.len]; exact hlt
      obtain ⟨x, hx⟩ : ∃ x, l[k]? = some x := ⟨_, List.getElem?_eq_getElem hkl⟩
      have htk : l.take (k + 1) = l.take k ++ [x] := by rw [List.take_add_one, hx]; rfl
      obtain ⟨ad, hA, _⟩ := HL.out.cell (by omega)
      subst hA
      have hrr := HL.out.below HW.out.below
      have gd : ∀ W, Gr wr W → (ldK 30 (ad.add (k * 23))).run Tryz.prog W = .ok (.agg #[.int .u8 ((x.1.rep : Nat) : Int), .int .u32 ((x.1.seq : Nat) : Int)]) W := fun W hW => (hrr.below hW.below).dot hx
      have hs0 : Gr wr wr.drew := (Gr.refl wr).drew
      have QD := Lib.hid (dotR_any x.1.rep x.1.seq x.2.rep x.2.seq)
      have QH := Lib.hid (fun W (hW : Gr wr W) => hasD_any (l.take k) k cap (some ad) x.1.rep x.1.seq x.2.rep x.2.seq W ((hrr.below hW.below).take (by omega)))
      have HTK := Lib.hid htk
      have i0 : (0 : Int) ≤ (k : Int) := by omega
      have i1 : (k : Int) < (n : Int) := by omega
      have i2 : (k : Int) ≤ (cap : Int) := by omega
      clear hx htk hkl hrr
      cases hd : dotB x.1.rep x.1.seq with
      | false =>
        rw [hd] at QD
        clear hd
        go_wp2_with fail
        refine wp_region_held_drew (S := fun W => Gr wr W) (by kernel_rfl) hs0 (fun hHeld => ?_)
        refine held_take (i := 0) (some 12) (.slice (some ad) n cap) rfl rfl (by kernel_rfl) (by kernel_rfl) (by kernel_rfl) (fun _ _ _ h => h) (Or.inl ⟨by rfl, by intro w hSw; go_simp⟩) (by assumption) ?_
        try simp only [Act.put, List.setIfInBounds_toArray, List.set_cons_zero, List.set_cons_succ]
        refine held_take (i := 1) (some 13) (.int .i64 (k : Int)) rfl rfl (by kernel_rfl) (by kernel_rfl) (by kernel_rfl) (fun _ _ _ h => h) (Or.inl ⟨by rfl, by intro w hSw; go_simp⟩) (by assumption) ?_
        try simp only [Act.put, List.setIfInBounds_toArray, List.set_cons_zero, List.set_cons_succ]
        refine held_take (i := 2) (some 14) (.pointer (some (ad.add (k * 23)))) rfl rfl (by kernel_rfl) (by kernel_rfl) (by kernel_rfl) (fun _ _ _ h => h) (Or.inl ⟨by rfl, by intro w hSw; go_simp⟩) (by assumption) ?_
        try simp only [Act.put, List.setIfInBounds_toArray, List.set_cons_zero, List.set_cons_succ]
        refine held_take (i := 3) (some 15) (.pointer (some (ad.add (k * 23)))) rfl rfl (by kernel_rfl) (by kernel_rfl) (by kernel_rfl) (fun _ _ _ h => h) (Or.inl ⟨by rfl, by intro w hSw; go_simp⟩) (by assumption) ?_
        try simp only [Act.put, List.setIfInBounds_toArray, List.set_cons_zero, List.set_cons_succ]
        refine held_take (i := 4) (some 16) (.agg #[.int .u8 ((x.1.rep : Nat) : Int), .int .u32 ((x.1.seq : Nat) : Int)]) rfl rfl (by kernel_rfl) (by kernel_rfl) (by kernel_rfl) (fun _ _ _ h => h) (Or.inl ⟨by rfl, by intro w hSw; have l4 := gd w hSw; go_simp⟩) (by assumption) ?_
        try simp only [Act.put, List.setIfInBounds_toArray, List.set_cons_zero, List.set_cons_succ]
        refine wpAnyH_ready (rs := [5]) (by kernel_rfl) (by simp) ?_
        refine AllReadyH.cons rfl (fun K hK => ?_) AllReadyH.nil
        go_simp
        refine (QD.out _).mono ?_
        rintro e w3 ⟨rfl, hg3⟩
        have hs3 := hs0.trans hg3
        clear hg3
        refine hK.out _ _ hs3 (fun hHeld => ?_)
        clear hK K
        try simp only [Act.put, List.setIfInBounds_toArray, List.set_cons_zero, List.set_cons_succ]
        refine held_take (i := 6) (some 18) (.bool true) rfl rfl (by kernel_rfl) (by kernel_rfl) (by kernel_rfl) (fun _ _ _ h => h) (Or.inl ⟨by rfl, by intro w hSw; go_simp⟩) (by assumption) ?_
        try simp only [Act.put, List.setIfInBounds_toArray, List.set_cons_zero, List.set_cons_succ]
        refine held_take (i := 7) (some 19) (.bool true) rfl rfl (by kernel_rfl) (by kernel_rfl) (by kernel_rfl) (fun _ _ _ h => h) (Or.inl ⟨by rfl, by intro w hSw; go_simp⟩) (by assumption) ?_
        try simp only [Act.put, List.setIfInBounds_toArray, List.set_cons_zero, List.set_cons_succ]
        refine held_take (i := 8) (some 20) undef rfl rfl (by kernel_rfl) (by kernel_rfl) (by kernel_rfl) (fun _ _ _ h => h) (Or.inr ⟨by rfl, rfl⟩) (by assumption) ?_
        try simp only [Act.put, List.setIfInBounds_toArray, List.set_cons_zero, List.set_cons_succ]
        refine held_take (i := 9) (some 21) undef rfl rfl (by kernel_rfl) (by kernel_rfl) (by kernel_rfl) (fun _ _ _ h => h) (Or.inr ⟨by rfl, rfl⟩) (by assumption) ?_
        try simp only [Act.put, List.setIfInBounds_toArray, List.set_cons_zero, List.set_cons_succ]
        refine held_take (i := 10) (some 22) undef rfl rfl (by kernel_rfl) (by kernel_rfl) (by kernel_rfl) (fun _ _ _ h => h) (Or.inr ⟨by rfl, rfl⟩) (by assumption) ?_
        try simp only [Act.put, List.setIfInBounds_toArray, List.set_cons_zero, List.set_cons_succ]
        refine held_take (i := 11) (some 23) undef rfl rfl (by kernel_rfl) (by kernel_rfl) (by kernel_rfl) (fun _ _ _ h => h) (Or.inr ⟨by rfl, rfl⟩) (by assumption) ?_
        try simp only [Act.put, List.setIfInBounds_toArray, List.set_cons_zero, List.set_cons_succ]
        refine held_take (i := 12) (some 24) undef rfl rfl (by kernel_rfl) (by kernel_rfl) (by kernel_rfl) (fun _ _ _ h => h) (Or.inr ⟨by rfl, rfl⟩) (by assumption) ?_
        try simp only [Act.put, List.setIfInBounds_toArray, List.set_cons_zero, List.set_cons_succ]
        refine held_take (i := 13) (some 25) undef rfl rfl (by kernel_rfl) (by kernel_rfl) (by kernel_rfl) (fun _ _ _ h => h) (Or.inr ⟨by rfl, rfl⟩) (by assumption) ?_
        try simp only [Act.put, List.setIfInBounds_toArray, List.set_cons_zero, List.set_cons_succ]
        refine held_take (i := 14) (some 26) undef rfl rfl (by kernel_rfl) (by kernel_rfl) (by kernel_rfl) (fun _ _ _ h => h) (Or.inr ⟨by rfl, rfl⟩) (by assumption) ?_
        try simp only [Act.put, List.setIfInBounds_toArray, List.set_cons_zero, List.set_cons_succ]
        refine held_take (i := 15) (some 27) undef rfl rfl (by kernel_rfl) (by kernel_rfl) (by kernel_rfl) (fun _ _ _ h => h) (Or.inr ⟨by rfl, rfl⟩) (by assumption) ?_
        try simp only [Act.put, List.setIfInBounds_toArray, List.set_cons_zero, List.set_cons_succ]
        refine held_take (i := 16) (some 28) undef rfl rfl (by kernel_rfl) (by kernel_rfl) (by kernel_rfl) (fun _ _ _ h => h) (Or.inr ⟨by rfl, rfl⟩) (by assumption) ?_
        try simp only [Act.put, List.setIfInBounds_toArray, List.set_cons_zero, List.set_cons_succ]
        refine held_take (i := 17) (some 29) (.bool true) rfl rfl (by kernel_rfl) (by kernel_rfl) (by kernel_rfl) (fun _ _ _ h => h) (Or.inl ⟨by rfl, by intro w hSw; go_simp⟩) (by assumption) ?_
        try simp only [Act.put, List.setIfInBounds_toArray, List.set_cons_zero, List.set_cons_succ]
        refine wpAnyH_done (by kernel_rfl) ?_ _
        have HGF := Lib.hid (HW.out.trans hs3)
        clear gd hs0 hs3  hHeld
        go_wp2_with fail
        go_ret
        exact ⟨⟨⟨false, rfl, fun h => by cases h⟩⟩, HGF.out⟩
      | true =>
        rw [hd] at QD
        have HD := Lib.hid hd
        clear hd
        cases hb : hasDot (l.take k) x.1.rep x.1.seq with
        | true =>
          rw [hb] at QH
          clear hb
          go_wp2_with fail
          refine wp_region_held_drew (S := fun W => Gr wr W) (by kernel_rfl) hs0 (fun hHeld => ?_)
          refine held_take (i := 0) (some 12) (.slice (some ad) n cap) rfl rfl (by kernel_rfl) (by kernel_rfl) (by kernel_rfl) (fun _ _ _ h => h) (Or.inl ⟨by rfl, by intro w hSw; go_simp⟩) (by assumption) ?_
          try simp only [Act.put, List.setIfInBounds_toArray, List.set_cons_zero, List.set_cons_succ]
          refine held_take (i := 1) (some 13) (.int .i64 (k : Int)) rfl rfl (by kernel_rfl) (by kernel_rfl) (by kernel_rfl) (fun _ _ _ h => h) (Or.inl ⟨by rfl, by intro w hSw; go_simp⟩) (by assumption) ?_
          try simp only [Act.put, List.setIfInBounds_toArray, List.set_cons_zero, List.set_cons_succ]
          refine held_take (i := 2) (some 14) (.pointer (some (ad.add (k * 23)))) rfl rfl (by kernel_rfl) (by kernel_rfl) (by kernel_rfl) (fun _ _ _ h => h) (Or.inl ⟨by rfl, by intro w hSw; go_simp⟩) (by assumption) ?_
          try simp only [Act.put, List.setIfInBounds_toArray, List.set_cons_zero, List.set_cons_succ]
          refine held_take (i := 3) (some 15) (.pointer (some (ad.add (k * 23)))) rfl rfl (by kernel_rfl) (by kernel_rfl) (by kernel_rfl) (fun _ _ _ h => h) (Or.inl ⟨by rfl, by intro w hSw; go_simp⟩) (by assumption) ?_
          try simp only [Act.put, List.setIfInBounds_toArray, List.set_cons_zero, List.set_cons_succ]
          refine held_take (i := 4) (some 16) (.agg #[.int .u8 ((x.1.rep : Nat) : Int), .int .u32 ((x.1.seq : Nat) : Int)]) rfl rfl (by kernel_rfl) (by kernel_rfl) (by kernel_rfl) (fun _ _ _ h => h) (Or.inl ⟨by rfl, by intro w hSw; have l4 := gd w hSw; go_simp⟩) (by assumption) ?_
          try simp only [Act.put, List.setIfInBounds_toArray, List.set_cons_zero, List.set_cons_succ]
          refine wpAnyH_ready (rs := [5]) (by kernel_rfl) (by simp) ?_
          refine AllReadyH.cons rfl (fun K hK => ?_) AllReadyH.nil
          go_simp
          refine (QD.out _).mono ?_
          rintro e w3 ⟨rfl, hg3⟩
          have hs3 := hs0.trans hg3
          clear hg3
          refine hK.out _ _ hs3 (fun hHeld => ?_)
          clear hK K
          try simp only [Act.put, List.setIfInBounds_toArray, List.set_cons_zero, List.set_cons_succ]
          refine held_take (i := 6) (some 18) (.bool false) rfl rfl (by kernel_rfl) (by kernel_rfl) (by kernel_rfl) (fun _ _ _ h => h) (Or.inl ⟨by rfl, by intro w hSw; go_simp⟩) (by assumption) ?_
          try simp only [Act.put, List.setIfInBounds_toArray, List.set_cons_zero, List.set_cons_succ]
          refine held_take (i := 7) (some 19) (.bool false) rfl rfl (by kernel_rfl) (by kernel_rfl) (by kernel_rfl) (fun _ _ _ h => h) (Or.inl ⟨by rfl, by intro w hSw; go_simp⟩) (by assumption) ?_
          try simp only [Act.put, List.setIfInBounds_toArray, List.set_cons_zero, List.set_cons_succ]
          refine held_take (i := 8) (some 20) (.slice (some ad) n cap) rfl rfl (by kernel_rfl) (by kernel_rfl) (by kernel_rfl) (fun _ _ _ h => h) (Or.inl ⟨by rfl, by intro w hSw; go_simp⟩) (by assumption) ?_
          try simp only [Act.put, List.setIfInBounds_toArray, List.set_cons_zero, List.set_cons_succ]
          refine held_take (i := 9) (some 21) (.int .i64 (k : Int)) rfl rfl (by kernel_rfl) (by kernel_rfl) (by kernel_rfl) (fun _ _ _ h => h) (Or.inl ⟨by rfl, by intro w hSw; go_simp⟩) (by assumption) ?_
          try simp only [Act.put, List.setIfInBounds_toArray, List.set_cons_zero, List.set_cons_succ]
          refine held_take (i := 10) (some 22) (.slice (some ad) k cap) rfl rfl (by kernel_rfl) (by kernel_rfl) (by kernel_rfl) (fun _ _ _ h => h) (Or.inl ⟨by rfl, by intro w hSw; go_simp⟩) (by assumption) ?_
          try simp only [Act.put, List.setIfInBounds_toArray, List.set_cons_zero, List.set_cons_succ]
          refine held_take (i := 11) (some 23) (.slice (some ad) n cap) rfl rfl (by kernel_rfl) (by kernel_rfl) (by kernel_rfl) (fun _ _ _ h => h) (Or.inl ⟨by rfl, by intro w hSw; go_simp⟩) (by assumption) ?_
          try simp only [Act.put, List.setIfInBounds_toArray, List.set_cons_zero, List.set_cons_succ]
          refine held_take (i := 12) (some 24) (.int .i64 (k : Int)) rfl rfl (by kernel_rfl) (by kernel_rfl) (by kernel_rfl) (fun _ _ _ h => h) (Or.inl ⟨by rfl, by intro w hSw; go_simp⟩) (by assumption) ?_
          try simp only [Act.put, List.setIfInBounds_toArray, List.set_cons_zero, List.set_cons_succ]
          refine held_take (i := 13) (some 25) (.pointer (some (ad.add (k * 23)))) rfl rfl (by kernel_rfl) (by kernel_rfl) (by kernel_rfl) (fun _ _ _ h => h) (Or.inl ⟨by rfl, by intro w hSw; go_simp⟩) (by assumption) ?_
          try simp only [Act.put, List.setIfInBounds_toArray, List.set_cons_zero, List.set_cons_succ]
          refine held_take (i := 14) (some 26) (.pointer (some (ad.add (k * 23)))) rfl rfl (by kernel_rfl) (by kernel_rfl) (by kernel_rfl) (fun _ _ _ h => h) (Or.inl ⟨by rfl, by intro w hSw; go_simp⟩) (by assumption) ?_
          try simp only [Act.put, List.setIfInBounds_toArray, List.set_cons_zero, List.set_cons_succ]
          refine held_take (i := 15) (some 27) (.agg #[.int .u8 ((x.1.rep : Nat) : Int), .int .u32 ((x.1.seq : Nat) : Int)]) rfl rfl (by kernel_rfl) (by kernel_rfl) (by kernel_rfl) (fun _ _ _ h => h) (Or.inl ⟨by rfl, by intro w hSw; have l4 := gd w hSw; go_simp⟩) (by assumption) ?_
          try simp only [Act.put, List.setIfInBounds_toArray, List.set_cons_zero, List.set_cons_succ]
          refine wpAnyH_ready (rs := [16]) (by kernel_rfl) (by simp) ?_
          refine AllReadyH.cons rfl (fun K hK => ?_) AllReadyH.nil
          go_simp
          refine (QH.out _ hs3).mono ?_
          rintro e w4 ⟨rfl, hg4⟩
          have hs4 := hs3.trans hg4
          clear hg4
          refine hK.out _ _ hs4 (fun hHeld => ?_)
          clear hK K
          try simp only [Act.put, List.setIfInBounds_toArray, List.set_cons_zero, List.set_cons_succ]
          refine held_take (i := 17) (some 29) (.bool true) rfl rfl (by kernel_rfl) (by kernel_rfl) (by kernel_rfl) (fun _ _ _ h => h) (Or.inl ⟨by rfl, by intro w hSw; go_simp⟩) (by assumption) ?_
          try simp only [Act.put, List.setIfInBounds_toArray, List.set_cons_zero, List.set_cons_succ]
          refine wpAnyH_done (by kernel_rfl) ?_ _
          have HGF := Lib.hid (HW.out.trans hs4)
          clear gd hs0 hs3 hs4 hHeld
          go_wp2_with fail
          go_ret
          exact ⟨⟨⟨false, rfl, fun h => by cases h⟩⟩, HGF.out⟩
        | false =>
          rw [hb] at QH
          have HB := Lib.hid hb
          clear hb
          go_wp2_with fail
          refine wp_region_held_drew (S := fun W => Gr wr W) (by kernel_rfl) hs0 (fun hHeld => ?_)
          refine held_take (i := 0) (some 12) (.slice (some ad) n cap) rfl rfl (by kernel_rfl) (by kernel_rfl) (by kernel_rfl) (fun _ _ _ h => h) (Or.inl ⟨by rfl, by intro w hSw; go_simp⟩) (by assumption) ?_
          try simp only [Act.put, List.setIfInBounds_toArray, List.set_cons_zero, List.set_cons_succ]
          refine held_take (i := 1) (some 13) (.int .i64 (k : Int)) rfl rfl (by kernel_rfl) (by kernel_rfl) (by kernel_rfl) (fun _ _ _ h => h) (Or.inl ⟨by rfl, by intro w hSw; go_simp⟩) (by assumption) ?_
          try simp only [Act.put, List.setIfInBounds_toArray, List.set_cons_zero, List.set_cons_succ]
          refine held_take (i := 2) (some 14) (.pointer (some (ad.add (k * 23)))) rfl rfl (by kernel_rfl) (by kernel_rfl) (by kernel_rfl) (fun _ _ _ h => h) (Or.inl ⟨by rfl, by intro w hSw; go_simp⟩) (by assumption) ?_
          try simp only [Act.put, List.setIfInBounds_toArray, List.set_cons_zero, List.set_cons_succ]
          refine held_take (i := 3) (some 15) (.pointer (some (ad.add (k * 23)))) rfl rfl (by kernel_rfl) (by kernel_rfl) (by kernel_rfl) (fun _ _ _ h => h) (Or.inl ⟨by rfl, by intro w hSw; go_simp⟩) (by assumption) ?_
          try simp only [Act.put, List.setIfInBounds_toArray, List.set_cons_zero, List.set_cons_succ]
          refine held_take (i := 4) (some 16) (.agg #[.int .u8 ((x.1.rep : Nat) : Int), .int .u32 ((x.1.seq : Nat) : Int)]) rfl rfl (by kernel_rfl) (by kernel_rfl) (by kernel_rfl) (fun _ _ _ h => h) (Or.inl ⟨by rfl, by intro w hSw; have l4 := gd w hSw; go_simp⟩) (by assumption) ?_
          try simp only [Act.put, List.setIfInBounds_toArray, List.set_cons_zero, List.set_cons_succ]
          refine wpAnyH_ready (rs := [5]) (by kernel_rfl) (by simp) ?_
          refine AllReadyH.cons rfl (fun K hK => ?_) AllReadyH.nil
          go_simp
          refine (QD.out _).mono ?_
          rintro e w3 ⟨rfl, hg3⟩
          have hs3 := hs0.trans hg3
          clear hg3
          refine hK.out _ _ hs3 (fun hHeld => ?_)
          clear hK K
          try simp only [Act.put, List.setIfInBounds_toArray, List.set_cons_zero, List.set_cons_succ]
          refine held_take (i := 6) (some 18) (.bool false) rfl rfl (by kernel_rfl) (by kernel_rfl) (by kernel_rfl) (fun _ _ _ h => h) (Or.inl ⟨by rfl, by intro w hSw; go_simp⟩) (by assumption) ?_
          try simp only [Act.put, List.setIfInBounds_toArray, List.set_cons_zero, List.set_cons_succ]
          refine held_take (i := 7) (some 19) (.bool false) rfl rfl (by kernel_rfl) (by kernel_rfl) (by kernel_rfl) (fun _ _ _ h => h) (Or.inl ⟨by rfl, by intro w hSw; go_simp⟩) (by assumption) ?_
          try simp only [Act.put, List.setIfInBounds_toArray, List.set_cons_zero, List.set_cons_succ]
          refine held_take (i := 8) (some 20) (.slice (some ad) n cap) rfl rfl (by kernel_rfl) (by kernel_rfl) (by kernel_rfl) (fun _ _ _ h => h) (Or.inl ⟨by rfl, by intro w hSw; go_simp⟩) (by assumption) ?_
          try simp only [Act.put, List.setIfInBounds_toArray, List.set_cons_zero, List.set_cons_succ]
          refine held_take (i := 9) (some 21) (.int .i64 (k : Int)) rfl rfl (by kernel_rfl) (by kernel_rfl) (by kernel_rfl) (fun _ _ _ h => h) (Or.inl ⟨by rfl, by intro w hSw; go_simp⟩) (by assumption) ?_
          try simp only [Act.put, List.setIfInBounds_toArray, List.set_cons_zero, List.set_cons_succ]
          refine held_take (i := 10) (some 22) (.slice (some ad) k cap) rfl rfl (by kernel_rfl) (by kernel_rfl) (by kernel_rfl) (fun _ _ _ h => h) (Or.inl ⟨by rfl, by intro w hSw; go_simp⟩) (by assumption) ?_
          try simp only [Act.put, List.setIfInBounds_toArray, List.set_cons_zero, List.set_cons_succ]
          refine held_take (i := 11) (some 23) (.slice (some ad) n cap) rfl rfl (by kernel_rfl) (by kernel_rfl) (by kernel_rfl) (fun _ _ _ h => h) (Or.inl ⟨by rfl, by intro w hSw; go_simp⟩) (by assumption) ?_
          try simp only [Act.put, List.setIfInBounds_toArray, List.set_cons_zero, List.set_cons_succ]
          refine held_take (i := 12) (some 24) (.int .i64 (k : Int)) rfl rfl (by kernel_rfl) (by kernel_rfl) (by kernel_rfl) (fun _ _ _ h => h) (Or.inl ⟨by rfl, by intro w hSw; go_simp⟩) (by assumption) ?_
          try simp only [Act.put, List.setIfInBounds_toArray, List.set_cons_zero, List.set_cons_succ]
          refine held_take (i := 13) (some 25) (.pointer (some (ad.add (k * 23)))) rfl rfl (by kernel_rfl) (by kernel_rfl) (by kernel_rfl) (fun _ _ _ h => h) (Or.inl ⟨by rfl, by intro w hSw; go_simp⟩) (by assumption) ?_
          try simp only [Act.put, List.setIfInBounds_toArray, List.set_cons_zero, List.set_cons_succ]
          refine held_take (i := 14) (some 26) (.pointer (some (ad.add (k * 23)))) rfl rfl (by kernel_rfl) (by kernel_rfl) (by kernel_rfl) (fun _ _ _ h => h) (Or.inl ⟨by rfl, by intro w hSw; go_simp⟩) (by assumption) ?_
          try simp only [Act.put, List.setIfInBounds_toArray, List.set_cons_zero, List.set_cons_succ]
          refine held_take (i := 15) (some 27) (.agg #[.int .u8 ((x.1.rep : Nat) : Int), .int .u32 ((x.1.seq : Nat) : Int)]) rfl rfl (by kernel_rfl) (by kernel_rfl) (by kernel_rfl) (fun _ _ _ h => h) (Or.inl ⟨by rfl, by intro w hSw; have l4 := gd w hSw; go_simp⟩) (by assumption) ?_
          try simp only [Act.put, List.setIfInBounds_toArray, List.set_cons_zero, List.set_cons_succ]
          refine wpAnyH_ready (rs := [16]) (by kernel_rfl) (by simp) ?_
          refine AllReadyH.cons rfl (fun K hK => ?_) AllReadyH.nil
          go_simp
          refine (QH.out _ hs3).mono ?_
          rintro e w4 ⟨rfl, hg4⟩
          have hs4 := hs3.trans hg4
          clear hg4
          refine hK.out _ _ hs4 (fun hHeld => ?_)
          clear hK K
          try simp only [Act.put, List.setIfInBounds_toArray, List.set_cons_zero, List.set_cons_succ]
          refine held_take (i := 17) (some 29) (.bool false) rfl rfl (by kernel_rfl) (by kernel_rfl) (by kernel_rfl) (fun _ _ _ h => h) (Or.inl ⟨by rfl, by intro w hSw; go_simp⟩) (by assumption) ?_
          try simp only [Act.put, List.setIfInBounds_toArray, List.set_cons_zero, List.set_cons_succ]
          refine wpAnyH_done (by kernel_rfl) ?_ _
          have HGF := Lib.hid (HW.out.trans hs4)
          clear gd hs0 hs3 hs4 hHeld
          go_wp2_with fail
          go_roundw
          case rel => exact ⟨k + 1, by omega, by go_num, HGF.out, by unfold Hid; rw [HTK.out]; exact HC.out.snoc HD.out HB.out⟩
          case measure => simp [intOf]; omega
    · have hkn : l.take k = l := List.take_of_length_le (by rw [HL.out.len]; omega)
      have hkn2 : k = n := by omega
      have hca := HC.out
      rw [hkn] at hca
      have HCA := Lib.hid hca
      have HW2 := Lib.hid HW.out
      clear hkn hca HC HW
      subst hkn2
      go_wp2_with fail
      generalize wr = ws at *
      go_loopw [4] (fun i wr => ∃ j : Nat, j ≤ k ∧ i = .int .i64 (j : Int) ∧ Hid (Gr w wr) ∧ Hid (CntTo l j)) (fun i _ => k - (intOf i).toNat)
      case atStart => exact ⟨0, Nat.zero_le _, rfl, HW2.out, fun i x hi => absurd hi (Nat.not_lt_zero _)⟩
      case round =>
        obtain ⟨j, hj, rfl, HWj, HCj⟩ := hrel
        by_cases hjk : j < k
        · have hkl : j < l.length := by rw [HL.out.len]; exact hjk
          obtain ⟨x, hx⟩ : ∃ x, l[j]? = some x := ⟨_, List.getElem?_eq_getElem hkl⟩
          obtain ⟨ad, hA, _⟩ := HL.out.cell (by omega)
          subst hA
          have HX := Lib.hid hx
          have i0 : (0 : Int) ≤ (j : Int) := by omega
          have i1 : (j : Int) < (k : Int) := by omega
          clear hx hkl
          go_wp2_with fail
          generalize wr = wq at *
          go_loopw [5] (fun i wr => ∃ r : Nat, r ≤ 16 ∧ i = .int .i64 (r : Int) ∧ Hid (Gr w wr) ∧ Hid (∀ r', r' < r → CntP l x r')) (fun i _ => 16 - (intOf i).toNat)
          case atStart => exact ⟨0, Nat.zero_le _, rfl, HWj.out, fun r' h => absurd h (Nat.not_lt_zero _)⟩
          case round =>
            obtain ⟨r, hr, rfl, HWr, HCr⟩ := hrel
            by_cases hr16 : r < 16
            · have hrr := HL.out.below HWr.out.below
              have gc : ∀ W, Gr wr W → (ldK 32 (⟨(ad.add (j * 23)).block, (ad.add (j * 23)).off + 7, none⟩ : Addr)).run Tryz.prog W = .ok (.agg (vecA x.1.ctx)) W := fun W hW => by rw [show (⟨(ad.add (j * 23)).block, (ad.add (j * 23)).off + 7, none⟩ : Addr) = (ad.add (j * 23)).add 7 from rfl, add_of_add]; exact (hrr.below hW.below).ctx HX.out
              obtain ⟨X, hX⟩ : ∃ X, X = x.1.ctx.getD r 0 := ⟨_, rfl⟩
              have gx : ∀ W, Gr wr W → (ldK 28 (⟨(ad.add (j * 23)).block, (ad.add (j * 23)).off + 7 + r, none⟩ : Addr)).run Tryz.prog W = .ok (.int .u32 (X : Int)) W := fun W hW => load_u32 (by
                rw [show (⟨(ad.add (j * 23)).block, (ad.add (j * 23)).off + 7 + r, none⟩ : Addr) = (ad.add (j * 23)).add (7 + r) from addr7 _ r, add_of_add, (hrr.below hW.below).c HX.out (by omega)]
                unfold opA
                rw [List.getElem?_append_right (by show 7 ≤ 7 + r; omega)]
                show (List.map _ x.1.ctx)[7 + r - 7]? = _
                rw [show 7 + r - (7 : Nat) = r by omega, List.getElem?_map, List.getElem?_eq_getElem (by rw [x.2.ctx.len]; exact hr16), hX, List.getD_eq_getElem?_getD, List.getElem?_eq_getElem (by rw [x.2.ctx.len]; exact hr16)]
                rfl)
              obtain ⟨C, hC⟩ : ∃ C, C = countN l x.1.ctx r := ⟨_, rfl⟩
              have QC := Lib.hid (fun W (hW : Gr wr W) => count_anyR l k cap (some ad) x.1.ctx x.2.ctx r hr16 HN.out W (hrr.below hW.below))
              rw [← hC] at QC
              obtain ⟨M, hM⟩ : ∃ M, M = min X 1048576 := ⟨_, rfl⟩
              have hmn : min (X : Int) 1048576 = (M : Int) := by omega
              have hs0 : Gr wr wr.drew := (Gr.refl wr).drew
              have i2 : (0 : Int) ≤ (r : Int) := by omega
              have i3 : (r : Int) < 16 := by omega
              have HCM := Lib.hid hC
              have HMM := Lib.hid hM
              have HXX := Lib.hid hX
              clear hrr hC hM hX
              by_cases hcm : C = M
              · subst hcm
                have HP := Lib.hid (show CntP l x r by unfold CntP; rw [← HCM.out, ← HXX.out]; exact HMM.out)
                go_wp2_with fail
                refine wp_region_held_drew (S := fun W => Gr wr W) (by kernel_rfl) hs0 (fun hHeld => ?_)
                refine held_take (i := 0) (some 40) (.slice (some ad) k cap) rfl rfl (by kernel_rfl) (by kernel_rfl) (by kernel_rfl) (fun _ _ _ h => h) (Or.inl ⟨by rfl, by intro w hSw; go_simp⟩) (by assumption) ?_
                try simp only [Act.put, List.setIfInBounds_toArray, List.set_cons_zero, List.set_cons_succ]
                refine held_take (i := 1) (some 41) (.slice (some ad) k cap) rfl rfl (by kernel_rfl) (by kernel_rfl) (by kernel_rfl) (fun _ _ _ h => h) (Or.inl ⟨by rfl, by intro w hSw; go_simp⟩) (by assumption) ?_
                try simp only [Act.put, List.setIfInBounds_toArray, List.set_cons_zero, List.set_cons_succ]
                refine held_take (i := 2) (some 42) (.int .i64 (j : Int)) rfl rfl (by kernel_rfl) (by kernel_rfl) (by kernel_rfl) (fun _ _ _ h => h) (Or.inl ⟨by rfl, by intro w hSw; go_simp⟩) (by assumption) ?_
                try simp only [Act.put, List.setIfInBounds_toArray, List.set_cons_zero, List.set_cons_succ]
                refine held_take (i := 3) (some 43) (.pointer (some (ad.add (j * 23)))) rfl rfl (by kernel_rfl) (by kernel_rfl) (by kernel_rfl) (fun _ _ _ h => h) (Or.inl ⟨by rfl, by intro w hSw; go_simp⟩) (by assumption) ?_
                try simp only [Act.put, List.setIfInBounds_toArray, List.set_cons_zero, List.set_cons_succ]
                refine held_take (i := 4) (some 44) (.pointer (some (⟨(ad.add (j * 23)).block, (ad.add (j * 23)).off + 7, none⟩ : Addr))) rfl rfl (by kernel_rfl) (by kernel_rfl) (by kernel_rfl) (fun _ _ _ h => h) (Or.inl ⟨by rfl, by intro w hSw; go_simp⟩) (by assumption) ?_
                try simp only [Act.put, List.setIfInBounds_toArray, List.set_cons_zero, List.set_cons_succ]
                refine held_take (i := 5) (some 45) (.agg (vecA x.1.ctx)) rfl rfl (by kernel_rfl) (by kernel_rfl) (by kernel_rfl) (fun _ _ _ h => h) (Or.inl ⟨by rfl, by intro w hSw; have l4 := gc w hSw; go_simp⟩) (by assumption) ?_
                try simp only [Act.put, List.setIfInBounds_toArray, List.set_cons_zero, List.set_cons_succ]
                refine held_take (i := 6) (some 46) (.int .i64 (r : Int)) rfl rfl (by kernel_rfl) (by kernel_rfl) (by kernel_rfl) (fun _ _ _ h => h) (Or.inl ⟨by rfl, by intro w hSw; go_simp⟩) (by assumption) ?_
                try simp only [Act.put, List.setIfInBounds_toArray, List.set_cons_zero, List.set_cons_succ]
                refine held_take (i := 8) (some 48) (.slice (some ad) k cap) rfl rfl (by kernel_rfl) (by kernel_rfl) (by kernel_rfl) (fun _ _ _ h => h) (Or.inl ⟨by rfl, by intro w hSw; go_simp⟩) (by assumption) ?_
                try simp only [Act.put, List.setIfInBounds_toArray, List.set_cons_zero, List.set_cons_succ]
                refine held_take (i := 9) (some 49) (.int .i64 (j : Int)) rfl rfl (by kernel_rfl) (by kernel_rfl) (by kernel_rfl) (fun _ _ _ h => h) (Or.inl ⟨by rfl, by intro w hSw; go_simp⟩) (by assumption) ?_
                try simp only [Act.put, List.setIfInBounds_toArray, List.set_cons_zero, List.set_cons_succ]
                refine held_take (i := 10) (some 50) (.int .i64 (r : Int)) rfl rfl (by kernel_rfl) (by kernel_rfl) (by kernel_rfl) (fun _ _ _ h => h) (Or.inl ⟨by rfl, by intro w hSw; go_simp⟩) (by assumption) ?_
                try simp only [Act.put, List.setIfInBounds_toArray, List.set_cons_zero, List.set_cons_succ]
                refine held_take (i := 11) (some 51) (.pointer (some (ad.add (j * 23)))) rfl rfl (by kernel_rfl) (by kernel_rfl) (by kernel_rfl) (fun _ _ _ h => h) (Or.inl ⟨by rfl, by intro w hSw; go_simp⟩) (by assumption) ?_
                try simp only [Act.put, List.setIfInBounds_toArray, List.set_cons_zero, List.set_cons_succ]
                refine held_take (i := 12) (some 52) (.pointer (some (⟨(ad.add (j * 23)).block, (ad.add (j * 23)).off + 7, none⟩ : Addr))) rfl rfl (by kernel_rfl) (by kernel_rfl) (by kernel_rfl) (fun _ _ _ h => h) (Or.inl ⟨by rfl, by intro w hSw; go_simp⟩) (by assumption) ?_
                try simp only [Act.put, List.setIfInBounds_toArray, List.set_cons_zero, List.set_cons_succ]
                refine held_take (i := 13) (some 53) (.pointer (some (⟨(ad.add (j * 23)).block, (ad.add (j * 23)).off + 7 + r, none⟩ : Addr))) rfl rfl (by kernel_rfl) (by kernel_rfl) (by kernel_rfl) (fun _ _ _ h => h) (Or.inl ⟨by rfl, by intro w hSw; go_simp⟩) (by assumption) ?_
                try simp only [Act.put, List.setIfInBounds_toArray, List.set_cons_zero, List.set_cons_succ]
                refine held_take (i := 14) (some 54) (.int .u32 (X : Int)) rfl rfl (by kernel_rfl) (by kernel_rfl) (by kernel_rfl) (fun _ _ _ h => h) (Or.inl ⟨by rfl, by intro w hSw; have l4 := gx w hSw; go_simp⟩) (by assumption) ?_
                try simp only [Act.put, List.setIfInBounds_toArray, List.set_cons_zero, List.set_cons_succ]
                refine held_take (i := 15) (some 55) (.int .u32 (C : Int)) rfl rfl (by kernel_rfl) (by kernel_rfl) (by kernel_rfl) (fun _ _ _ h => h) (Or.inl ⟨by rfl, by intro w hSw; go_simp⟩) (by assumption) ?_
                try simp only [Act.put, List.setIfInBounds_toArray, List.set_cons_zero, List.set_cons_succ]
                refine wpAnyH_ready (rs := [7]) (by kernel_rfl) (by simp) ?_
                refine AllReadyH.cons rfl (fun K hK => ?_) AllReadyH.nil
                go_simp
                refine (QC.out _ hs0).mono ?_
                rintro e w3 ⟨rfl, hg3⟩
                have hs3 := hs0.trans hg3
                clear hg3
                refine hK.out _ _ hs3 (fun hHeld => ?_)
                clear hK K
                try simp only [Act.put, List.setIfInBounds_toArray, List.set_cons_zero, List.set_cons_succ]
                refine held_take (i := 16) (some 56) (.bool false) rfl rfl (by kernel_rfl) (by kernel_rfl) (by kernel_rfl) (fun _ _ _ h => h) (Or.inl ⟨by rfl, by intro w hSw; go_simp⟩) (by assumption) ?_
                try simp only [Act.put, List.setIfInBounds_toArray, List.set_cons_zero, List.set_cons_succ]
                refine wpAnyH_done (by kernel_rfl) ?_ _
                have HGF := Lib.hid (HWr.out.trans hs3)
                clear gc gx hs0 hs3 hHeld
                go_wp2_with fail
                go_roundw
                case rel => exact ⟨r + 1, by omega, by go_num, HGF.out, fun r' h => by
                  by_cases e : r' = r
                  · rw [e]; exact HP.out
                  · exact HCr.out r' (by omega)⟩
                case measure => simp [intOf]; omega
              · have n1 : ¬ (C : Int) = (M : Int) := by omega
                have d1 : ((C : Int) == (M : Int)) = false := by simp; omega
                go_wp2_with fail
                refine wp_region_held_drew (S := fun W => Gr wr W) (by kernel_rfl) hs0 (fun hHeld => ?_)
                refine held_take (i := 0) (some 40) (.slice (some ad) k cap) rfl rfl (by kernel_rfl) (by kernel_rfl) (by kernel_rfl) (fun _ _ _ h => h) (Or.inl ⟨by rfl, by intro w hSw; go_simp⟩) (by assumption) ?_
                try simp only [Act.put, List.setIfInBounds_toArray, List.set_cons_zero, List.set_cons_succ]
                refine held_take (i := 1) (some 41) (.slice (some ad) k cap) rfl rfl (by kernel_rfl) (by kernel_rfl) (by kernel_rfl) (fun _ _ _ h => h) (Or.inl ⟨by rfl, by intro w hSw; go_simp⟩) (by assumption) ?_
                try simp only [Act.put, List.setIfInBounds_toArray, List.set_cons_zero, List.set_cons_succ]
                refine held_take (i := 2) (some 42) (.int .i64 (j : Int)) rfl rfl (by kernel_rfl) (by kernel_rfl) (by kernel_rfl) (fun _ _ _ h => h) (Or.inl ⟨by rfl, by intro w hSw; go_simp⟩) (by assumption) ?_
                try simp only [Act.put, List.setIfInBounds_toArray, List.set_cons_zero, List.set_cons_succ]
                refine held_take (i := 3) (some 43) (.pointer (some (ad.add (j * 23)))) rfl rfl (by kernel_rfl) (by kernel_rfl) (by kernel_rfl) (fun _ _ _ h => h) (Or.inl ⟨by rfl, by intro w hSw; go_simp⟩) (by assumption) ?_
                try simp only [Act.put, List.setIfInBounds_toArray, List.set_cons_zero, List.set_cons_succ]
                refine held_take (i := 4) (some 44) (.pointer (some (⟨(ad.add (j * 23)).block, (ad.add (j * 23)).off + 7, none⟩ : Addr))) rfl rfl (by kernel_rfl) (by kernel_rfl) (by kernel_rfl) (fun _ _ _ h => h) (Or.inl ⟨by rfl, by intro w hSw; go_simp⟩) (by assumption) ?_
                try simp only [Act.put, List.setIfInBounds_toArray, List.set_cons_zero, List.set_cons_succ]
                refine held_take (i := 5) (some 45) (.agg (vecA x.1.ctx)) rfl rfl (by kernel_rfl) (by kernel_rfl) (by kernel_rfl) (fun _ _ _ h => h) (Or.inl ⟨by rfl, by intro w hSw; have l4 := gc w hSw; go_simp⟩) (by assumption) ?_
                try simp only [Act.put, List.setIfInBounds_toArray, List.set_cons_zero, List.set_cons_succ]
                refine held_take (i := 6) (some 46) (.int .i64 (r : Int)) rfl rfl (by kernel_rfl) (by kernel_rfl) (by kernel_rfl) (fun _ _ _ h => h) (Or.inl ⟨by rfl, by intro w hSw; go_simp⟩) (by assumption) ?_
                try simp only [Act.put, List.setIfInBounds_toArray, List.set_cons_zero, List.set_cons_succ]
                refine held_take (i := 8) (some 48) (.slice (some ad) k cap) rfl rfl (by kernel_rfl) (by kernel_rfl) (by kernel_rfl) (fun _ _ _ h => h) (Or.inl ⟨by rfl, by intro w hSw; go_simp⟩) (by assumption) ?_
                try simp only [Act.put, List.setIfInBounds_toArray, List.set_cons_zero, List.set_cons_succ]
                refine held_take (i := 9) (some 49) (.int .i64 (j : Int)) rfl rfl (by kernel_rfl) (by kernel_rfl) (by kernel_rfl) (fun _ _ _ h => h) (Or.inl ⟨by rfl, by intro w hSw; go_simp⟩) (by assumption) ?_
                try simp only [Act.put, List.setIfInBounds_toArray, List.set_cons_zero, List.set_cons_succ]
                refine held_take (i := 10) (some 50) (.int .i64 (r : Int)) rfl rfl (by kernel_rfl) (by kernel_rfl) (by kernel_rfl) (fun _ _ _ h => h) (Or.inl ⟨by rfl, by intro w hSw; go_simp⟩) (by assumption) ?_
                try simp only [Act.put, List.setIfInBounds_toArray, List.set_cons_zero, List.set_cons_succ]
                refine held_take (i := 11) (some 51) (.pointer (some (ad.add (j * 23)))) rfl rfl (by kernel_rfl) (by kernel_rfl) (by kernel_rfl) (fun _ _ _ h => h) (Or.inl ⟨by rfl, by intro w hSw; go_simp⟩) (by assumption) ?_
                try simp only [Act.put, List.setIfInBounds_toArray, List.set_cons_zero, List.set_cons_succ]
                refine held_take (i := 12) (some 52) (.pointer (some (⟨(ad.add (j * 23)).block, (ad.add (j * 23)).off + 7, none⟩ : Addr))) rfl rfl (by kernel_rfl) (by kernel_rfl) (by kernel_rfl) (fun _ _ _ h => h) (Or.inl ⟨by rfl, by intro w hSw; go_simp⟩) (by assumption) ?_
                try simp only [Act.put, List.setIfInBounds_toArray, List.set_cons_zero, List.set_cons_succ]
                refine held_take (i := 13) (some 53) (.pointer (some (⟨(ad.add (j * 23)).block, (ad.add (j * 23)).off + 7 + r, none⟩ : Addr))) rfl rfl (by kernel_rfl) (by kernel_rfl) (by kernel_rfl) (fun _ _ _ h => h) (Or.inl ⟨by rfl, by intro w hSw; go_simp⟩) (by assumption) ?_
                try simp only [Act.put, List.setIfInBounds_toArray, List.set_cons_zero, List.set_cons_succ]
                refine held_take (i := 14) (some 54) (.int .u32 (X : Int)) rfl rfl (by kernel_rfl) (by kernel_rfl) (by kernel_rfl) (fun _ _ _ h => h) (Or.inl ⟨by rfl, by intro w hSw; have l4 := gx w hSw; go_simp⟩) (by assumption) ?_
                try simp only [Act.put, List.setIfInBounds_toArray, List.set_cons_zero, List.set_cons_succ]
                refine held_take (i := 15) (some 55) (.int .u32 (M : Int)) rfl rfl (by kernel_rfl) (by kernel_rfl) (by kernel_rfl) (fun _ _ _ h => h) (Or.inl ⟨by rfl, by intro w hSw; go_simp⟩) (by assumption) ?_
                try simp only [Act.put, List.setIfInBounds_toArray, List.set_cons_zero, List.set_cons_succ]
                refine wpAnyH_ready (rs := [7]) (by kernel_rfl) (by simp) ?_
                refine AllReadyH.cons rfl (fun K hK => ?_) AllReadyH.nil
                go_simp
                refine (QC.out _ hs0).mono ?_
                rintro e w3 ⟨rfl, hg3⟩
                have hs3 := hs0.trans hg3
                clear hg3
                refine hK.out _ _ hs3 (fun hHeld => ?_)
                clear hK K
                try simp only [Act.put, List.setIfInBounds_toArray, List.set_cons_zero, List.set_cons_succ]
                refine held_take (i := 16) (some 56) (.bool true) rfl rfl (by kernel_rfl) (by kernel_rfl) (by kernel_rfl) (fun _ _ _ h => h) (Or.inl ⟨by rfl, by intro w hSw; go_simp⟩) (by assumption) ?_
                try simp only [Act.put, List.setIfInBounds_toArray, List.set_cons_zero, List.set_cons_succ]
                refine wpAnyH_done (by kernel_rfl) ?_ _
                have HGF := Lib.hid (HWr.out.trans hs3)
                clear gc gx hs0 hs3 hHeld
                go_wp2_with fail
                go_ret
                exact ⟨⟨⟨false, rfl, fun h => by cases h⟩⟩, HGF.out⟩
            · have HJ := Lib.hid (show CntTo l (j + 1) from fun i y hi hy r' hr' => by
                by_cases e : i = j
                · rw [e, HX.out] at hy
                  injection hy with hy
                  rw [← hy]
                  exact HCr.out r' (by omega)
                · exact HCj.out i y (by omega) hy r' hr')
              go_wp2_with fail
              exact ⟨⟨j + 1, by omega, by go_num, HWr.out, HJ.out⟩, by simp [intOf]; omega⟩
        · have HCP := Lib.hid (show CloP l from ⟨HCA.out.ok, HCA.out.nd, fun x hx r hr => by
            obtain ⟨i, hi, he⟩ := List.getElem_of_mem hx
            exact HCj.out i x (by have := HL.out.len; omega) (by rw [List.getElem?_eq_getElem hi, he]) r hr⟩)
          go_wp2_with fail
          go_ret
          exact ⟨⟨⟨true, rfl, fun _ => HCP.out⟩⟩, HWj.out⟩
end Go.Proofs.YtgogbpkcceadbaaGreatDoor.Vc
