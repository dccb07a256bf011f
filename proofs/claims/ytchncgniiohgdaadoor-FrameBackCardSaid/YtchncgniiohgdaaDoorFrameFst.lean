/-
  What frame.First comes to, for every bytes.
-/
import Derived.Test.YtchncgniiohgdaaDoorFrameWalk
import Derived.Test.YtchncgniiohgdaaDoorVintGet
import Derived.Test.YtchncgniiohgdaaDoorEqArr
import Derived.WalkSpells
import Derived.Laws.Cover3
import Derived.Lib.SliceRun
namespace Go.Proofs.YtchncgniiohgdaaDoor.FrameW
open Go.RowKit Go.Proofs.YtchncgniiohgdaaDoor.Wd Go.Proofs.YtchncgniiohgdaaDoor.FrameP Go.Proofs.YtchncgniiohgdaaDoor.CrcW Go.Proofs.YtchncgniiohgdaaDoor.VintW
set_option linter.unusedVariables false

/-- The call returns the bytes, the size and the error of r, the bytes in new memory. -/
def GivesF (w : World) (r : List Nat × Nat × Nat) (e : Ending) (w' : World) : Prop :=
  ∃ v, e = .returned (.tuple #[v, .int .i64 (r.2.1 : Int), .int .i64 (r.2.2 : Int)]) ∧ OwnB w' w.heap.size v r.1 ∧ Below w.heap.size w w'
theorem givesF_err {w w' : World} {e : Ending} {x : Nat} (h : e = .returned (.tuple #[.slice none 0 0, .int .i64 0, .int .i64 (x : Int)])) (hw : w = w') : GivesF w ([], 0, x) e w' := by
  subst hw
  exact ⟨_, h, OwnB.nil_ _ _, Below.refl _ _⟩

set_option maxHeartbeats 1000000 in
theorem clone_any (n cap : Nat) (ad : Addr) (xs : List Nat) (w : World) (hx : RdB w (some ad) n xs) (hn : n ≤ 65536) :
    Calls Tryd.prog 21 #[.slice (some ad) n cap] w (GivesB w xs) := by
  have HX := Lib.hid hx
  clear hx
  have hb0 : Below w.heap.size w (w.alloc (.cells #[] 5)) := (Below.refl _ _).alloc (Nat.le_refl _) _
  have HB0 := Lib.hid hb0
  clear hb0
  have hnil := fun W : World => Lib.run_eql_slice_nil (P := Tryd.prog) W 22 5 (some ad) n cap 0 0 Tryd.underlying22
  go_enter Tryd.func21, Tryd.ntmps21
  go_wp2_with (at_builtin; refine app_list w.heap.size rfl (.tmp 5) (.tmp 6) rfl rfl rfl (OwnB.lit0 w w.heap.size (Nat.le_refl _)) (HX.out.below HB0.out) (by simp; omega) HB0.out.size ?_; intro v2 w2 ho2 hg2 ha2; rw [List.nil_append] at ho2; have HB2 := Lib.hid ((OwnB.lit0 w w.heap.size (Nat.le_refl _)).to_below HB0.out HB0.out.size hg2); have HO2 := Lib.hid ho2; clear ho2 hg2 ha2)
  go_ret
  exact ⟨v2, rfl, HO2.out, HB2.out⟩

theorem take4 {xs : List Nat} {E : Nat} (h : E + 4 ≤ xs.length) : (xs.drop E).take 4 = [xs.getD E 0, xs.getD (E + 1) 0, xs.getD (E + 2) 0, xs.getD (E + 3) 0] := by
  have e : ∀ j, j < xs.length → xs.drop j = xs.getD j 0 :: xs.drop (j + 1) := fun j hj => by
    rw [List.getD_eq_getElem?_getD, List.getElem?_eq_getElem hj, Option.getD_some]
    exact List.drop_eq_getElem_cons hj
  rw [e E (by omega), e (E + 1) (by omega), e (E + 1 + 1) (by omega), e (E + 1 + 1 + 1) (by omega)]
  rfl

set_option maxHeartbeats 1000000 in
set_option maxRecDepth 100000 in
theorem first_any (n cap : Nat) (A : Option Addr) (xs : List Nat) (w : World) (hc : n ≤ cap) (hx : RdB w A n xs) (ht : Tab w) :
    Calls Tryd.prog 11 #[.slice A n cap] w (GivesF w (first xs)) := by
  have hfit := hx.fits
  have HX := Lib.hid hx
  have HL := Lib.hid hx.len
  have HT := Lib.hid ht
  have q := get_any n cap A xs w hx
  unfold getVal at q
  clear hx ht
  rcases get_err xs with he | he
  rotate_left
  · have hr : first xs = ([], 0, (VintP.get 0 0 xs).2.2) := by unfold first; rw [if_pos (by omega)]
    rw [hr]
    generalize (VintP.get 0 0 xs).1 = a at *
    generalize (VintP.get 0 0 xs).2.1 = b at *
    generalize (VintP.get 0 0 xs).2.2 = c at *
    have t0 : ((c : Int) != 0) = true := by rw [bne_iff_ne]; omega
    have Q := Lib.hid q
    clear q hr he
    go_enter Tryd.func11, Tryd.ntmps11
    go_wp2_with fail
    refine Q.out.mono ?_
    rintro e w' ⟨rfl, rfl⟩
    go_wp2
    go_ret3
    exact givesF_err rfl rfl
  · obtain ⟨N, k, hg⟩ : ∃ N k, VintP.get 0 0 xs = (N, k, 0) := ⟨(VintP.get 0 0 xs).1, (VintP.get 0 0 xs).2.1, Prod.ext rfl (Prod.ext rfl he)⟩
    obtain ⟨g1, g2, g3, g4, g5⟩ := get_ok HX.out.small hg
    rw [HL.out] at g4
    have hr : first xs = if 4096 < N then ([], 0, 5) else if xs.length < k + N + 4 then ([], 0, 4)
        else if le4 (CrcP.sum (xs.take (k + N))) ≠ (xs.drop (k + N)).take 4 then ([], 0, 6) else ((xs.drop k).take N, k + N + 4, 0) := by
      unfold first
      rw [hg]
      rfl
    rw [hg] at q
    by_cases h1 : 4096 < N
    · rw [hr, if_pos h1]
      have Q := Lib.hid q
      clear q hr he
      go_enter Tryd.func11, Tryd.ntmps11
      go_wp2_with fail
      refine Q.out.mono ?_
      rintro e w' ⟨rfl, rfl⟩
      go_wp2
      go_ret3
      exact givesF_err rfl rfl
    · rw [if_neg h1] at hr
      by_cases h2 : n < k + N + 4
      · rw [hr, if_pos (by rw [HL.out]; exact h2)]
        have Q := Lib.hid q
        clear q hr he
        go_enter Tryd.func11, Tryd.ntmps11
        go_wp2_with fail
        refine Q.out.mono ?_
        rintro e w' ⟨rfl, rfl⟩
        go_wp2
        go_ret3
        exact givesF_err rfl rfl
      · rw [if_neg (by rw [HL.out]; exact h2)] at hr
        have Q := Lib.hid q
        have HR := Lib.hid hr
        have G := Lib.hid g1
        clear q hr he hg g1 g2
        obtain ⟨ad, rfl, hcell⟩ := HX.out.cell (by omega)
        obtain ⟨E, hE⟩ : ∃ E, E = k + N := ⟨_, rfl⟩
        have eE : (k : Int) + (N : Int) = (E : Int) := by omega
        have hEn : E + 4 ≤ n := by omega
        have hkE : k ≤ E := by omega
        have hne : ¬ cap = E := by omega
        have hnk : ¬ cap = k := by omega
        have ik0 : (0 : Int) ≤ (k : Int) := by omega
        have ik1 : (k : Int) ≤ (E : Int) := by omega
        have HE := Lib.hid hE
        have HC := Lib.hid hcell
        have i0 : (0 : Int) ≤ (E : Int) := by omega
        have i1 : (E : Int) ≤ (cap : Int) := by omega
        have i2 : (E : Int) ≤ (n : Int) := by omega
        clear hE hcell
        go_enter Tryd.func11, Tryd.ntmps11
        go_wp2_with fail
        refine Q.out.mono ?_
        rintro e w' ⟨rfl, rfl⟩
        go_wp2_with fail
        have harr := fun W : World => run_arrayAt (P := Tryd.prog) (w := W) 44 5 4 (some (ad.add E)) (n - E) (cap - E) Tryd.underlying44 (by omega)
        have ht4 := take4 (xs := xs) (E := E) (by rw [HL.out]; omega)
        have hsum : ∀ W, Below w.heap.size w W → Calls Tryd.prog 17 #[.slice (some ad) E cap] W fun e w' => e = .returned (sumVal (CrcP.sum (xs.take E))) ∧ Below W.heap.size W w' :=
          fun W hW => sum4_any E cap (some ad) (xs.take E) W ((HX.out.take (by omega)).below hW) (HT.out.below hW)
        have hr := HR.out
        rw [← HE.out, ht4] at hr
        unfold sumVal at hsum
        unfold le4 at hr
        generalize CrcP.sum (xs.take E) = S at *
        generalize S % 256 = b0 at *
        generalize S / 256 % 256 = b1 at *
        generalize S / 65536 % 256 = b2 at *
        generalize S / 16777216 % 256 = b3 at *
        have hat : ∀ j, j < 4 → ∀ W, Below w.heap.size w W → W.cell? ((ad.add E).add j) = some (.int .u8 ((xs.getD (E + j) 0 : Nat) : Int)) := fun j hj W hW => by
          have h1 := HC.out (E + j) (by omega)
          rw [add_of_add, hW.cell (World.block_lt_of_cell? w _ h1)]
          exact h1
        have c0 : ∀ W, Below w.heap.size w W → W.cell? (ad.add E) = some (.int .u8 ((xs.getD E 0 : Nat) : Int)) := fun W hW => hat 0 (by decide) W hW
        have c1 : ∀ W, Below w.heap.size w W → W.cell? { block := (ad.add E).block, off := (ad.add E).off + 1 } = some (.int .u8 ((xs.getD (E + 1) 0 : Nat) : Int)) := fun W hW => hat 1 (by decide) W hW
        have c2 : ∀ W, Below w.heap.size w W → W.cell? { block := (ad.add E).block, off := (ad.add E).off + 2 } = some (.int .u8 ((xs.getD (E + 2) 0 : Nat) : Int)) := fun W hW => hat 2 (by decide) W hW
        have c3 : ∀ W, Below w.heap.size w W → W.cell? { block := (ad.add E).block, off := (ad.add E).off + 3 } = some (.int .u8 ((xs.getD (E + 3) 0 : Nat) : Int)) := fun W hW => hat 3 (by decide) W hW
        generalize xs.getD E 0 = d0 at *
        generalize xs.getD (E + 1) 0 = d1 at *
        generalize xs.getD (E + 2) 0 = d2 at *
        generalize xs.getD (E + 3) 0 = d3 at *
        have HSUM := Lib.hid hsum
        clear hat hsum ht4 HC
        by_cases heq : [b0, b1, b2, b3] = [d0, d1, d2, d3]
        · rw [if_neg (by simp [heq])] at hr
          simp only [List.cons.injEq, and_true] at heq
          obtain ⟨rfl, rfl, rfl, rfl⟩ := heq
          have heqr := fun W : World => Eqa.eq4 (b0 := b0) (b1 := b1) (b2 := b2) (b3 := b3) (d0 := b0) (d1 := b1) (d2 := b2) (d3 := b3) W
          simp only [decide_true] at heqr
          have HR2 := Lib.hid hr
          clear hr HR
          have hsl : ∀ W, Below w.heap.size w W → Calls Tryd.prog 21 #[.slice (some (ad.add k)) (E - k) (cap - k)] W (GivesB W ((xs.take E).drop k)) :=
            fun W hW => clone_any (E - k) (cap - k) (ad.add k) ((xs.take E).drop k) W (by
              have h1 := ((HX.out.take (k := E) (by omega)).below hW).drop (k := k) (cap := cap) hkE (by omega)
              simpa [hnk] using h1) (by have := HE.out; omega)
          have HCL := Lib.hid hsl
          clear hsl
          have hxd : (xs.take E).drop k = (xs.drop k).take N := by rw [HE.out, List.drop_take]; congr 1; omega
          have hr2 := HR2.out
          rw [← hxd] at hr2
          have HR3 := Lib.hid hr2
          clear hr2 hxd HR2
          generalize (xs.take E).drop k = ys at *
          go_region_held3 (fun w' => Below w.heap.size w w') (first | assumption | exact (Below.refl _ _).drew)
            ((go_at_call 17; ((with_reducible refine (HSUM.out _ (by assumption)).mono ?_)); rintro e w3 ⟨rfl, hb3⟩; have hb4 := Below.trans ‹Below w.heap.size w _› (hb3.mono (Below.size ‹Below w.heap.size w _›))))
          all_goals clear heqr harr c0 c1 c2 c3 HSUM hb3
          all_goals go_wp2_with fail
          all_goals refine (HCL.out _ hb4).mono ?_
          all_goals rintro e w5 ⟨v5, rfl, ho5, hb5⟩
          all_goals have hb6 := hb4.trans (hb5.mono hb4.size)
          all_goals have ho6 : OwnB w5 w.heap.size v5 ys := ⟨own_base ho5.row hb4.size, ho5.small⟩
          all_goals go_wp2
          all_goals go_ret3
          all_goals refine ⟨v5, ?_, ?_, hb6⟩
          all_goals rw [HR3.out]
          all_goals first
            | rfl
            | exact ho6
        · rw [if_pos heq] at hr
          have heqr := fun W : World => Eqa.eq4 (b0 := b0) (b1 := b1) (b2 := b2) (b3 := b3) (d0 := d0) (d1 := d1) (d2 := d2) (d3 := d3) W
          rw [decide_eq_false heq] at heqr
          clear heq
          have HR2 := Lib.hid hr
          clear hr HR
          go_region_held3 (fun w' => Below w.heap.size w w') (first | assumption | exact (Below.refl _ _).drew)
            ((go_at_call 17; ((with_reducible refine (HSUM.out _ (by assumption)).mono ?_)); rintro e w3 ⟨rfl, hb3⟩; have hb4 := Below.trans ‹Below w.heap.size w _› (hb3.mono (Below.size ‹Below w.heap.size w _›))))
          all_goals clear heqr harr c0 c1 c2 c3 HSUM hb3
          all_goals go_wp2
          all_goals go_ret3
          all_goals refine ⟨.slice none 0 0, ?_, ?_, hb4⟩
          all_goals rw [HR2.out]
          all_goals first
            | rfl
            | exact OwnB.nil_ _ _
end Go.Proofs.YtchncgniiohgdaaDoor.FrameW
