/-
  vec.Right and vec.Encode, of a right vector.
  vec.Encode.
-/
import Derived.Test.YtgogbpkcceadbaaGreatDoorPackZ
import Derived.Test.YtgogbpkcceadbaaGreatDoorOpW
namespace Go.Proofs.YtgogbpkcceadbaaGreatDoor.Vc
open Go.RowKit Go.Proofs.YtgogbpkcceadbaaGreatDoor.Wd Go.Proofs.YtgogbpkcceadbaaGreatDoor.VintP
set_option linter.unusedVariables false

set_option maxHeartbeats 1000000 in
set_option maxRecDepth 100000 in
theorem vright_any (a : List Nat) (ha : IsVec a) (hs : ∀ x ∈ a, x ≤ 1048576) (w : World) :
    Calls Tryz.prog 73 #[.agg (vecA a), .int .i64 16] w fun e w' => e = .returned (.bool true) ∧ Gr w w' := by
  have HA := Lib.hid ha
  have HS := Lib.hid hs
  have h1 := VecAt.new w ha
  have H1 := Lib.hid h1
  have H0 := Lib.hid ((Gr.refl w).alloc (.cells (vecA a) 32))
  clear ha h1 hs
  go_enter Tryz.func73, Tryz.ntmps73
  go_wp2_with (refine VecAt.load_list H1.out rfl (.tmp 2) rfl rfl ?_)
  generalize w.alloc (.cells (vecA a) 32) = w2 at *
  go_loop [14] (fun i => ∃ k : Nat, k ≤ 16 ∧ i = .int .i64 (k : Int)) (fun i => 16 - (intOf i).toNat)
  case atStart => exact ⟨0, Nat.zero_le _, rfl⟩
  case round =>
    obtain ⟨k, hk, rfl⟩ := hrel
    by_cases hlt : k < 16
    · have hget := vec_index HA.out hlt
      have b1 := HA.out.at_ k
      have b2 := getD_le HS.out k
      obtain ⟨x, hx⟩ : ∃ x, x = a.getD k 0 := ⟨_, rfl⟩
      rw [← hx] at hget b1 b2
      have i1 : ¬ ((x : Int) > 1048576) := by omega
      have i2 : ¬ ((k : Int) ≥ 16) := by omega
      have i3 : decide (1048576 < (x : Int)) = false := decide_eq_false (by omega)
      have i4 : decide (16 ≤ (k : Int)) = false := decide_eq_false (by omega)
      clear hx
      go_wp2_with fail
      exact ⟨⟨k + 1, by omega, by go_num⟩, by simp [intOf]; omega⟩
    · go_wp2_with fail
      go_ret
      exact ⟨rfl, H0.out⟩
end Go.Proofs.YtgogbpkcceadbaaGreatDoor.Vc
namespace Go.Proofs.YtgogbpkcceadbaaGreatDoor.Vc
open Go.RowKit Go.Proofs.YtgogbpkcceadbaaGreatDoor.Wd Go.Proofs.YtgogbpkcceadbaaGreatDoor.VintP Go.Proofs.YtgogbpkcceadbaaGreatDoor.VintW Go.Proofs.YtgogbpkcceadbaaGreatDoor.Pk
set_option linter.unusedVariables false

/-- How many numbers of a vector's first ones stand ahead of the noughts. -/
def vlen (a : List Nat) : Nat → Nat
  | 0 => 0
  | n + 1 => if a.getD n 0 = 0 then vlen a n else n + 1
theorem vlen_le (a : List Nat) : ∀ n, vlen a n ≤ n
  | 0 => Nat.le_refl _
  | n + 1 => by
    unfold vlen
    split
    · exact Nat.le_succ_of_le (vlen_le a n)
    · exact Nat.le_refl _
theorem vlen_zero (a : List Nat) : ∀ n j, vlen a n ≤ j → j < n → a.getD j 0 = 0
  | 0, j, _, h => absurd h (Nat.not_lt_zero _)
  | n + 1, j, h, hj => by
    unfold vlen at h
    split at h
    · rename_i h0
      by_cases hjn : j = n
      · rw [hjn]; exact h0
      · exact vlen_zero a n j h (by omega)
    · omega
theorem vlen_last (a : List Nat) : ∀ n, 0 < vlen a n → a.getD (vlen a n - 1) 0 ≠ 0
  | 0, h => absurd h (Nat.lt_irrefl _)
  | n + 1, h => by
    unfold vlen at h ⊢
    split
    · rename_i h0
      rw [if_pos h0] at h
      exact vlen_last a n h
    · rename_i h0
      exact h0
/-- A vector's bytes. -/
def encV (a : List Nat) : List Nat := cat (vlen a 16 :: a.take (vlen a 16))
theorem encV_length (a : List Nat) : (encV a).length ≤ 170 := by
  have h1 := cat_length (vlen a 16 :: a.take (vlen a 16))
  have h2 := vlen_le a 16
  unfold encV
  rw [List.length_cons, List.length_take] at h1
  omega
theorem cat_snoc (n : Nat) {a : List Nat} {k : Nat} (h : k < a.length) : cat (n :: a.take (k + 1)) = cat (n :: a.take k) ++ enc (a.getD k 0) := by
  rw [take_snoc h, show n :: (a.take k ++ [a.getD k 0]) = (n :: a.take k) ++ [a.getD k 0] from rfl, cat_append]
  simp [cat]
set_option maxHeartbeats 4000000 in
set_option maxRecDepth 100000 in
theorem vencode_any (a : List Nat) (ha : IsVec a) (w : World) :
    Calls Tryz.prog 47 #[.agg (vecA a)] w (GivesB w (encV a)) := by
  have HA := Lib.hid ha
  have h1 := VecAt.new w ha
  have H1 := Lib.hid h1
  have H0 := Lib.hid ((Below.refl w.heap.size w).alloc (Nat.le_refl _) (.cells (vecA a) 32))
  clear ha h1
  go_enter Tryz.func47, Tryz.ntmps47
  go_wp2_with fail
  generalize w.alloc (.cells (vecA a) 32) = w2 at *
  go_loop [3] (fun i => ∃ k : Nat, k ≤ 16 ∧ i = .int .i64 (k : Int) ∧ Hid (vlen a 16 = vlen a k)) (fun i => (intOf i).toNat)
  case atStart => exact ⟨16, Nat.le_refl _, rfl, rfl⟩
  case round =>
    obtain ⟨k, hk, rfl, HV⟩ := hrel
    by_cases h0 : k = 0
    · have HV : Hid (vlen a 16 = k) := by have := HV.out; subst h0; exact this
      have i7 : ¬ ((k : Int) > 0) := by omega
      have i8 : decide (0 < (k : Int)) = false := decide_eq_false (by omega)
      clear h0
      have Q1 := Lib.hid (new_any w2)
      go_wp2_with fail
      refine Q1.out.mono ?_
      rintro e w3 ⟨rfl, hw3, hb3⟩
      have hgl := H1.out.lt
      have hw2 := H1.out
      generalize hB : w2.heap.size = B at hw3 hb3 hgl ⊢
      have hv3 : VecAt w3 w.heap.size a := ⟨hw2.vec, by rw [hb3.block _ hgl]; exact hw2.row⟩
      have q2 := num_any B B _ [] k w3 hw3 (by omega) (by have := (enc_length k).2; simp; omega)
      have Q2 := Lib.hid q2
      have HB3 := Lib.hid hb3
      have HGL := Lib.hid hgl
      have HBB := Lib.hid hB
      clear hw2 hw3 hb3 q2 hB hgl Q1
      go_wp2_with fail
      refine Q2.out.mono ?_
      rintro e w4 ⟨rfl, ⟨v4, h4⟩, hb4⟩
      rw [show [] ++ enc k = cat (k :: a.take 0) by simp [cat]] at h4
      have H4 := Lib.hid h4
      have HB4 := Lib.hid (HB3.out.trans hb4)
      have i5 : (0 : Int) ≤ (k : Int) := by omega
      have i6 : (k : Int) ≤ 16 := by omega
      clear h4 hb4 Q2 HB3 hv3
      go_wp2_with fail
      go_loopw [28] (fun i wr => ∃ j : Nat, j ≤ k ∧ i = .int .i64 (j : Int) ∧ Hid (∃ v', WrAt wr B B v' (cat (k :: a.take j))) ∧ Hid (Below B w2 wr)) (fun i _ => k - (intOf i).toNat)
      case atStart => exact ⟨0, Nat.zero_le _, rfl, ⟨_, H4.out⟩, HB4⟩
      case round =>
        obtain ⟨j, hj, rfl, HW, HBL⟩ := hrel
        by_cases hlt : j < k
        · have hv : VecAt wr w.heap.size a := ⟨HA.out, by rw [HBL.out.block _ HGL.out]; exact H1.out.row⟩
          have hc := hv.cell (j := j) (by omega)
          have b1 := HA.out.at_ j
          have hsn := cat_snoc k (a := a) (k := j) (by rw [HA.out.len]; omega)
          obtain ⟨v5, h5⟩ := HW.out
          have hcl := cat_length (k :: a.take j)
          rw [List.length_cons, List.length_take] at hcl
          obtain ⟨x, hx⟩ : ∃ x, x = a.getD j 0 := ⟨_, rfl⟩
          rw [← hx] at hc b1 hsn
          have q := num_any B B v5 _ x wr h5 (by omega) (by have := (enc_length x).2; omega)
          rw [← hsn] at q
          have Q := Lib.hid q
          have i0 : (0 : Int) ≤ (j : Int) := by omega
          have i1 : (j : Int) < (k : Int) := by omega
          have wx : IntKind.u64.wrap (x : Int) = (x : Int) := by rw [IntKind.wrap_u64]; omega
          clear hv hsn h5 hcl hx q HW
          go_wp2_with fail
          refine Q.out.mono ?_
          rintro e w5 ⟨rfl, h6, hb6⟩
          have H6 := Lib.hid h6
          have HB6 := Lib.hid (HBL.out.trans hb6)
          clear h6 hb6
          go_wp2_with fail
          go_roundw
          case rel => exact ⟨j + 1, by omega, by go_num, H6, HB6⟩
          case measure => simp [intOf]; omega
        · have hjk : j = k := by omega
          subst hjk
          obtain ⟨v5, h5⟩ := HW.out
          rw [← HV.out, show cat (vlen a 16 :: a.take (vlen a 16)) = encV a from rfl] at h5
          have hel := encV_length a
          have q := all_any B B v5 _ wr h5 (by omega)
          have Q := Lib.hid q
          clear h5 hel q HW
          go_wp2_with fail
          refine Q.out.mono ?_
          rintro e w6 ⟨v6, rfl, ho6, hb6⟩
          have hbl := H0.out.trans (HBL.out.mono (Nat.le_of_lt HGL.out))
          have hb7 := hbl.trans (hb6.mono hbl.size)
          have ho7 : OwnB w6 w.heap.size v6 (encV a) := ⟨own_base ho6.row hbl.size, ho6.small⟩
          clear hbl
          obtain ⟨A6, m6, k6, rfl⟩ := is_slice ho6
          have HO := Lib.hid ho7
          have HB := Lib.hid hb7
          clear ho6 hb6 ho7 hb7
          go_wp2_with fail
          go_ret
          exact ⟨_, rfl, HO.out, HB.out⟩
    · obtain ⟨j, hj⟩ : ∃ j, k = j + 1 := ⟨k - 1, by omega⟩
      have e1 : (k : Int) - 1 = (j : Int) := by omega
      have hc := H1.out.cell (j := j) (by omega)
      have e2 : (j : Int) < 16 := by omega
      have e3 : (0 : Int) ≤ (j : Int) := by omega
      have i8 : decide (0 < (k : Int)) = true := decide_eq_true (by omega)
      by_cases hz : a.getD j 0 = 0
      · have HV2 : Hid (vlen a 16 = vlen a j) := by have := HV.out; rw [hj] at this; unfold vlen at this; rw [if_pos hz] at this; exact this
        rw [hz] at hc
        clear hj
        go_wp2_with fail
        exact ⟨⟨j, by omega, by go_num, HV2⟩, by simp [intOf]; omega⟩
      · have HV : Hid (vlen a 16 = k) := by have := HV.out; rw [hj] at this ⊢; unfold vlen at this; rw [if_neg hz] at this; exact this
        obtain ⟨y, hy⟩ : ∃ y, y = a.getD j 0 := ⟨_, rfl⟩
        rw [← hy] at hc hz
        have i9 : ((y : Int) == 0) = false := by rw [beq_eq_false_iff_ne]; omega
        clear hy hj
        have Q1 := Lib.hid (new_any w2)
        go_wp2_with fail
        refine Q1.out.mono ?_
        rintro e w3 ⟨rfl, hw3, hb3⟩
        have hgl := H1.out.lt
        have hw2 := H1.out
        generalize hB : w2.heap.size = B at hw3 hb3 hgl ⊢
        have hv3 : VecAt w3 w.heap.size a := ⟨hw2.vec, by rw [hb3.block _ hgl]; exact hw2.row⟩
        have q2 := num_any B B _ [] k w3 hw3 (by omega) (by have := (enc_length k).2; simp; omega)
        have Q2 := Lib.hid q2
        have HB3 := Lib.hid hb3
        have HGL := Lib.hid hgl
        have HBB := Lib.hid hB
        clear hw2 hw3 hb3 q2 hB hgl Q1
        go_wp2_with fail
        refine Q2.out.mono ?_
        rintro e w4 ⟨rfl, ⟨v4, h4⟩, hb4⟩
        rw [show [] ++ enc k = cat (k :: a.take 0) by simp [cat]] at h4
        have H4 := Lib.hid h4
        have HB4 := Lib.hid (HB3.out.trans hb4)
        have i5 : (0 : Int) ≤ (k : Int) := by omega
        have i6 : (k : Int) ≤ 16 := by omega
        clear h4 hb4 Q2 HB3 hv3
        go_wp2_with fail
        go_loopw [28] (fun i wr => ∃ j : Nat, j ≤ k ∧ i = .int .i64 (j : Int) ∧ Hid (∃ v', WrAt wr B B v' (cat (k :: a.take j))) ∧ Hid (Below B w2 wr)) (fun i _ => k - (intOf i).toNat)
        case atStart => exact ⟨0, Nat.zero_le _, rfl, ⟨_, H4.out⟩, HB4⟩
        case round =>
          obtain ⟨j, hj, rfl, HW, HBL⟩ := hrel
          by_cases hlt : j < k
          · have hv : VecAt wr w.heap.size a := ⟨HA.out, by rw [HBL.out.block _ HGL.out]; exact H1.out.row⟩
            have hc := hv.cell (j := j) (by omega)
            have b1 := HA.out.at_ j
            have hsn := cat_snoc k (a := a) (k := j) (by rw [HA.out.len]; omega)
            obtain ⟨v5, h5⟩ := HW.out
            have hcl := cat_length (k :: a.take j)
            rw [List.length_cons, List.length_take] at hcl
            obtain ⟨x, hx⟩ : ∃ x, x = a.getD j 0 := ⟨_, rfl⟩
            rw [← hx] at hc b1 hsn
            have q := num_any B B v5 _ x wr h5 (by omega) (by have := (enc_length x).2; omega)
            rw [← hsn] at q
            have Q := Lib.hid q
            have i0 : (0 : Int) ≤ (j : Int) := by omega
            have i1 : (j : Int) < (k : Int) := by omega
            have wx : IntKind.u64.wrap (x : Int) = (x : Int) := by rw [IntKind.wrap_u64]; omega
            clear hv hsn h5 hcl hx q HW
            go_wp2_with fail
            refine Q.out.mono ?_
            rintro e w5 ⟨rfl, h6, hb6⟩
            have H6 := Lib.hid h6
            have HB6 := Lib.hid (HBL.out.trans hb6)
            clear h6 hb6
            go_wp2_with fail
            go_roundw
            case rel => exact ⟨j + 1, by omega, by go_num, H6, HB6⟩
            case measure => simp [intOf]; omega
          · have hjk : j = k := by omega
            subst hjk
            obtain ⟨v5, h5⟩ := HW.out
            rw [← HV.out, show cat (vlen a 16 :: a.take (vlen a 16)) = encV a from rfl] at h5
            have hel := encV_length a
            have q := all_any B B v5 _ wr h5 (by omega)
            have Q := Lib.hid q
            clear h5 hel q HW
            go_wp2_with fail
            refine Q.out.mono ?_
            rintro e w6 ⟨v6, rfl, ho6, hb6⟩
            have hbl := H0.out.trans (HBL.out.mono (Nat.le_of_lt HGL.out))
            have hb7 := hbl.trans (hb6.mono hbl.size)
            have ho7 : OwnB w6 w.heap.size v6 (encV a) := ⟨own_base ho6.row hbl.size, ho6.small⟩
            clear hbl
            obtain ⟨A6, m6, k6, rfl⟩ := is_slice ho6
            have HO := Lib.hid ho7
            have HB := Lib.hid hb7
            clear ho6 hb6 ho7 hb7
            go_wp2_with fail
            go_ret
            exact ⟨_, rfl, HO.out, HB.out⟩
end Go.Proofs.YtgogbpkcceadbaaGreatDoor.Vc
