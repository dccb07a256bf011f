/-
  The statements of layer 1 over the model: the walks of the laws' own functions.
-/
import Derived.Test.YthadicpjhmjkcaaDoorCrcWalk
import Derived.Lib.SlBytesConst
import Derived.Deep.QuietTactic
import Derived.BigQuiet
import Derived.Deep.RegionHeld3
namespace Go.Proofs.YthadicpjhmjkcaaDoor.CrcL
open Go.RowKit Go.Proofs.YthadicpjhmjkcaaDoor.Wd Go.Proofs.YthadicpjhmjkcaaDoor.CrcP Go.Proofs.YthadicpjhmjkcaaDoor.CrcW
set_option linter.unusedVariables false

theorem alive_sum : sum [49, 50, 51, 52, 53, 54, 55, 56, 57] = 3421780262 := by decide +kernel
set_option maxHeartbeats 400000 in
theorem alive_any (w : World) (ht : Tab w) :
    Calls Tryd.prog 8 #[] w fun e w' => e = .returned (.bool true) ∧ Below w.heap.size w w' := by
  have kc := fun (w : World) (C : Array Value) (n c : Nat) => Lib.run_convert_bytes_const (P := Tryd.prog) w 23 5 C n c Tryd.underlying23 Tryd.underlying5
  have HT := Lib.hid ht
  clear ht
  go_enter Tryd.func8, Tryd.ntmps8
  go_wp2_with fail
  have hb : Below w.heap.size w (w.alloc (.cells (byteVals [49, 50, 51, 52, 53, 54, 55, 56, 57]) 5 (9, 10))) := (Below.refl _ _).alloc (Nat.le_refl _) _
  have h1 := sum_any 9 9 _ _ _ (RdB.new w 5 (9, 10) [49, 50, 51, 52, 53, 54, 55, 56, 57] (by decide) (by decide)) (HT.out.below hb)
  rw [alive_sum] at h1
  refine h1.mono ?_
  rintro e w' ⟨rfl, rfl⟩
  have HB := Lib.hid hb
  clear hb h1
  go_wp2_with fail
  refine (sum_any 0 0 none [] _ (RdB.nil_ _) (HT.out.below HB.out)).mono ?_
  rintro e w' ⟨rfl, rfl⟩
  go_wp2
  go_ret
  exact ⟨rfl, HB.out⟩

set_option maxHeartbeats 400000 in
theorem crcSums_any (w : World) (s : Nat) (hs : s < 4294967296) (n cap : Nat) (A : Option Addr) (xs : List Nat) (_hc : n ≤ cap) (hx : RdB w A n xs) (ht : Tab w) :
    Calls Tryd.prog 3 #[.int .u32 (s : Int), .slice A n cap] w fun e w' => e = .returned (.bool true) ∧ Below w.heap.size w w' := by
  have hfit := hx.fits
  have HX := Lib.hid hx
  have HT := Lib.hid ht
  clear hx ht
  go_enter Tryd.func3, Tryd.ntmps3
  go_wp2_with fail
  refine (alive_any w HT.out).mono ?_
  rintro e w1 ⟨rfl, hb⟩
  have HB := Lib.hid hb
  clear hb
  by_cases hn : 2000 < n
  · go_wp2_with fail
    go_ret
    exact ⟨rfl, HB.out⟩
  · go_wp2_with fail
    have hx1 := HX.out.below HB.out
    have ht1 := HT.out.below HB.out
    have HX1 := Lib.hid hx1
    have HT1 := Lib.hid ht1
    clear hx1 ht1
    refine (sum_any n cap A xs _ HX1.out HT1.out).mono ?_
    rintro e w' ⟨rfl, rfl⟩
    go_wp2_with fail
    refine (sumR_any n cap A xs _ HX1.out).mono ?_
    rintro e w' ⟨rfl, rfl⟩
    go_wp2_with fail
    refine (next_any s n cap A xs _ hs HX1.out HT1.out).mono ?_
    rintro e w' ⟨rfl, rfl⟩
    go_wp2_with fail
    refine (nextR_any s n cap A xs _ hs HX1.out).mono ?_
    rintro e w' ⟨rfl, rfl⟩
    go_wp2_with fail
    go_ret
    exact ⟨rfl, HB.out⟩

/-- A callee that leaves the world alone, met inside a region that draws. -/
theorem quiet_left {P : Program} {f : FuncId} {args : Array Value} {w : World} {n : Nat} {v : Value}
    (h : Calls P f args (w.drewN n) fun e w' => e = .returned v ∧ w.drewN n = w') : Calls P f args (w.drewN n) fun e w'' => e = .returned v ∧ ∃ m, w'' = w.drewN m :=
  h.mono fun _ _ ⟨he, hm⟩ => ⟨he, n, hm.symm⟩

/-- The four calls of the law's last statement, each met inside the region. -/
theorem pieces_quiet (w : World) (n cap : Nat) (A : Option Addr) (xs : List Nat) (hc : n ≤ cap) (hx : RdB w A n xs) (ht : Tab w) (k : Nat) (hk : k ≤ n) : ∃ S0 S : Nat, (k = n → S0 = S) ∧
    (∀ m, Calls Tryd.prog 9 #[.slice A k cap] (w.drewN m) fun e w'' => e = .returned (.int .u32 (S0 : Int)) ∧ ∃ j, w'' = w.drewN j) ∧
    (∀ m, Calls Tryd.prog 11 #[.int .u32 (S0 : Int), .slice (if cap = k then A else A.map (·.add k)) (n - k) (cap - k)] (w.drewN m) fun e w'' => e = .returned (.int .u32 (S : Int)) ∧ ∃ j, w'' = w.drewN j) ∧
    (∀ m, Calls Tryd.prog 9 #[.slice A n cap] (w.drewN m) fun e w'' => e = .returned (.int .u32 (S : Int)) ∧ ∃ j, w'' = w.drewN j) ∧
    (∀ m, Calls Tryd.prog 11 #[.int .u32 0, .slice A n cap] (w.drewN m) fun e w'' => e = .returned (.int .u32 (S : Int)) ∧ ∃ j, w'' = w.drewN j) := by
  refine ⟨sum (xs.take k), sum xs, fun e => by rw [e, ← hx.len, List.take_length], fun m => ?_, fun m => ?_, fun m => ?_, fun m => ?_⟩
  · exact quiet_left (sum_any k cap A _ _ ((hx.take hk).drewN m) (ht.drewN m))
  · have h := next_any (sum (xs.take k)) (n - k) (cap - k) _ _ _ next_lt ((hx.drop hk hc).drewN m) (ht.drewN m)
    rw [pieces (fun x h => hx.small x (List.mem_of_mem_take h)), List.take_append_drop] at h
    exact quiet_left h
  · exact quiet_left (sum_any n cap A xs _ (hx.drewN m) (ht.drewN m))
  · exact quiet_left (next_any 0 n cap A xs _ (by decide) (hx.drewN m) (ht.drewN m))

set_option maxHeartbeats 400000 in
theorem crcPieces_any (w : World) (n cap : Nat) (A : Option Addr) (xs : List Nat) (hc : n ≤ cap) (hx : RdB w A n xs) (s : Nat) (hs : s < 65536) (ht : Tab w) :
    Calls Tryd.prog 4 #[.slice A n cap, .int .u16 (s : Int)] w fun e w' => e = .returned (.bool true) ∧ Below w.heap.size w w' := by
  have hfit := hx.fits
  have HX := Lib.hid hx
  have HT := Lib.hid ht
  clear hx ht
  go_enter Tryd.func4, Tryd.ntmps4
  go_wp2_with fail
  refine (alive_any w HT.out).mono ?_
  rintro e w1 ⟨rfl, hb⟩
  have HB := Lib.hid hb
  clear hb
  by_cases hn : 2000 < n
  · go_wp2_with fail
    go_ret
    exact ⟨rfl, HB.out⟩
  · have hx1 := HX.out.below HB.out
    have ht1 := HT.out.below HB.out
    have HX1 := Lib.hid hx1
    have HT1 := Lib.hid ht1
    clear hx1 ht1
    have HR := Lib.hid (pieces_quiet w1 n cap A xs hc HX1.out HT1.out)
    by_cases hsn : s ≤ n
    · obtain ⟨S0, S, _, q1, q2, q3, q4⟩ := HR.out s hsn
      have Q1 := Lib.hid q1
      have Q2 := Lib.hid q2
      have Q3 := Lib.hid q3
      have Q4 := Lib.hid q4
      clear q1 q2 q3 q4
      go_wp2_with fail
      go_quiet (first | with_reducible exact Q1.out _ | with_reducible exact Q2.out _ | with_reducible exact Q3.out _ | with_reducible exact Q4.out _)
      go_wp2
      all_goals
        go_ret
        exact ⟨rfl, drewN_below HB.out _⟩
    · obtain ⟨S0, S, q0, q1, q2, q3, q4⟩ := HR.out n (Nat.le_refl _)
      obtain rfl := q0 rfl
      clear q0
      simp only [Nat.sub_self] at q2
      have Q1 := Lib.hid q1
      have Q2 := Lib.hid q2
      have Q3 := Lib.hid q3
      have Q4 := Lib.hid q4
      clear q1 q2 q3 q4
      go_wp2_with fail
      go_quiet (first | with_reducible exact Q1.out _ | with_reducible exact Q2.out _ | with_reducible exact Q3.out _ | with_reducible exact Q4.out _)
      go_wp2
      all_goals
        go_ret
        exact ⟨rfl, drewN_below HB.out _⟩

/-- The bytes that the law's loop makes of its arguments'. -/
theorem xor8 {a b : Nat} (ha : a < 256) (hb : b < 256) : bits .xor .u8 (a : Int) (b : Int) = ((a ^^^ b : Nat) : Int) := u8_xor_nat a b ha hb
theorem xors_take_snoc {xs ys : List Nat} (h : xs.length = ys.length) {k : Nat} (hk : k < xs.length) :
    (xors xs ys).take (k + 1) = (xors xs ys).take k ++ [xs.getD k 0 ^^^ ys.getD k 0] := by
  rw [take_snoc (by rw [xors_length _ _ h]; exact hk), xors_getD _ _ _ h]

/-- The calls of the law's last statement. -/
theorem differ_calls (w : World) (n cap cap' c5 : Nat) (A A' A5 : Option Addr) (xs ys : List Nat) (hx : RdB w A n xs) (hy : RdB w A' n ys) (hz : RdB w A5 n (xors xs ys)) (ht : Tab w)
    (hl : xs.length = ys.length) : ∃ S1 S2 S3 S4 Z : Nat,
    (∀ W, Below w.heap.size w W → Calls Tryd.prog 9 #[.slice A n cap] W fun e w' => e = .returned (.int .u32 (S1 : Int)) ∧ W = w') ∧
    (∀ W, Below w.heap.size w W → Calls Tryd.prog 9 #[.slice A' n cap'] W fun e w' => e = .returned (.int .u32 (S2 : Int)) ∧ W = w') ∧
    (∀ W, Below w.heap.size w W → Calls Tryd.prog 9 #[.slice A5 n c5] W fun e w' => e = .returned (.int .u32 (S3 : Int)) ∧ W = w') ∧
    (Calls Tryd.prog 9 #[.slice (some ⟨w.heap.size, 0, none⟩) n n] (w.alloc (.cells (byteVals (List.replicate n 0)) 5)).drew fun e w' => e = .returned (.int .u32 (S4 : Int)) ∧ (w.alloc (.cells (byteVals (List.replicate n 0)) 5)).drew = w') ∧
    bits .xor .u32 (S1 : Int) (S2 : Int) = (Z : Int) ∧ bits .xor .u32 (S3 : Int) (S4 : Int) = (Z : Int) := by
  have hn := hx.len
  refine ⟨sum xs, sum ys, sum (xors xs ys), sum (zeros n), sum xs ^^^ sum ys, fun W hW => ?_, fun W hW => ?_, fun W hW => ?_, ?_, ?_, ?_⟩
  · exact sum_any n cap A xs W (hx.below hW) (ht.below hW)
  · exact sum_any n cap' A' ys W (hy.below hW) (ht.below hW)
  · exact sum_any n c5 A5 _ W (hz.below hW) (ht.below hW)
  · have h := RdB.new w 5 (0, 0) (zeros n) (zeros_lt n) (by simp [zeros]; exact hx.fits)
    rw [show (zeros n).length = n by simp [zeros]] at h
    exact sum_any n n _ _ _ h.drew (ht.below ((Below.refl _ _).alloc (Nat.le_refl _) _).drew)
  · exact u32_xor_nat _ _ next_lt next_lt
  · rw [CrcP.differ hx.small hy.small hl, hn]
    exact u32_xor_nat _ _ next_lt next_lt

set_option maxHeartbeats 1000000 in
theorem crcDiffer_any (w : World) (n cap : Nat) (A : Option Addr) (xs : List Nat) (hc : n ≤ cap) (hx : RdB w A n xs) (n' cap' : Nat) (A' : Option Addr) (ys : List Nat) (hc' : n' ≤ cap') (hy : RdB w A' n' ys) (ht : Tab w) :
    Calls Tryd.prog 7 #[.slice A n cap, .slice A' n' cap'] w fun e w' => e = .returned (.bool true) ∧ Below w.heap.size w w' := by
  have hfit := hx.fits
  have hfit' := hy.fits
  have HX := Lib.hid hx
  have HY := Lib.hid hy
  have HT := Lib.hid ht
  clear hx hy ht
  by_cases hn : 2000 < n
  · go_enter Tryd.func7, Tryd.ntmps7
    go_wp2_with fail
    refine (alive_any w HT.out).mono ?_
    rintro e w1 ⟨rfl, hb⟩
    have HB := Lib.hid hb
    clear hb
    go_wp2_with fail
    go_ret
    exact ⟨rfl, HB.out⟩
  · by_cases hne : n = n'
    · subst hne
      go_enter Tryd.func7, Tryd.ntmps7
      go_wp2_with fail
      refine (alive_any w HT.out).mono ?_
      rintro e w1 ⟨rfl, hb⟩
      have HB := Lib.hid hb
      clear hb
      go_wp2_with fail
      have hx1 := HX.out.below HB.out
      have hy1 := HY.out.below HB.out
      have hlen : xs.length = ys.length := by rw [hx1.len, hy1.len]
      have HL := Lib.hid hlen
      have HX1 := Lib.hid hx1
      have HY1 := Lib.hid hy1
      clear hx1 hy1 hlen
      go_loopw [5, 21] (fun d i wr => ∃ k : Nat, k ≤ n ∧ i = .int .i64 k ∧ Hid (OwnB wr w1.heap.size d ((xors xs ys).take k)) ∧ Hid (Below w1.heap.size w1 wr)) (fun _ i _ => n - (intOf i).toNat)
      case atStart => exact ⟨0, Nat.zero_le _, rfl, OwnB.nil_ _ _, Below.refl _ _⟩
      case round =>
        obtain ⟨k, hk, rfl, HO, HW⟩ := hrel
        by_cases hlt : k < n
        · obtain ⟨ad, hA, hc1, hb1⟩ := HX1.out.at_ hlt
          obtain ⟨ad', hA', hc2, hb2⟩ := HY1.out.at_ hlt
          subst hA
          subst hA'
          obtain ⟨c, hcc⟩ : ∃ c, c = xs.getD k 0 := ⟨_, rfl⟩
          obtain ⟨d, hdd⟩ : ∃ d, d = ys.getD k 0 := ⟨_, rfl⟩
          rw [← hcc] at hc1 hb1
          rw [← hdd] at hc2 hb2
          have l1 := World.block_lt_of_cell? _ _ hc1
          have l2 := World.block_lt_of_cell? _ _ hc2
          rw [← HW.out.cell l1] at hc1
          rw [← HW.out.cell l2] at hc2
          obtain ⟨z, hz⟩ : ∃ z, z = c ^^^ d := ⟨_, rfl⟩
          have hzl : z < 256 := by rw [hz]; exact Nat.xor_lt_two_pow (n := 8) hb1 hb2
          have hx8 := xor8 hb1 hb2
          rw [← hz] at hx8
          have HZ := Lib.hid (show z = xs.getD k 0 ^^^ ys.getD k 0 by rw [hz, hcc, hdd])
          clear hcc hdd hz
          have i0 : (0 : Int) ≤ (k : Int) := Int.natCast_nonneg _
          have i1 : (k : Int) < (n : Int) := by omega
          have hsz := HW.out.size
          have hlk : ((xors xs ys).take k).length = k := by rw [List.length_take, xors_length _ _ HL.out, HX.out.len]; omega
          have HLK := Lib.hid hlk
          clear hlk
          have m1 : (ad.add k).block < wr.heap.size := by omega
          have m2 : (ad'.add k).block < wr.heap.size := by omega
          have n1 := HO.out.ne l1
          have n2 := HO.out.ne l2
          go_wp2_with fail
          go_region_held3 (fun w' => w'.cell? (ad.add k) = some (.int .u8 (c : Int)) ∧ w'.cell? (ad'.add k) = some (.int .u8 (d : Int)))
            (first
              | go_keep
              | (go_split_ands
                 refine ⟨?_, ?_⟩
                 · (rw [hg2.cell_far _ (by simp; omega) (Ne.symm n1)]; assumption)
                 · (rw [hg2.cell_far _ (by simp; omega) (Ne.symm n2)]; assumption)))
            ((refine app_step w1.heap.size (by rfl) _ _ (by rfl) (by rfl) (by rfl) ((HO.out.alloc _).drew) (RdB.one _ _ _ hzl).drew (by rw [HLK.out]; omega) (by simp; omega) ?_; intro v2 w2 ho2 hg2 ha2))
          have hbw : Below w1.heap.size w1 w2 := (HO.out.alloc _).drew.to_below (HW.out.alloc hsz _).drew (by simp; omega) hg2
          have HB2 := Lib.hid hbw
          have HO2 := Lib.hid ho2
          clear hbw ho2 hg2 ha2 hc1 hc2
          go_wp2
          go_roundw
          case rel => exact ⟨k + 1, by omega, by go_num, by unfold Hid; rw [xors_take_snoc HL.out (by rw [HX.out.len]; exact hlt), ← HZ.out]; exact HO2.out, HB2.out⟩
          case measure => simp [intOf]; omega
        · have hkn : k = n := by omega
          have ho2 : OwnB wr w1.heap.size u5 (xors xs ys) := by
            have h := HO.out
            rwa [List.take_of_length_le (by rw [xors_length _ _ HL.out, HX.out.len]; omega)] at h
          obtain ⟨A5, c5, hv5, hc5, h5⟩ := ho2.rd
          rw [xors_length _ _ HL.out, HX.out.len] at h5 hc5 hv5
          subst hv5
          have HK := Lib.hid hkn
          have HQ := Lib.hid (differ_calls wr n cap cap' c5 A A' A5 xs ys (HX1.out.below HW.out) (HY1.out.below HW.out) h5 ((HT.out.below HB.out).below HW.out) HL.out)
          obtain ⟨S1, S2, S3, S4, Z, q1, q2, q3, q4, z1, z2⟩ := HQ.out
          have Q1 := Lib.hid q1
          have Q2 := Lib.hid q2
          have Q3 := Lib.hid q3
          have Q4 := Lib.hid q4
          have hmk := make8 n (by omega)
          have hbe : Below w.heap.size w wr := HB.out.trans (HW.out.mono HB.out.size)
          have HBE := Lib.hid hbe
          clear q1 q2 q3 q4 hbe hkn h5 hc5 ho2 HQ
          go_wp2_with fail
          go_region_held3 (fun w' => Below wr.heap.size wr w') (first | assumption | exact (Below.refl _ _).drew | exact Below.alloc (by assumption) (Below.size (by assumption)) _)
            (first
              | (go_at_call 9; with_reducible refine (Q1.out _ (by assumption)).mono ?_; rintro e w' ⟨rfl, rfl⟩)
              | (go_at_call 9; with_reducible refine (Q2.out _ (by assumption)).mono ?_; rintro e w' ⟨rfl, rfl⟩)
              | (go_at_call 9; with_reducible refine (Q3.out _ (by assumption)).mono ?_; rintro e w' ⟨rfl, rfl⟩)
              | (go_at_call 9; with_reducible refine Q4.out.mono ?_; rintro e w' ⟨rfl, rfl⟩))
          all_goals
            go_wp2
            go_ret
            refine ⟨rfl, ?_⟩
            repeat (first | exact HBE.out | apply Below.drew | apply drewN_below | refine Below.alloc ?_ (Below.size (by first | exact HBE.out | exact HBE.out.drew)) _)
    · have hne1 : ((n : Int) != (n' : Int)) = true := by rw [bne_iff_ne]; omega
      go_enter Tryd.func7, Tryd.ntmps7
      go_wp2_with fail
      refine (alive_any w HT.out).mono ?_
      rintro e w1 ⟨rfl, hb⟩
      have HB := Lib.hid hb
      clear hb
      go_wp2_with fail
      all_goals
        go_ret
        exact ⟨rfl, HB.out⟩
end Go.Proofs.YthadicpjhmjkcaaDoor.CrcL
