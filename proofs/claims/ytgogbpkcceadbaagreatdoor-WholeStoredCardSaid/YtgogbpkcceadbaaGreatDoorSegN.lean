/-
  segment.number, segment.operation.
-/
import Derived.Test.YtgogbpkcceadbaaGreatDoorSegM
namespace Go.Proofs.YtgogbpkcceadbaaGreatDoor.Sg
open Go.RowKit Go.Proofs.YtgogbpkcceadbaaGreatDoor.Wd Go.Proofs.YtgogbpkcceadbaaGreatDoor.VintP Go.Proofs.YtgogbpkcceadbaaGreatDoor.VintW Go.Proofs.YtgogbpkcceadbaaGreatDoor.Pk Go.Proofs.YtgogbpkcceadbaaGreatDoor.Vc Go.Proofs.YtgogbpkcceadbaaGreatDoor.CrcW Go.Proofs.YtgogbpkcceadbaaGreatDoor.FrameP Go.Proofs.YtgogbpkcceadbaaGreatDoor.FrameW
set_option linter.unusedVariables false
attribute [local go_sem ↓] ldKx stKx

set_option maxHeartbeats 2000000 in
set_option maxRecDepth 100000 in
theorem number_ok (kind n m c : Nat) (A : Option Addr) (w : World) (hx : RdB w A m (enc kind ++ enc n)) (hm : m ≤ 65536) (hk : kind ≤ 100) (hn : n ≤ 18446744073709551615) :
    Calls Tryz.prog 28 #[.slice A m c, .int .u64 (kind : Int)] w fun e w' => e = .returned (.tuple #[.int .u64 (n : Int), .bool true]) ∧ Below w.heap.size w w' := by
  have Q1 := Lib.hid (read_any m c A _ w hx hm)
  clear hx hm
  go_enter Tryz.func28, Tryz.ntmps28
  go_wp2_with fail
  refine Q1.out.mono ?_
  rintro e w1 ⟨g, A1, c1, rfl, hg, hr1, hb1⟩
  have Q2 := Lib.hid (rnum_ok g c1 A1 kind (enc n) w1 hr1 (by omega))
  have HB1 := Lib.hid hb1
  have HG := Lib.hid hg
  clear hr1 hb1 hg Q1
  go_wp2_with fail
  refine Q2.out.mono ?_
  rintro e w2 ⟨rfl, ⟨A2, c2, hr2⟩, hg2⟩
  have hb2 := HB1.out.grown hg2 HB1.out.size (fun k hk => by injection hk with hk; have := HG.out; omega)
  have Q3 := Lib.hid (rnum_ok g c2 A2 n [] w2 (by rw [List.append_nil]; exact hr2) hn)
  have HB2 := Lib.hid hb2
  clear hr2 hg2 hb2 Q2
  go_wp2_with fail
  refine Q3.out.mono ?_
  rintro e w3 ⟨rfl, ⟨A3, c3, hr3⟩, hg3⟩
  have hb3 := HB2.out.grown hg3 HB2.out.size (fun k hk => by injection hk with hk; have := HG.out; omega)
  have q := done_ok g c3 A3 [] w3 hr3
  rw [show decide (([] : List Nat).length = 0) = true from rfl] at q
  have Q4 := Lib.hid q
  have HB3 := Lib.hid hb3
  clear q hr3 hg3 hb3 Q3
  go_wp2_with fail
  refine Q4.out.mono ?_
  rintro e w4 ⟨rfl, rfl⟩
  go_wp2_with fail
  go_ret2
  exact ⟨rfl, HB3.out⟩
theorem store_opN (W : World) (o : O) (ho : OkO o) : (stK 34 ⟨W.heap.size, 0, none⟩ (.agg (opA o).toArray)).run Tryz.prog (W.alloc (.cells #[.int .u8 0, .int .u32 0, .int .u8 0, .int .u16 0, .int .u16 0, .int .u16 0, .int .u32 0, .int .u32 0, .int .u32 0, .int .u32 0, .int .u32 0, .int .u32 0, .int .u32 0, .int .u32 0, .int .u32 0, .int .u32 0, .int .u32 0, .int .u32 0, .int .u32 0, .int .u32 0, .int .u32 0, .int .u32 0, .int .u32 0] 34)) = .ok () (W.alloc (.cells (opA o).toArray 34)) := by
  rw [stK, run_storeVar_row _ W.heap.size 34 34 #[.int .u8 0, .int .u32 0, .int .u8 0, .int .u16 0, .int .u16 0, .int .u16 0, .int .u32 0, .int .u32 0, .int .u32 0, .int .u32 0, .int .u32 0, .int .u32 0, .int .u32 0, .int .u32 0, .int .u32 0, .int .u32 0, .int .u32 0, .int .u32 0, .int .u32 0, .int .u32 0, .int .u32 0, .int .u32 0, .int .u32 0] (opA o).toArray (heap_alloc_new W _) (by rw [List.size_toArray, opA_length ho]; kernel_rfl) (by rw [show (opA o).toArray.size = 23 by rw [List.size_toArray, opA_length ho]]; rfl) (by simp [opA, Value.oneCell']), setCells_alloc_new]
set_option maxHeartbeats 2000000 in
set_option maxRecDepth 100000 in
theorem operation_ok (o : O) (ho : OkO o) (hr : RightO o) (m c : Nat) (A : Option Addr) (w : World) (hx : RdB w A m (enc 2 ++ (enc (encOp o).length ++ encOp o))) (hm : m ≤ 65536) :
    Calls Tryz.prog 29 #[.slice A m c] w fun e w' => e = .returned (.tuple #[.agg (opA o).toArray, .bool true]) ∧ Below w.heap.size w w' := by
  have hz : OpAt (w.alloc (.cells #[.int .u8 0, .int .u32 0, .int .u8 0, .int .u16 0, .int .u16 0, .int .u16 0, .int .u32 0, .int .u32 0, .int .u32 0, .int .u32 0, .int .u32 0, .int .u32 0, .int .u32 0, .int .u32 0, .int .u32 0, .int .u32 0, .int .u32 0, .int .u32 0, .int .u32 0, .int .u32 0, .int .u32 0, .int .u32 0, .int .u32 0] 34)) w.heap.size zeroO := ⟨okZeroO, heap_alloc_new w _⟩
  have hb : Below w.heap.size w (w.alloc (.cells #[.int .u8 0, .int .u32 0, .int .u8 0, .int .u16 0, .int .u16 0, .int .u16 0, .int .u32 0, .int .u32 0, .int .u32 0, .int .u32 0, .int .u32 0, .int .u32 0, .int .u32 0, .int .u32 0, .int .u32 0, .int .u32 0, .int .u32 0, .int .u32 0, .int .u32 0, .int .u32 0, .int .u32 0, .int .u32 0, .int .u32 0] 34)) := (Below.refl _ _).alloc (Nat.le_refl _) _
  have HZ := Lib.hid hz
  have HB := Lib.hid hb
  have Q1 := Lib.hid (read_any m c A _ _ (hx.below hb) hm)
  have HO := Lib.hid ho
  have HRT := Lib.hid hr
  clear hx hm hz hb ho hr
  go_enter Tryz.func29, Tryz.ntmps29
  go_wp2_with fail
  generalize w.alloc (.cells #[.int .u8 0, .int .u32 0, .int .u8 0, .int .u16 0, .int .u16 0, .int .u16 0, .int .u32 0, .int .u32 0, .int .u32 0, .int .u32 0, .int .u32 0, .int .u32 0, .int .u32 0, .int .u32 0, .int .u32 0, .int .u32 0, .int .u32 0, .int .u32 0, .int .u32 0, .int .u32 0, .int .u32 0, .int .u32 0, .int .u32 0] 34) = w0 at *
  refine Q1.out.mono ?_
  rintro e w1 ⟨g, A1, c1, rfl, hg, hr1, hb1⟩
  have h0 := HZ.out.lt
  have HG := Lib.hid (show w.heap.size < g by omega)
  have Q2 := Lib.hid (rnum_ok g c1 A1 2 _ w1 hr1 (by omega))
  have HB1 := Lib.hid (HB.out.trans (hb1.mono HB.out.size))
  have HZ1 := Lib.hid (HZ.out.below hb1)
  clear hr1 hb1 hg h0 Q1 HB HZ
  go_wp2_with fail
  refine Q2.out.mono ?_
  rintro e w2 ⟨rfl, ⟨A2, c2, hr2⟩, hg2⟩
  have HB2 := Lib.hid (HB1.out.grown hg2 HB1.out.size (fun k hk => by injection hk with hk; have := HG.out; omega))
  have HZ2 := Lib.hid (HZ1.out.kept hg2 (fun e => by injection e with e; have := HG.out; omega))
  have Q3 := Lib.hid (rbytes_ok g c2 A2 (encOp o) [] w2 (by rw [List.append_nil]; exact hr2) (by have := encOp_length o; omega))
  clear hr2 hg2 Q2 HB1 HZ1
  go_wp2_with fail
  refine Q3.out.mono ?_
  rintro e w3 ⟨⟨v3, rfl, ho3⟩, ⟨A3, c3, hr3⟩, hg3⟩
  have HB3 := Lib.hid (HB2.out.grown hg3 HB2.out.size (fun k hk => by injection hk with hk; have := HG.out; omega))
  have HZ3 := Lib.hid (HZ2.out.kept hg3 (fun e => by injection e with e; have := HG.out; omega))
  have q := done_ok g c3 A3 [] w3 hr3
  rw [show decide (([] : List Nat).length = 0) = true from rfl] at q
  obtain ⟨A4, k4, rfl, hk4, hrd4⟩ := ho3.rd
  have q5 := decode_any o HO.out HRT.out (encOp o).length k4 A4 w3 hrd4 (by have := encOp_length o; omega)
  generalize (encOp o).length = L at *
  have Q4 := Lib.hid q
  have Q5 := Lib.hid q5
  clear q q5 ho3 hr3 hg3 hrd4 Q3 HB2 HZ2
  go_wp2_with fail
  refine Q4.out.mono ?_
  rintro e w4 ⟨rfl, rfl⟩
  go_wp2_with fail
  refine Q5.out.mono ?_
  rintro e w5 ⟨rfl, hb5⟩
  have hz5 := HZ3.out.below hb5
  have sn := store_opN w5 o HO.out
  have hb6 : Below w5.heap.size w5 (w5.alloc (.cells (opA o).toArray 34)) := (Below.refl _ _).alloc (Nat.le_refl _) _
  have ln := (OpAt.new w5 HO.out).loads
  have hz6 := hz5.below hb6
  have hb7 := (HB3.out.trans (hb5.mono HB3.out.size)).trans (hb6.mono (Nat.le_trans HB3.out.size hb5.size))
  have sr3 : (stK 34 ⟨w.heap.size, 0, none⟩ (.agg (opA o).toArray)).run Tryz.prog (w5.alloc (.cells (opA o).toArray 34)) = .ok () ((w5.alloc (.cells (opA o).toArray 34)).setRow w.heap.size (opA o).toArray) :=
    run_storeVar_row _ w.heap.size 34 34 _ _ hz6.row (by rw [List.size_toArray, opA_length HO.out]; kernel_rfl) (by rw [List.size_toArray, List.size_toArray, opA_length HO.out, opA_length okZeroO]) (by simp [opA, Value.oneCell'])
  have HROW := Lib.hid (show ((w5.alloc (.cells (opA o).toArray 34)).setRow w.heap.size (opA o).toArray).heap[w.heap.size]? = some (.cells (opA o).toArray 34 (0, 0)) from setRow_heap _ _ _ _ _ _ hz6.row)
  have HBF := Lib.hid (show Below w.heap.size w ((w5.alloc (.cells (opA o).toArray 34)).setRow w.heap.size (opA o).toArray) from hb7.grown (row := some w.heap.size) ⟨rfl, rfl, rfl, by simp [World.setRow], fun j _ hne => setRow_other _ _ j _ (fun e => hne (by rw [e]))⟩ hb7.size (fun j hj => by injection hj with hj; omega))
  have HLN := Lib.hid (opA_length HO.out)
  clear hz5 hb6 hz6 hb7 hb5
  go_wp2_with fail
  refine bodyPost_ret (v := .tuple #[.agg (opA o).toArray, .bool true]) ?_ rfl ⟨rfl, HBF.out⟩
  exact results_cell_row2 Tryz.results29 _ _ w.heap.size 34 _ (0, 0) _ _ rfl rfl HROW.out Tryz.underlying34 rfl (by rw [List.size_toArray, HLN.out]; kernel_rfl)
set_option maxHeartbeats 2000000 in
set_option maxRecDepth 100000 in
theorem operation_no (n m c : Nat) (A : Option Addr) (w : World) (hx : RdB w A m (enc 3 ++ enc n)) (hm : m ≤ 65536) (h0 : 0 < n) (hn : n ≤ 18446744073709551615) :
    Calls Tryz.prog 29 #[.slice A m c] w fun e w' => e = .returned (.tuple #[.agg (opA zeroO).toArray, .bool false]) ∧ Below w.heap.size w w' := by
  have hz : OpAt (w.alloc (.cells #[.int .u8 0, .int .u32 0, .int .u8 0, .int .u16 0, .int .u16 0, .int .u16 0, .int .u32 0, .int .u32 0, .int .u32 0, .int .u32 0, .int .u32 0, .int .u32 0, .int .u32 0, .int .u32 0, .int .u32 0, .int .u32 0, .int .u32 0, .int .u32 0, .int .u32 0, .int .u32 0, .int .u32 0, .int .u32 0, .int .u32 0] 34)) w.heap.size zeroO := ⟨okZeroO, heap_alloc_new w _⟩
  have hb : Below w.heap.size w (w.alloc (.cells #[.int .u8 0, .int .u32 0, .int .u8 0, .int .u16 0, .int .u16 0, .int .u16 0, .int .u32 0, .int .u32 0, .int .u32 0, .int .u32 0, .int .u32 0, .int .u32 0, .int .u32 0, .int .u32 0, .int .u32 0, .int .u32 0, .int .u32 0, .int .u32 0, .int .u32 0, .int .u32 0, .int .u32 0, .int .u32 0, .int .u32 0] 34)) := (Below.refl _ _).alloc (Nat.le_refl _) _
  have HZ := Lib.hid hz
  have HB := Lib.hid hb
  have Q1 := Lib.hid (read_any m c A _ _ (hx.below hb) hm)
  clear hx hm hz hb
  go_enter Tryz.func29, Tryz.ntmps29
  go_wp2_with fail
  generalize w.alloc (.cells #[.int .u8 0, .int .u32 0, .int .u8 0, .int .u16 0, .int .u16 0, .int .u16 0, .int .u32 0, .int .u32 0, .int .u32 0, .int .u32 0, .int .u32 0, .int .u32 0, .int .u32 0, .int .u32 0, .int .u32 0, .int .u32 0, .int .u32 0, .int .u32 0, .int .u32 0, .int .u32 0, .int .u32 0, .int .u32 0, .int .u32 0] 34) = w0 at *
  refine Q1.out.mono ?_
  rintro e w1 ⟨g, A1, c1, rfl, hg, hr1, hb1⟩
  have hlt := HZ.out.lt
  have HG := Lib.hid (show w.heap.size < g by omega)
  have Q2 := Lib.hid (rnum_ok g c1 A1 3 _ w1 hr1 (by omega))
  have HB1 := Lib.hid (HB.out.trans (hb1.mono HB.out.size))
  have HZ1 := Lib.hid (HZ.out.below hb1)
  clear hr1 hb1 hg hlt Q1 HB HZ
  go_wp2_with fail
  refine Q2.out.mono ?_
  rintro e w2 ⟨rfl, ⟨A2, c2, hr2⟩, hg2⟩
  have HB2 := Lib.hid (HB1.out.grown hg2 HB1.out.size (fun k hk => by injection hk with hk; have := HG.out; omega))
  have HZ2 := Lib.hid (HZ1.out.kept hg2 (fun e => by injection e with e; have := HG.out; omega))
  have Q3 := Lib.hid (rbytes_short g c2 n A2 w2 hr2 h0 hn)
  clear hr2 hg2 Q2 HB1 HZ1
  go_wp2_with fail
  refine Q3.out.mono ?_
  rintro e w3 ⟨rfl, hg3⟩
  have hb3 := HB2.out.grown hg3 HB2.out.size (fun k hk => by injection hk with hk; have := HG.out; omega)
  have hz3 := HZ2.out.kept hg3 (fun e => by injection e with e; have := HG.out; omega)
  have sr3 : (stK 34 ⟨w.heap.size, 0, none⟩ (.agg #[.int .u8 0, .int .u32 0, .int .u8 0, .int .u16 0, .int .u16 0, .int .u16 0, .int .u32 0, .int .u32 0, .int .u32 0, .int .u32 0, .int .u32 0, .int .u32 0, .int .u32 0, .int .u32 0, .int .u32 0, .int .u32 0, .int .u32 0, .int .u32 0, .int .u32 0, .int .u32 0, .int .u32 0, .int .u32 0, .int .u32 0])).run Tryz.prog w3 = .ok () (w3.setRow w.heap.size #[.int .u8 0, .int .u32 0, .int .u8 0, .int .u16 0, .int .u16 0, .int .u16 0, .int .u32 0, .int .u32 0, .int .u32 0, .int .u32 0, .int .u32 0, .int .u32 0, .int .u32 0, .int .u32 0, .int .u32 0, .int .u32 0, .int .u32 0, .int .u32 0, .int .u32 0, .int .u32 0, .int .u32 0, .int .u32 0, .int .u32 0]) :=
    run_storeVar_row _ w.heap.size 34 34 _ _ hz3.row (by kernel_rfl) rfl (by simp [Value.oneCell'])
  have HROW := Lib.hid (show (w3.setRow w.heap.size #[.int .u8 0, .int .u32 0, .int .u8 0, .int .u16 0, .int .u16 0, .int .u16 0, .int .u32 0, .int .u32 0, .int .u32 0, .int .u32 0, .int .u32 0, .int .u32 0, .int .u32 0, .int .u32 0, .int .u32 0, .int .u32 0, .int .u32 0, .int .u32 0, .int .u32 0, .int .u32 0, .int .u32 0, .int .u32 0, .int .u32 0]).heap[w.heap.size]? = some (.cells (opA zeroO).toArray 34 (0, 0)) from setRow_heap _ _ _ _ _ _ hz3.row)
  have HBF := Lib.hid (show Below w.heap.size w (w3.setRow w.heap.size #[.int .u8 0, .int .u32 0, .int .u8 0, .int .u16 0, .int .u16 0, .int .u16 0, .int .u32 0, .int .u32 0, .int .u32 0, .int .u32 0, .int .u32 0, .int .u32 0, .int .u32 0, .int .u32 0, .int .u32 0, .int .u32 0, .int .u32 0, .int .u32 0, .int .u32 0, .int .u32 0, .int .u32 0, .int .u32 0, .int .u32 0]) from hb3.grown (row := some w.heap.size) ⟨rfl, rfl, rfl, by simp [World.setRow], fun j _ hne => setRow_other _ _ j _ (fun e => hne (by rw [e]))⟩ hb3.size (fun j hj => by injection hj with hj; omega))
  clear hb3 hz3 hg3 Q3
  go_wp2_with fail
  refine bodyPost_ret (v := .tuple #[.agg (opA zeroO).toArray, .bool false]) ?_ rfl ⟨rfl, HBF.out⟩
  exact results_cell_row2 Tryz.results29 _ _ w.heap.size 34 _ (0, 0) _ _ rfl rfl HROW.out Tryz.underlying34 rfl (by rw [List.size_toArray, opA_length okZeroO]; kernel_rfl)
end Go.Proofs.YtgogbpkcceadbaaGreatDoor.Sg
