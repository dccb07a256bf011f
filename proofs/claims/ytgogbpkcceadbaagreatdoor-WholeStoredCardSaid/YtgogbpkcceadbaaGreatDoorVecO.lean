/-
  vec.Decode, of a vector's bytes.
  op.shaped and op.Right, of a right operation.
-/
import Derived.Test.YtgogbpkcceadbaaGreatDoorVecN
import Derived.Laws.ResultCell
import Derived.BigQuiet
namespace Go.Proofs.YtgogbpkcceadbaaGreatDoor.Vc
open Go.RowKit Go.Proofs.YtgogbpkcceadbaaGreatDoor.Wd Go.Proofs.YtgogbpkcceadbaaGreatDoor.VintP Go.Proofs.YtgogbpkcceadbaaGreatDoor.VintW Go.Proofs.YtgogbpkcceadbaaGreatDoor.Pk
set_option linter.unusedVariables false

/-- A vector's first numbers, and noughts behind. -/
def zpad (a : List Nat) (k : Nat) : List Nat := a.take k ++ List.replicate (16 - k) 0
theorem zpad_vec {a : List Nat} (h : IsVec a) {k : Nat} (hk : k ≤ 16) : IsVec (zpad a k) := by
  have hl := h.len
  refine ⟨by simp [zpad]; omega, fun x hx => ?_⟩
  rcases List.mem_append.1 hx with h1 | h1
  · exact h.small x (List.mem_of_mem_take h1)
  · rw [(List.mem_replicate.1 h1).2]; exact Nat.zero_le _
theorem zpad_zero (a : List Nat) : zpad a 0 = List.replicate 16 0 := rfl
theorem zpad_set {a : List Nat} (h : IsVec a) {k : Nat} (hk : k < 16) : (zpad a k).set k (a.getD k 0) = zpad a (k + 1) := by
  have hl := h.len
  have hlt : (a.take k).length = k := by simp; omega
  unfold zpad
  rw [take_snoc (by omega), show 16 - k = (16 - (k + 1)) + 1 by omega, List.replicate_succ, List.set_append, if_neg (by omega), hlt, Nat.sub_self]
  simp
theorem zpad_all {a : List Nat} (h : IsVec a) : zpad a (vlen a 16) = a := by
  have hl := h.len
  have h2 := vlen_le a 16
  have h3 : a.drop (vlen a 16) = List.replicate (16 - vlen a 16) 0 := by
    rw [List.eq_replicate_iff]
    refine ⟨by rw [List.length_drop, hl], fun b hb => ?_⟩
    obtain ⟨i, hi, rfl⟩ := List.mem_iff_getElem.1 hb
    rw [List.length_drop] at hi
    rw [List.getElem_drop]
    have := vlen_zero a 16 (vlen a 16 + i) (by omega) (by omega)
    rwa [List.getD_eq_getElem?_getD, List.getElem?_eq_getElem (by omega)] at this
  unfold zpad
  rw [← h3, List.take_append_drop]
theorem VecAt.set {w : World} {g : Nat} {xs : List Nat} (h : VecAt w g xs) {k x : Nat} (hx : x ≤ 4294967295) : VecAt (w.setCell ⟨g, k, none⟩ (.int .u32 (x : Int))) g (xs.set k x) := by
  refine ⟨⟨by simp [h.vec.len], fun y hy => ?_⟩, ?_⟩
  · rcases List.mem_or_eq_of_mem_set hy with h2 | rfl
    · exact h.vec.small y h2
    · exact hx
  · rw [setCell_eq_setRow w g k _ _ _ _ h.row, setRow_heap w g _ _ _ _ h.row]
    congr 2
    unfold vecA
    rw [List.map_set]
    simp
theorem cat_drop {a : List Nat} {k n : Nat} (h : k < n) (hn : n ≤ a.length) : cat ((a.take n).drop k) = enc (a.getD k 0) ++ cat ((a.take n).drop (k + 1)) := by
  have h1 : k < (a.take n).length := by simp; omega
  rw [List.drop_eq_getElem_cons h1, List.getElem_take, List.getD_eq_getElem?_getD, List.getElem?_eq_getElem (by omega)]
  rfl
theorem results_cell_row2 {P : Program} {fn : Func} {p u : Tmp} {ty : TypeId} (h : fn.results = #[.cell p ty, .tmp u]) (tmps : Array Value) (w : World) (g : Nat) (t : TypeId) (cs : Array Value) (fr : Nat × Nat) (d : TypeDesc) (y : Value)
    (hp : tmps.getD p undef = .pointer (some ⟨g, 0, none⟩)) (hy : tmps.getD u undef = y) (hg : w.heap[g]? = some (.cells cs t fr))
    (hu : P.underlying ty = some d) (hd : (match d with | .struct _ | .array _ _ => true | _ => false) = true) (hi : (P.info? ty).map (·.size) = some cs.size) :
    (results fn tmps).run P w = .ok (.tuple #[.agg cs, y]) w := by
  rw [results_cell_tmp h, hp, hy]
  simp [asAddr, Result.andThen, run_loadVar_row w g t ty cs fr d hg hu hd hi]
set_option maxHeartbeats 4000000 in
set_option maxRecDepth 100000 in
theorem vdecode_any (a : List Nat) (ha : IsVec a) (m c : Nat) (A : Option Addr) (w : World) (hr : RdB w A m (encV a)) :
    Calls Tryz.prog 79 #[.slice A m c] w fun e w' => e = .returned (.tuple #[.agg (vecA a), .int .i64 0]) ∧ Below w.heap.size w w' := by
  have hml := hr.len
  have hel := encV_length a
  have HR := Lib.hid hr
  have HA := Lib.hid ha
  have HM := Lib.hid (show m ≤ 65536 by omega)
  clear hr hml hel ha
  have hz : VecAt (w.alloc (.cells #[.int .u32 0, .int .u32 0, .int .u32 0, .int .u32 0, .int .u32 0, .int .u32 0, .int .u32 0, .int .u32 0, .int .u32 0, .int .u32 0, .int .u32 0, .int .u32 0, .int .u32 0, .int .u32 0, .int .u32 0, .int .u32 0] 32)) w.heap.size (zpad a 0) := ⟨zpad_vec HA.out (by omega), heap_alloc_new w _⟩
  have hb : Below w.heap.size w (w.alloc (.cells #[.int .u32 0, .int .u32 0, .int .u32 0, .int .u32 0, .int .u32 0, .int .u32 0, .int .u32 0, .int .u32 0, .int .u32 0, .int .u32 0, .int .u32 0, .int .u32 0, .int .u32 0, .int .u32 0, .int .u32 0, .int .u32 0] 32)) := (Below.refl _ _).alloc (Nat.le_refl _) _
  have HZ := Lib.hid hz
  have HB := Lib.hid hb
  clear hz hb
  go_enter Tryz.func79, Tryz.ntmps79
  go_wp2_with fail
  generalize w.alloc (.cells #[.int .u32 0, .int .u32 0, .int .u32 0, .int .u32 0, .int .u32 0, .int .u32 0, .int .u32 0, .int .u32 0, .int .u32 0, .int .u32 0, .int .u32 0, .int .u32 0, .int .u32 0, .int .u32 0, .int .u32 0, .int .u32 0] 32) = w1 at *
  refine (read_any m c A (encV a) w1 (HR.out.below HB.out) HM.out).mono ?_
  rintro e w2 ⟨g, A2, c2, rfl, hg, hr2, hb2⟩
  have hn := vlen_le a 16
  have hzl := vlen_last a 16
  have hall := zpad_all HA.out
  rw [show encV a = enc (vlen a 16) ++ cat ((a.take (vlen a 16)).drop 0) from rfl] at hr2
  generalize vlen a 16 = n at *
  have q := rnum_ok g c2 A2 n _ w2 hr2 (by omega)
  have hlt := HZ.out.lt
  have HZ2 := Lib.hid (HZ.out.below hb2)
  have HB2 := Lib.hid (HB.out.trans (hb2.mono HB.out.size))
  have HG := Lib.hid (show w.heap.size < g by omega)
  have HZL := Lib.hid hzl
  have HALL := Lib.hid hall
  have HGL := Lib.hid hr2.lt
  have Q := Lib.hid q
  clear hzl hall q hr2 hg hb2 hlt HM HR HZ HB
  go_wp2_with fail
  refine Q.out.mono ?_
  rintro e w3 ⟨rfl, hr3, hg3⟩
  have hv3 : VecAt w3 w.heap.size (zpad a 0) := HZ2.out.kept hg3 (fun e => by injection e with e; have := HG.out; omega)
  have hb3 : Below w.heap.size w w3 := HB2.out.grown hg3 HB2.out.size (fun k hk => by injection hk with hk; have := HG.out; omega)
  have hgl : g < w3.heap.size := Nat.lt_of_lt_of_le HGL.out hg3.size
  have hv4 : VecAt (w3.alloc (.cells #[.int .u32 0, .int .u32 0, .int .u32 0, .int .u32 0, .int .u32 0, .int .u32 0, .int .u32 0, .int .u32 0, .int .u32 0, .int .u32 0, .int .u32 0, .int .u32 0, .int .u32 0, .int .u32 0, .int .u32 0, .int .u32 0] 32)) w3.heap.size (zpad a 0) := ⟨zpad_vec HA.out (by omega), heap_alloc_new w3 _⟩
  have hb4 : Below w3.heap.size w3 (w3.alloc (.cells #[.int .u32 0, .int .u32 0, .int .u32 0, .int .u32 0, .int .u32 0, .int .u32 0, .int .u32 0, .int .u32 0, .int .u32 0, .int .u32 0, .int .u32 0, .int .u32 0, .int .u32 0, .int .u32 0, .int .u32 0, .int .u32 0] 32)) := (Below.refl _ _).alloc (Nat.le_refl _) _
  have H3 := Lib.hid (show ∃ A' c', RrAt (w3.alloc (.cells #[.int .u32 0, .int .u32 0, .int .u32 0, .int .u32 0, .int .u32 0, .int .u32 0, .int .u32 0, .int .u32 0, .int .u32 0, .int .u32 0, .int .u32 0, .int .u32 0, .int .u32 0, .int .u32 0, .int .u32 0, .int .u32 0] 32)) g A' c' (cat ((a.take n).drop 0)) from hr3.elim fun A' h => h.elim fun c' h => ⟨A', c', h.below hb4⟩)
  have HV3 := Lib.hid (hv3.below hb4)
  have HV4 := Lib.hid hv4
  have HB4 := Lib.hid (hb3.trans (hb4.mono hb3.size))
  have HGV := Lib.hid hgl
  have HWV := Lib.hid hb3.size
  have i1 : (0 : Int) ≤ (n : Int) := by omega
  have i2 : (n : Int) ≤ 16 := by omega
  have i3 : ¬ ((n : Int) > 16) := by omega
  have i4 : decide (16 < (n : Int)) = false := decide_eq_false (by omega)
  clear hr3 hg3 hv3 hb3 hgl hv4 hb4 HZ2 HB2 HGL Q
  go_wp2_with fail
  generalize w3.alloc (.cells #[.int .u32 0, .int .u32 0, .int .u32 0, .int .u32 0, .int .u32 0, .int .u32 0, .int .u32 0, .int .u32 0, .int .u32 0, .int .u32 0, .int .u32 0, .int .u32 0, .int .u32 0, .int .u32 0, .int .u32 0, .int .u32 0] 32) = w4 at *
  generalize w3.heap.size = G at *
  go_loopw [28] (fun i wr => ∃ k : Nat, k ≤ n ∧ i = .int .i64 (k : Int) ∧ Hid (∃ A' c', RrAt wr g A' c' (cat ((a.take n).drop k))) ∧ Hid (VecAt wr w.heap.size (zpad a 0)) ∧ Hid (VecAt wr G (zpad a k)) ∧ Hid (Below w.heap.size w wr)) (fun i _ => n - (intOf i).toNat)
  case atStart => exact ⟨0, Nat.zero_le _, rfl, H3, HV3, HV4, HB4⟩
  case round =>
    obtain ⟨k, hk, rfl, HRR, HV0, HV, HW⟩ := hrel
    by_cases hlt : k < n
    · obtain ⟨A5, c5, h5⟩ := HRR.out
      have hcd := cat_drop (a := a) hlt (by rw [HA.out.len]; exact hn)
      have b1 := HA.out.at_ k
      have hzs := zpad_set HA.out (k := k) (by omega)
      rw [hcd] at h5
      obtain ⟨x, hx⟩ : ∃ x, x = a.getD k 0 := ⟨_, rfl⟩
      rw [← hx] at h5 b1 hzs
      have q := rnum_ok g c5 A5 x _ wr h5 (by omega)
      have Q := Lib.hid q
      have HZS := Lib.hid hzs
      have j0 : (0 : Int) ≤ (k : Int) := by omega
      have j1 : (k : Int) < (n : Int) := by omega
      have j2 : (k : Int) < 16 := by omega
      have j3 : ¬ ((x : Int) > 4294967295) := by omega
      have wx : IntKind.u32.wrap (x : Int) = (x : Int) := by rw [IntKind.wrap_u32]; omega
      clear hcd h5 hzs hx q HRR
      go_wp2_with fail
      refine Q.out.mono ?_
      rintro e w5 ⟨rfl, hr6, hg6⟩
      have hv0 : VecAt w5 w.heap.size (zpad a 0) := HV0.out.kept hg6 (fun e => by injection e with e; have := HG.out; omega)
      have hv : VecAt w5 G (zpad a k) := HV.out.kept hg6 (fun e => by injection e with e; have := HGV.out; omega)
      have hb6 : Below w.heap.size w w5 := HW.out.grown hg6 HW.out.size (fun k hk => by injection hk with hk; have := HG.out; omega)
      have hc := hv.cell (j := k) (by omega)
      have hf : w5.frozen? ⟨G, k, none⟩ = false := by simp [World.frozen?, hv.row]
      have hgs := grown_setCell w5 G k (.int .u32 (x : Int))
      have hv7 := hv.set (k := k) b1
      rw [HZS.out] at hv7
      have HV7 := Lib.hid hv7
      have HV8 := Lib.hid (hv0.kept hgs (fun e => by injection e with e; have := HG.out; have := HGV.out; omega))
      have HR7 := Lib.hid (show ∃ A' c', RrAt (w5.setCell ⟨G, k, none⟩ (.int .u32 (x : Int))) g A' c' (cat ((a.take n).drop (k + 1))) from hr6.elim fun A' h => h.elim fun c' h => ⟨A', c', h.grown hgs HGV.out⟩)
      have HB7 := Lib.hid (hb6.setCell (p := ⟨G, k, none⟩) HWV.out (.int .u32 (x : Int)))
      clear hv0 hv hb6 hgs hv7 hr6 hg6 HV HV0 HW Q
      go_wp2_with fail
      go_roundw
      case rel => exact ⟨k + 1, by omega, by go_num, HR7, HV8, HV7, HB7⟩
      case measure => simp [intOf]; omega
    · have hkn : k = n := by omega
      subst hkn
      obtain ⟨A5, c5, h5⟩ := HRR.out
      rw [show (a.take k).drop k = [] from List.drop_eq_nil_of_le (by simp; omega)] at h5
      have q := done_ok g c5 A5 _ wr h5
      rw [show decide ((cat []).length = 0) = true from rfl] at q
      have Q := Lib.hid q
      have hv := HV.out
      rw [HALL.out] at hv
      have HVA := Lib.hid hv
      have HS := Lib.hid (show VecAt (wr.setRow w.heap.size (vecA a)) w.heap.size a from ⟨HA.out, setRow_heap wr _ _ _ _ _ HV0.out.row⟩)
      have hzr := HV0.out.row
      have HZR := Lib.hid hzr
      have HBF := Lib.hid (show Below w.heap.size w (wr.setRow w.heap.size (vecA a)) from HW.out.grown (row := some w.heap.size) ⟨rfl, rfl, rfl, by simp [World.setRow], fun j _ hne => setRow_other wr _ j _ (fun e => hne (by rw [e]))⟩ HW.out.size (fun j hj => by injection hj with hj; omega))
      by_cases h0 : k = 0
      · subst h0
        clear h5 q hv hzr HRR
        go_wp2_with fail
        refine Q.out.mono ?_
        rintro e w8 ⟨rfl, rfl⟩
        go_wp2_with (first
          | (refine VecAt.load_list HVA.out rfl (.tmp 7) rfl rfl ?_)
          | (refine wpList_store_row rfl 32 (.tmp 2) (.tmp 59) rfl w.heap.size (vecA a) rfl rfl 32 _ HZR.out (by rw [vecA_size, HA.out.len]; kernel_rfl) (by rw [vecA_size, vecA_size, HA.out.len]; rfl) (by simp [vecA, Value.oneCell']) ?_))
        refine bodyPost_ret (v := .tuple #[.agg (vecA a), .int .i64 0]) ?_ rfl ⟨rfl, HBF.out⟩
        exact results_cell_row2 Tryz.results79 _ _ w.heap.size 32 _ (0, 0) _ _ rfl rfl HS.out.row Tryz.underlying32 rfl (by rw [vecA_size, HA.out.len]; kernel_rfl)
      · obtain ⟨j, hj⟩ : ∃ j, k = j + 1 := ⟨k - 1, by omega⟩
        have e1 : (k : Int) - 1 = (j : Int) := by omega
        have hc := hv.cell (j := j) (by omega)
        have hz := HZL.out (by omega)
        rw [show k - 1 = j by omega] at hz
        obtain ⟨y, hy⟩ : ∃ y, y = a.getD j 0 := ⟨_, rfl⟩
        rw [← hy] at hc hz
        have j0 : (0 : Int) ≤ (j : Int) := by omega
        have j1 : (j : Int) < 16 := by omega
        have j2 : (k : Int) > 0 := by omega
        have j4 : decide (0 < (k : Int)) = true := decide_eq_true (by omega)
        have i9 : ((y : Int) == 0) = false := by rw [beq_eq_false_iff_ne]; omega
        clear h5 q hv hzr HRR hj hy
        go_wp2_with fail
        refine Q.out.mono ?_
        rintro e w8 ⟨rfl, rfl⟩
        go_wp2_with (first
          | (refine VecAt.load_list HVA.out rfl (.tmp 7) rfl rfl ?_)
          | (refine wpList_store_row rfl 32 (.tmp 2) (.tmp 59) rfl w.heap.size (vecA a) rfl rfl 32 _ HZR.out (by rw [vecA_size, HA.out.len]; kernel_rfl) (by rw [vecA_size, vecA_size, HA.out.len]; rfl) (by simp [vecA, Value.oneCell']) ?_))
        refine bodyPost_ret (v := .tuple #[.agg (vecA a), .int .i64 0]) ?_ rfl ⟨rfl, HBF.out⟩
        exact results_cell_row2 Tryz.results79 _ _ w.heap.size 32 _ (0, 0) _ _ rfl rfl HS.out.row Tryz.underlying32 rfl (by rw [vecA_size, HA.out.len]; kernel_rfl)
end Go.Proofs.YtgogbpkcceadbaaGreatDoor.Vc
namespace Go.Proofs.YtgogbpkcceadbaaGreatDoor.Vc
open Go.RowKit Go.Proofs.YtgogbpkcceadbaaGreatDoor.Wd Go.Proofs.YtgogbpkcceadbaaGreatDoor.VintP Go.Proofs.YtgogbpkcceadbaaGreatDoor.VintW Go.Proofs.YtgogbpkcceadbaaGreatDoor.Pk
set_option linter.unusedVariables false

/-- The operation's parts fit its kind. -/
def Shp (o : O) : Prop := (o.kind = 1 ∧ 0 < o.qty) ∨ o.kind = 2 ∨ (o.kind = 3 ∧ o.qty = 0) ∨ ((o.kind = 4 ∨ o.kind = 5) ∧ o.item = 0 ∧ o.qty = 0)
structure RightO (o : O) : Prop where
  small : ∀ x ∈ o.ctx, x ≤ 1048576
  rep : o.rep < 16
  tick : o.tick ≤ 1073741824
  shp : Shp o
  seq1 : 1 ≤ o.seq
  seq : o.seq ≤ 1048576
  own : o.ctx.getD o.rep 0 = o.seq - 1
set_option maxHeartbeats 2000000 in
set_option maxRecDepth 100000 in
theorem shaped_any (o : O) (ho : OkO o) (hs : Shp o) (w : World) :
    Calls Tryz.prog 74 #[.agg (opA o).toArray] w fun e w' => e = .returned (.bool true) ∧ Gr w w' := by
  have h1 := OpAt.new w ho
  have H0 := Lib.hid ((Gr.refl w).alloc (.cells (opA o).toArray 34))
  have c2 : (w.alloc (.cells (opA o).toArray 34)).cell? ⟨w.heap.size, 2, none⟩ = some (.int .u8 ((o.kind : Nat) : Int)) := by rw [h1.cell]; rfl
  have c4 : (w.alloc (.cells (opA o).toArray 34)).cell? ⟨w.heap.size, 4, none⟩ = some (.int .u16 ((o.item : Nat) : Int)) := by rw [h1.cell]; rfl
  have c5 : (w.alloc (.cells (opA o).toArray 34)).cell? ⟨w.heap.size, 5, none⟩ = some (.int .u16 ((o.qty : Nat) : Int)) := by rw [h1.cell]; rfl
  clear h1 ho
  rcases hs with ⟨hk, hq⟩ | hk | ⟨hk, hq⟩ | ⟨hk | hk, hi, hq⟩
  · rw [hk] at c2
    obtain ⟨q, hqq⟩ : ∃ q, q = o.qty := ⟨_, rfl⟩
    rw [← hqq] at c5 hq
    have i1 : ((q : Int) > 0) := by omega
    have i2 : decide (0 < (q : Int)) = true := decide_eq_true (by omega)
    have HQ := Lib.hid hq
    clear hk hq hqq c4
    go_enter Tryz.func74, Tryz.ntmps74
    go_wp2_with fail
    go_ret
    exact ⟨by show Ending.returned (.bool (decide (0 < q))) = _; rw [decide_eq_true HQ.out], H0.out⟩
  · rw [hk] at c2
    clear hk c4 c5
    go_enter Tryz.func74, Tryz.ntmps74
    go_wp2_with fail
    go_ret
    exact ⟨rfl, H0.out⟩
  · rw [hk] at c2
    rw [hq] at c5
    clear hk hq c4
    go_enter Tryz.func74, Tryz.ntmps74
    go_wp2_with fail
    go_ret
    exact ⟨rfl, H0.out⟩
  · rw [hk] at c2
    rw [hq] at c5
    rw [hi] at c4
    clear hk hq hi
    go_enter Tryz.func74, Tryz.ntmps74
    go_wp2_with fail
    go_ret
    exact ⟨rfl, H0.out⟩
  · rw [hk] at c2
    rw [hq] at c5
    rw [hi] at c4
    clear hk hq hi
    go_enter Tryz.func74, Tryz.ntmps74
    go_wp2_with fail
    go_ret
    exact ⟨rfl, H0.out⟩
theorem OpAt.loads {w : World} {g : Nat} {o : O} (h : OpAt w g o) : (ldK 34 ⟨g, 0, none⟩).run Tryz.prog w = .ok (.agg (opA o).toArray) w :=
  run_loadVar_row w g _ 34 _ _ _ h.row Tryz.underlying34 rfl (by rw [List.size_toArray, opA_length h.ok]; kernel_rfl)
theorem load_u8 {w : World} {a : Addr} {v : Value} (h : w.cell? a = some v) : (ldK 5 a).run Tryz.prog w = .ok v w := by
  simp [ldK, loadVar, Sem.run_bind, isAgg, run_underlying Tryz.underlying5, go_sem, h]
theorem load_u16 {w : World} {a : Addr} {v : Value} (h : w.cell? a = some v) : (ldK 23 a).run Tryz.prog w = .ok v w := by
  simp [ldK, loadVar, Sem.run_bind, isAgg, run_underlying Tryz.underlying23, go_sem, h]
theorem load_u32 {w : World} {a : Addr} {v : Value} (h : w.cell? a = some v) : (ldK 28 a).run Tryz.prog w = .ok v w := by
  simp [ldK, loadVar, Sem.run_bind, isAgg, run_underlying Tryz.underlying28, go_sem, h]
theorem OpAt.loadDot {w : World} {g : Nat} {o : O} (h : OpAt w g o) : (ldK 30 ⟨g, 0, none⟩).run Tryz.prog w = .ok (.agg #[.int .u8 ((o.rep : Nat) : Int), .int .u32 ((o.seq : Nat) : Int)]) w := by
  have hl : (loadCells ⟨g, 0, none⟩ 2).run Tryz.prog w = .ok #[.int .u8 ((o.rep : Nat) : Int), .int .u32 ((o.seq : Nat) : Int)] w := by
    have := run_loadCells_list (P := Tryz.prog) w ⟨g, 0, none⟩ [.int .u8 ((o.rep : Nat) : Int), .int .u32 ((o.seq : Nat) : Int)] (fun j v hv => by
      have hadd : (⟨g, 0, none⟩ : Addr).add j = ⟨g, j, none⟩ := by unfold Addr.add; split <;> simp_all
      rw [hadd, h.cell, ← hv]
      unfold opA
      match j with
      | 0 => rfl
      | 1 => rfl
      | j + 2 => simp at hv)
    simpa using this
  have hagg : (isAgg 30).run Tryz.prog w = .ok true w := by
    unfold isAgg
    rw [Sem.run_bind, run_underlying Tryz.underlying30 w]
    simp
  obtain ⟨i, hi⟩ := info_of_underlying Tryz.underlying30
  have hsz : i.size = 2 := by
    have h2 : (Tryz.prog.info? 30).map (·.size) = some 2 := by kernel_rfl
    rw [hi] at h2
    simpa using h2
  simp [ldK, loadVar, Sem.run_bind, hagg, sizeOf, typeInfo, hi, hsz, hl]
theorem setCells_alloc_new (w : World) (zs cs : Array Value) (T : TypeId) : (w.alloc (.cells zs T)).setRow w.heap.size cs = w.alloc (.cells cs T) := by
  unfold World.setRow World.alloc
  congr 1
  apply Array.ext_getElem?
  intro k
  rw [Array.getElem?_modify, Array.getElem?_push, Array.getElem?_push]
  by_cases e : w.heap.size = k
  · subst e
    simp
  · simp [e, Ne.symm e]
theorem store_dot (w : World) (c : Array Value) (hc : c.size = 2) (x y : Int) : (stK 30 ⟨w.heap.size, 0, none⟩ (.agg #[.int .u8 x, .int .u32 y])).run Tryz.prog (w.alloc (.cells c 30)) = .ok () (w.alloc (.cells #[.int .u8 x, .int .u32 y] 30)) := by
  rw [stK, run_storeVar_row _ w.heap.size 30 30 c #[.int .u8 x, .int .u32 y] (heap_alloc_new w _) (by kernel_rfl) hc (by simp [Value.oneCell']), setCells_alloc_new]
end Go.Proofs.YtgogbpkcceadbaaGreatDoor.Vc
