/-
  fold.tally's take.
-/
import Derived.Test.YtgogbpkcceadbaaGreatDoorFoldB
import Derived.Test.YtgogbpkcceadbaaGreatDoorLessM
import Derived.Test.YtgogbpkcceadbaaGreatDoorRowsM
namespace Go.Proofs.YtgogbpkcceadbaaGreatDoor.Vc
open Go.RowKit Go.Proofs.YtgogbpkcceadbaaGreatDoor.Wd Go.Proofs.YtgogbpkcceadbaaGreatDoor.Pk
set_option linter.unusedVariables false

/-- What is live of an item. -/
structure Ta where
  sum : Nat
  set : O
  has : Bool
structure OkTa (t : Ta) : Prop where
  sum : t.sum ≤ 4294967295
  set : OkO t.set
def taA (t : Ta) : List Value := .int .u32 ((t.sum : Nat) : Int) :: (opA t.set ++ [.bool t.has])
def zeroTa : Ta := ⟨0, zeroO, false⟩
theorem okZeroTa : OkTa zeroTa := ⟨by decide, okZeroO⟩
theorem taA_length {t : Ta} (h : OkTa t) : (taA t).length = 25 := by simp [taA, opA_length h.set]
theorem taA_one (t : Ta) : ∀ v ∈ taA t, v.oneCell' = true := by
  intro v hv
  unfold taA opA at hv
  simp only [List.mem_append, List.mem_cons, List.not_mem_nil, or_false, List.mem_map] at hv
  rcases hv with rfl | (((rfl | rfl | rfl | rfl | rfl | rfl | rfl) | ⟨x, _, rfl⟩) | rfl) <;> rfl
theorem opA_inj {a b : O} (h : opA a = opA b) : a = b := by
  obtain ⟨a1, a2, a3, a4, a5, a6, a7, a8⟩ := a
  obtain ⟨b1, b2, b3, b4, b5, b6, b7, b8⟩ := b
  simp only [opA, List.cons_append, List.nil_append, List.cons.injEq, Value.int.injEq, true_and] at h
  obtain ⟨h1, h2, h3, h4, h5, h6, h7, h8⟩ := h
  have e8 : a8 = b8 := by
    have hf : Function.Injective (fun x : Nat => Value.int .u32 ((x : Nat) : Int)) := fun x y e => by
      injection e with _ e
      exact Int.ofNat.inj e
    exact (List.map_inj_right (fun x y e => hf e)).1 h8
  subst e8
  have e1 := Int.ofNat.inj h1
  have e2 := Int.ofNat.inj h2
  have e3 := Int.ofNat.inj h3
  have e4 := Int.ofNat.inj h4
  have e5 := Int.ofNat.inj h5
  have e6 := Int.ofNat.inj h6
  have e7 := Int.ofNat.inj h7
  subst e1 e2 e3 e4 e5 e6 e7
  rfl
theorem taA_inj {s t : Ta} (hs : OkTa s) (ht : OkTa t) (h : taA s = taA t) : s = t := by
  obtain ⟨s1, s2, s3⟩ := s
  obtain ⟨t1, t2, t3⟩ := t
  simp only [taA, List.cons.injEq, Value.int.injEq, true_and] at h
  obtain ⟨h1, h2⟩ := h
  obtain ⟨h3, h4⟩ := List.append_inj h2 (by rw [opA_length hs.set, opA_length ht.set])
  have e1 := Int.ofNat.inj h1
  have e2 := opA_inj h3
  simp only [List.cons.injEq, Value.bool.injEq, and_true] at h4
  subst e1 e2 h4
  rfl
def takeT (t : Ta) (o : O) : Ta := if o.kind = 1 then ⟨(t.sum + o.qty) % 4294967296, t.set, t.has⟩ else if t.has = false ∨ lessB t.set o = true then ⟨t.sum, o, true⟩ else t
theorem okTake {t : Ta} {o : O} (ht : OkTa t) (ho : OkO o) : OkTa (takeT t o) := by
  unfold takeT
  split
  · exact ⟨by show (t.sum + o.qty) % 4294967296 ≤ 4294967295; omega, ht.set⟩
  · split
    · exact ⟨ht.sum, ho⟩
    · exact ht
/-- A tally in a variable of its own. -/
structure TaAt (w : World) (g : Nat) (t : Ta) : Prop where
  ok : OkTa t
  row : w.heap[g]? = some (.cells (taA t).toArray 60 (0, 0))
theorem TaAt.lt {w : World} {g : Nat} {o : Ta} (h : TaAt w g o) : g < w.heap.size := (Array.getElem?_eq_some_iff.1 h.row).1
theorem TaAt.below {w w' : World} {g : Nat} {o : Ta} (h : TaAt w g o) (hb : Below w.heap.size w w') : TaAt w' g o := ⟨h.ok, by rw [hb.block g h.lt]; exact h.row⟩
theorem TaAt.kept {w w' : World} {g : Nat} {o : Ta} {r : Option Nat} (h : TaAt w g o) (hg : w.grownBy w' r) (hne : some g ≠ r) : TaAt w' g o := ⟨h.ok, by rw [hg.block g h.lt hne]; exact h.row⟩
theorem TaAt.new (w : World) {o : Ta} (h : OkTa o) : TaAt (w.alloc (.cells (taA o).toArray 60)) w.heap.size o := ⟨h, heap_alloc_new w _⟩
theorem TaAt.cell {w : World} {g : Nat} {o : Ta} (h : TaAt w g o) (j : Nat) : w.cell? ⟨g, j, none⟩ = (taA o)[j]? := by
  rw [cell_of_row w g j _ _ _ h.row]
  simp
theorem TaAt.fz {w : World} {g : Nat} {o : Ta} (h : TaAt w g o) (k : Nat) : w.frozen? ⟨g, k, none⟩ = false := by simp [World.frozen?, h.row]
theorem TaAt.loads {w : World} {g : Nat} {o : Ta} (h : TaAt w g o) : (ldK 60 ⟨g, 0, none⟩).run Tryz.prog w = .ok (.agg (taA o).toArray) w :=
  run_loadVar_row w g _ 60 _ _ _ h.row Tryz.underlying60 rfl (by rw [List.size_toArray, taA_length h.ok]; kernel_rfl)
theorem TaAt.l0 {w : World} {g : Nat} {o : Ta} (h : TaAt w g o) : (ldK 28 ⟨g, 0, none⟩).run Tryz.prog w = .ok (.int .u32 ((o.sum : Nat) : Int)) w := load_u32 (h.cell 0)
theorem TaAt.l24 {w : World} {g : Nat} {o : Ta} (h : TaAt w g o) : (ldK 4 ⟨g, 24, none⟩).run Tryz.prog w = .ok (.bool o.has) w := load_bool (by
  rw [h.cell]
  unfold taA
  rw [List.getElem?_cons_succ, List.getElem?_append_right (by rw [opA_length h.ok.set]; decide), opA_length h.ok.set]
  rfl)
theorem TaAt.l5 {w : World} {g : Nat} {o : Ta} (h : TaAt w g o) : (ldK 23 ⟨g, 6, none⟩).run Tryz.prog w = .ok (.int .u16 ((o.set.qty : Nat) : Int)) w := load_u16 (h.cell 6)
theorem TaAt.lset {w : World} {g : Nat} {o : Ta} (h : TaAt w g o) : (ldK 34 ⟨g, 1, none⟩).run Tryz.prog w = .ok (.agg (opA o.set).toArray) w := by
  refine loadOp_at h.ok.set _ w fun i u hu => ?_
  have hi : i < 23 := by
    have := (List.getElem?_eq_some_iff.1 hu).1
    rwa [opA_length h.ok.set] at this
  have hadd : (⟨g, 1, none⟩ : Addr).add i = ⟨g, 1 + i, none⟩ := by unfold Addr.add; split <;> simp_all
  rw [hadd, h.cell, Nat.add_comm]
  unfold taA
  rw [List.getElem?_cons_succ, List.getElem?_append_left (by rw [opA_length h.ok.set]; exact hi)]
  exact hu
/-- The sum is stored. -/
theorem TaAt.putSum {w : World} {g : Nat} {o : Ta} (h : TaAt w g o) (n : Nat) (hn : n ≤ 4294967295) :
    (stK 28 ⟨g, 0, none⟩ (.int .u32 (n : Int))).run Tryz.prog w = .ok () (w.setCell ⟨g, 0, none⟩ (.int .u32 (n : Int))) ∧ TaAt (w.setCell ⟨g, 0, none⟩ (.int .u32 (n : Int))) g ⟨n, o.set, o.has⟩ ∧ w.grownBy (w.setCell ⟨g, 0, none⟩ (.int .u32 (n : Int))) (some g) := by
  refine ⟨store_u32 _ (h.cell 0) (h.fz 0), ⟨⟨hn, h.ok.set⟩, ?_⟩, grown_setCell w g 0 _⟩
  rw [setCell_eq_setRow w g 0 _ _ _ _ h.row, setRow_heap w g _ _ _ _ h.row]
  rfl
theorem setCells_mid (g : Nat) (t : TypeId) : ∀ (vs : List Value) (i : Nat) (cur : Array Value) (w : World), w.heap[g]? = some (.cells cur t (0, 0)) → i + vs.length ≤ cur.size →
    (w.setCells g i vs).heap[g]? = some (.cells (cur.toList.take i ++ (vs ++ cur.toList.drop (i + vs.length))).toArray t (0, 0))
  | [], i, cur, w, hg, hl => by
    simpa [World.setCells] using hg
  | v :: vs, i, cur, w, hg, hl => by
    rw [List.length_cons] at hl
    have h1 : (w.setCell ⟨g, i, none⟩ v).heap[g]? = some (.cells (cur.setIfInBounds i v) t (0, 0)) := by
      rw [setCell_eq_setRow w g i _ _ _ _ hg, setRow_heap w g _ _ _ _ hg]
    have h2 := setCells_mid g t vs (i + 1) (cur.setIfInBounds i v) (w.setCell ⟨g, i, none⟩ v) h1 (by simp; omega)
    have h3 : (cur.setIfInBounds i v).toList.take (i + 1) = cur.toList.take i ++ [v] := by
      have hi : i < (cur.toList.set i v).length := by simp; omega
      rw [Array.toList_setIfInBounds, List.take_succ_eq_append_getElem hi, List.getElem_set_self, List.take_set_of_le (Nat.le_refl i)]
    have h4 : (cur.setIfInBounds i v).toList.drop (i + 1 + vs.length) = cur.toList.drop (i + (vs.length + 1)) := by
      rw [Array.toList_setIfInBounds, List.drop_set_of_lt (by omega)]
      congr 1
      omega
    rw [h3, h4] at h2
    unfold World.setCells
    rw [h2]
    simp
theorem store_bool {w : World} {a : Addr} {old : Value} (x : Bool) (h : w.cell? a = some old) (hf : w.frozen? a = false) : (stK 4 a (.bool x)).run Tryz.prog w = .ok () (w.setCell a (.bool x)) := by
  simp [stK, storeVar, Sem.run_bind, go_sem, h, hf]
/-- What is set is stored. -/
theorem TaAt.putSet {w : World} {g : Nat} {t : Ta} (h : TaAt w g t) (o : O) (ho : OkO o) :
    (stK 34 ⟨g, 1, none⟩ (.agg (opA o).toArray)).run Tryz.prog w = .ok () (w.setCells g 1 (opA o)) ∧ TaAt (w.setCells g 1 (opA o)) g ⟨t.sum, o, t.has⟩ ∧ w.grownBy (w.setCells g 1 (opA o)) (some g) := by
  have hl : (opA o).toArray.size = 23 := by rw [List.size_toArray, opA_length ho]
  have hr := run_storeVar_mid (P := Tryz.prog) w g 1 34 (opA o).toArray (fun j hj => ⟨by rw [h.cell, List.getElem?_eq_getElem (by rw [taA_length h.ok]; omega)]; rfl, h.fz _⟩) (by rw [hl]; kernel_rfl)
    (by rw [Array.all_eq_true_iff_forall_mem]; intro v hv; exact encO_one ⟨o, ho⟩ v (show v ∈ opA o by simpa using hv))
  refine ⟨hr, ⟨⟨h.ok.sum, ho⟩, ?_⟩, setCells_grown g _ 1 w⟩
  rw [setCells_mid g _ _ 1 _ w h.row (by rw [opA_length ho, List.size_toArray, taA_length h.ok]; decide)]
  have he : (taA t).take 1 ++ (opA o ++ (taA t).drop (1 + (opA o).length)) = taA ⟨t.sum, o, t.has⟩ := by
    unfold taA
    rw [opA_length ho, Nat.add_comm, List.drop_succ_cons, List.drop_append_of_le_length (by rw [opA_length h.ok.set]; decide), List.drop_of_length_le (by rw [opA_length h.ok.set]; decide)]
    rfl
  rw [← he]
theorem TaAt.putHas {w : World} {g : Nat} {t : Ta} (h : TaAt w g t) :
    (stK 4 ⟨g, 24, none⟩ (.bool true)).run Tryz.prog w = .ok () (w.setCell ⟨g, 24, none⟩ (.bool true)) ∧ TaAt (w.setCell ⟨g, 24, none⟩ (.bool true)) g ⟨t.sum, t.set, true⟩ ∧ w.grownBy (w.setCell ⟨g, 24, none⟩ (.bool true)) (some g) := by
  have hc : w.cell? ⟨g, 24, none⟩ = some (.bool t.has) := by
    rw [h.cell]
    unfold taA
    rw [List.getElem?_cons_succ, List.getElem?_append_right (by rw [opA_length h.ok.set]; decide), opA_length h.ok.set]
    rfl
  refine ⟨store_bool _ hc (h.fz 24), ⟨⟨h.ok.sum, h.ok.set⟩, ?_⟩, grown_setCell w g 24 _⟩
  rw [setCell_eq_setRow w g 24 _ _ _ _ h.row, setRow_heap w g _ _ _ _ h.row]
  congr 2
  apply Array.ext'
  simp only [Array.toList_setIfInBounds, taA]
  rw [List.set_cons_succ, List.set_append_right _ _ (by rw [opA_length h.ok.set]; decide)]
  rw [opA_length h.ok.set]
  rfl
/-- Behind all is stored where the result lies. -/
theorem TaAt.putAll {w : World} {g : Nat} {s t : Ta} (h : TaAt w g s) (ht : OkTa t) :
    (stK 60 ⟨g, 0, none⟩ (.agg (taA t).toArray)).run Tryz.prog w = .ok () (w.setRow g (taA t).toArray) ∧ (w.setRow g (taA t).toArray).heap[g]? = some (.cells (taA t).toArray 60 (0, 0)) ∧ w.grownBy (w.setRow g (taA t).toArray) (some g) := by
  have hl : (taA t).toArray.size = 25 := by rw [List.size_toArray, taA_length ht]
  refine ⟨run_storeVar_row w g 60 60 _ _ h.row (by rw [hl]; kernel_rfl) (by rw [hl, List.size_toArray, taA_length h.ok]) (by rw [Array.all_eq_true_iff_forall_mem]; intro v hv; exact taA_one t v (by simpa using hv)), setRow_heap w g _ _ _ _ h.row,
    ⟨rfl, rfl, rfl, by simp [World.setRow], fun j _ hne => setRow_other _ _ j _ (fun e => hne (by rw [e]))⟩⟩
attribute [local go_sem ↓] ldKx stKx
set_option maxHeartbeats 2000000 in
set_option maxRecDepth 100000 in
theorem take_any (t : Ta) (o : O) (ht : OkTa t) (ho : OkO o) (w : World) :
    Calls Tryz.prog 19 #[.agg (taA t).toArray, .agg (opA o).toArray] w fun e w' => e = .returned (.agg (taA (takeT t o)).toArray) ∧ Below w.heap.size w w' := by
  obtain ⟨w1, hw1⟩ : ∃ w1, w1 = w.alloc (.cells (taA t).toArray 60) := ⟨_, rfl⟩
  obtain ⟨w2, hw2⟩ : ∃ w2, w2 = w1.alloc (.cells (opA o).toArray 34) := ⟨_, rfl⟩
  obtain ⟨w3, hw3⟩ : ∃ w3, w3 = w2.alloc (.cells (taA zeroTa).toArray 60) := ⟨_, rfl⟩
  have s1 : w1.heap.size = w.heap.size + 1 := by rw [hw1]; simp
  have s2 : w2.heap.size = w.heap.size + 2 := by rw [hw2]; simp [s1]
  have g1 : Gr w w1 := by rw [hw1]; exact (Gr.refl w).alloc _
  have g2 : Gr w1 w2 := by rw [hw2]; exact (Gr.refl w1).alloc _
  have g3 : Gr w2 w3 := by rw [hw3]; exact (Gr.refl w2).alloc _
  have ht1 : TaAt w1 w.heap.size t := by rw [hw1]; exact TaAt.new w ht
  have ho2 : OpAt w2 (w.heap.size + 1) o := by rw [hw2, ← s1]; exact OpAt.new w1 ho
  have hz3 : TaAt w3 (w.heap.size + 2) zeroTa := by rw [hw3, ← s2]; exact TaAt.new w2 okZeroTa
  have ht3 := (ht1.below g2.below).below g3.below
  have ho3 := ho2.below g3.below
  have HG3 := Lib.hid ((g1.trans g2).trans g3)
  have hq := fun W => less_any t.set o ht.set ho W
  have HT := Lib.hid ht
  have HO := Lib.hid ho
  have lk := ho3.l2
  have e3 : ((w.alloc (.cells (taA t).toArray 60)).alloc (.cells (opA o).toArray 34)).alloc (.cells #[.int .u32 0, .int .u8 0, .int .u32 0, .int .u8 0, .int .u16 0, .int .u16 0, .int .u16 0, .int .u32 0, .int .u32 0, .int .u32 0, .int .u32 0, .int .u32 0, .int .u32 0, .int .u32 0, .int .u32 0, .int .u32 0, .int .u32 0, .int .u32 0, .int .u32 0, .int .u32 0, .int .u32 0, .int .u32 0, .int .u32 0, .int .u32 0, .bool false] 60) = w3 := by rw [hw3, hw2, hw1]; rfl
  clear ht1 ho2 g1 g2 g3 hw1 hw2 hw3 s1 s2 ht ho
  have HT3 := Lib.hid ht3
  have HO3 := Lib.hid ho3
  have HZ3 := Lib.hid hz3
  have HQ := Lib.hid hq
  have HE3 := Lib.hid e3
  clear ht3 ho3 hz3 hq e3
  by_cases k1 : o.kind = 1
  · rw [k1] at lk
    obtain ⟨S, hS⟩ : ∃ S, S = (t.sum + o.qty) % 4294967296 := ⟨_, rfl⟩
    have hS2 : S ≤ 4294967295 := by omega
    have hres : takeT t o = ⟨S, t.set, t.has⟩ := by unfold takeT; rw [if_pos k1, hS]
    rw [hres]
    have l0 := HT3.out.l0
    have lq := HO3.out.l5
    obtain ⟨r1, ht4, hg4⟩ := HT3.out.putSum S hS2
    have l4 := ht4.loads
    obtain ⟨r2, hrow, hg5⟩ := (HZ3.out.kept hg4 (fun e => by injection e; omega)).putAll (t := ⟨S, t.set, t.has⟩) ⟨hS2, HT.out.set⟩
    have hwr : IntKind.u32.wrap (((t.sum : Nat) : Int) + ((o.qty : Nat) : Int)) = (S : Int) := by rw [IntKind.wrap_u32]; omega
    have wq : IntKind.u32.wrap ((o.qty : Nat) : Int) = ((o.qty : Nat) : Int) := by rw [IntKind.wrap_u32]; have := HO.out.qty; omega
    have HROW := Lib.hid hrow
    have HB := Lib.hid ((HG3.out.below.grown hg4 HG3.out.below.size (fun k e => by injection e with e; omega)).grown hg5 (Nat.le_trans HG3.out.below.size hg4.size) (fun k e => by injection e with e; omega))
    have HLN := Lib.hid (taA_length (t := ⟨S, t.set, t.has⟩) ⟨hS2, HT.out.set⟩)
    clear hres hS hS2 k1 ht4 hg4 hrow hg5
    go_enter Tryz.func19, Tryz.ntmps19
    have e3 := HE3.out
    go_wp2_with fail
    refine bodyPost_ret (v := .agg (taA ⟨S, t.set, t.has⟩).toArray) ?_ rfl ⟨rfl, HB.out⟩
    exact results_cell_row Tryz.results19 _ _ (w.heap.size + 2) 60 _ (0, 0) _ rfl HROW.out Tryz.underlying60 rfl (by rw [List.size_toArray, HLN.out]; kernel_rfl)
  · have n1 : ¬ ((o.kind : Nat) : Int) = 1 := by omega
    by_cases hh : t.has = true
    · have e3 := HE3.out
      have lh := HT3.out.l24
      rw [hh] at lh
      have ls := HT3.out.lset
      have lo := HO3.out.loads
      have HN1 := Lib.hid k1
      have HH := Lib.hid hh
      clear k1 hh
      go_enter Tryz.func19, Tryz.ntmps19
      go_wp2_with fail
      refine (HQ.out _).mono ?_
      rintro e w4 ⟨rfl, hg4⟩
      have HG4 := Lib.hid (HG3.out.trans hg4)
      have HT4 := Lib.hid (HT3.out.below hg4.below)
      have HO4 := Lib.hid (HO3.out.below hg4.below)
      have HZ4 := Lib.hid (HZ3.out.below hg4.below)
      clear hg4 e3 lh ls lo lk HG3 HT3 HO3 HZ3
      cases hl : lessB t.set o with
      | true =>
        have hres : takeT t o = ⟨t.sum, o, true⟩ := by unfold takeT; rw [if_neg HN1.out, if_pos (Or.inr hl)]
        have lo4 := HO4.out.loads
        obtain ⟨r1, ht5, hg5⟩ := HT4.out.putSet o HO.out
        obtain ⟨r2, ht6, hg6⟩ := ht5.putHas
        have l6 := ht6.loads
        obtain ⟨r3, hrow, hg7⟩ := ((HZ4.out.kept hg5 (fun e => by injection e; omega)).kept hg6 (fun e => by injection e; omega)).putAll (t := ⟨t.sum, o, true⟩) ⟨HT.out.sum, HO.out⟩
        have HROW := Lib.hid hrow
        have HB := Lib.hid (((HG4.out.below.grown hg5 HG4.out.below.size (fun k e => by injection e with e; omega)).grown hg6 (Nat.le_trans HG4.out.below.size hg5.size) (fun k e => by injection e with e; omega)).grown hg7 (Nat.le_trans HG4.out.below.size (Nat.le_trans hg5.size hg6.size)) (fun k e => by injection e with e; omega))
        have HLN := Lib.hid (taA_length (t := ⟨t.sum, o, true⟩) ⟨HT.out.sum, HO.out⟩)
        have HRES := Lib.hid hres
        clear hres ht5 hg5 ht6 hg6 hrow hg7 hl
        go_wp2_with fail
        refine bodyPost_ret (v := .agg (taA ⟨t.sum, o, true⟩).toArray) ?_ rfl ⟨by rw [HRES.out], HB.out⟩
        exact results_cell_row Tryz.results19 _ _ (w.heap.size + 2) 60 _ (0, 0) _ rfl HROW.out Tryz.underlying60 rfl (by rw [List.size_toArray, HLN.out]; kernel_rfl)
      | false =>
        have hres : takeT t o = t := by unfold takeT; rw [if_neg HN1.out, if_neg (by rw [hl, HH.out]; decide)]
        have l6 := HT4.out.loads
        obtain ⟨r3, hrow, hg7⟩ := HZ4.out.putAll HT.out
        have HROW := Lib.hid hrow
        have HB := Lib.hid (HG4.out.below.grown hg7 HG4.out.below.size (fun k e => by injection e with e; omega))
        have HLN := Lib.hid (taA_length HT.out)
        have HRES := Lib.hid hres
        clear hres hrow hg7 hl
        go_wp2_with fail
        refine bodyPost_ret (v := .agg (taA t).toArray) ?_ rfl ⟨by rw [HRES.out], HB.out⟩
        exact results_cell_row Tryz.results19 _ _ (w.heap.size + 2) 60 _ (0, 0) _ rfl HROW.out Tryz.underlying60 rfl (by rw [List.size_toArray, HLN.out]; kernel_rfl)
    · have hf : t.has = false := by simpa using hh
      have hres : takeT t o = ⟨t.sum, o, true⟩ := by unfold takeT; rw [if_neg k1, if_pos (Or.inl hf)]
      have e3 := HE3.out
      have lh := HT3.out.l24
      rw [hf] at lh
      have lo := HO3.out.loads
      obtain ⟨r1, ht5, hg5⟩ := HT3.out.putSet o HO.out
      have lo5 := (HO3.out.kept hg5 (fun e => by injection e; omega)).loads
      obtain ⟨r2, ht6, hg6⟩ := ht5.putHas
      have l6 := ht6.loads
      obtain ⟨r3, hrow, hg7⟩ := ((HZ3.out.kept hg5 (fun e => by injection e; omega)).kept hg6 (fun e => by injection e; omega)).putAll (t := ⟨t.sum, o, true⟩) ⟨HT.out.sum, HO.out⟩
      have HROW := Lib.hid hrow
      have HB := Lib.hid (((HG3.out.below.grown hg5 HG3.out.below.size (fun k e => by injection e with e; omega)).grown hg6 (Nat.le_trans HG3.out.below.size hg5.size) (fun k e => by injection e with e; omega)).grown hg7 (Nat.le_trans HG3.out.below.size (Nat.le_trans hg5.size hg6.size)) (fun k e => by injection e with e; omega))
      have HLN := Lib.hid (taA_length (t := ⟨t.sum, o, true⟩) ⟨HT.out.sum, HO.out⟩)
      have HRES := Lib.hid hres
      clear hres ht5 hg5 ht6 hg6 hrow hg7 hh hf k1
      go_enter Tryz.func19, Tryz.ntmps19
      go_wp2_with fail
      refine bodyPost_ret (v := .agg (taA ⟨t.sum, o, true⟩).toArray) ?_ rfl ⟨by rw [HRES.out], HB.out⟩
      exact results_cell_row Tryz.results19 _ _ (w.heap.size + 2) 60 _ (0, 0) _ rfl HROW.out Tryz.underlying60 rfl (by rw [List.size_toArray, HLN.out]; kernel_rfl)
end Go.Proofs.YtgogbpkcceadbaaGreatDoor.Vc
