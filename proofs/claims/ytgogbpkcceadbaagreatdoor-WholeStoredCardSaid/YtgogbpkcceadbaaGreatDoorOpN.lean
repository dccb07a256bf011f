/-
  op.Decode: what it keeps from step to step.
  op.Decode, of a right operation's bytes.
-/
import Derived.Test.YtgogbpkcceadbaaGreatDoorOpM
import Derived.Deep.MidRow
namespace Go.Proofs.YtgogbpkcceadbaaGreatDoor.Vc
open Go.RowKit Go.Proofs.YtgogbpkcceadbaaGreatDoor.Wd Go.Proofs.YtgogbpkcceadbaaGreatDoor.VintP Go.Proofs.YtgogbpkcceadbaaGreatDoor.VintW Go.Proofs.YtgogbpkcceadbaaGreatDoor.Pk
set_option linter.unusedVariables false

theorem store_u8 {w : World} {a : Addr} {old : Value} (x : Int) (h : w.cell? a = some old) (hf : w.frozen? a = false) : (stK 5 a (.int .u8 x)).run Tryz.prog w = .ok () (w.setCell a (.int .u8 x)) := by
  simp [stK, storeVar, Sem.run_bind, go_sem, h, hf]
theorem store_u16 {w : World} {a : Addr} {old : Value} (x : Int) (h : w.cell? a = some old) (hf : w.frozen? a = false) : (stK 23 a (.int .u16 x)).run Tryz.prog w = .ok () (w.setCell a (.int .u16 x)) := by
  simp [stK, storeVar, Sem.run_bind, go_sem, h, hf]
theorem store_u32 {w : World} {a : Addr} {old : Value} (x : Int) (h : w.cell? a = some old) (hf : w.frozen? a = false) : (stK 28 a (.int .u32 x)).run Tryz.prog w = .ok () (w.setCell a (.int .u32 x)) := by
  simp [stK, storeVar, Sem.run_bind, go_sem, h, hf]
theorem load_bool {w : World} {a : Addr} {v : Value} (h : w.cell? a = some v) : (ldK 4 a).run Tryz.prog w = .ok v w := by
  simp [ldK, loadVar, Sem.run_bind, isAgg, run_underlying Tryz.underlying4, go_sem, h]
theorem load_rd {w : World} {a : Addr} {v : Value} (h : w.cell? a = some v) : (ldK 104 a).run Tryz.prog w = .ok v w := by
  simp [ldK, loadVar, Sem.run_bind, isAgg, run_underlying Tryz.underlying104, go_sem, h]
def zeroO : O := ⟨0, 0, 0, 0, 0, 0, 0, List.replicate 16 0⟩
theorem zeroVec : IsVec (List.replicate 16 0) := ⟨by simp, fun x hx => by rw [(List.mem_replicate.1 hx).2]; exact Nat.zero_le _⟩
theorem okZeroO : OkO zeroO := ⟨Nat.zero_le _, Nat.zero_le _, Nat.zero_le _, Nat.zero_le _, Nat.zero_le _, Nat.zero_le _, Nat.zero_le _, zeroVec⟩
theorem OpAt.kept {w w' : World} {g : Nat} {o : O} {r : Option Nat} (h : OpAt w g o) (hg : w.grownBy w' r) (hne : some g ≠ r) : OpAt w' g o :=
  ⟨h.ok, by rw [hg.block g h.lt hne]; exact h.row⟩
theorem OpAt.fz {w : World} {g : Nat} {o : O} (h : OpAt w g o) (k : Nat) : w.frozen? ⟨g, k, none⟩ = false := by simp [World.frozen?, h.row]
structure DecAt (w0 w : World) (r0 g t ov : Nat) (o : O) (rest : List Nat) : Prop where
  res : OpAt w r0 zeroO
  tk : TkAt w t g
  op : OpAt w ov o
  rd : ∃ A c, RrAt w g A c rest
  blw : Below w0.heap.size w0 w
  h0 : w0.heap.size ≤ r0
  h1 : r0 < g
  h2 : g < t
  h3 : t < ov
theorem DecAt.kept {w0 w w' : World} {r0 g t ov : Nat} {o : O} {rest rest' : List Nat} (h : DecAt w0 w r0 g t ov o rest) (hg : w.grownBy w' (some g)) (hr : ∃ A c, RrAt w' g A c rest') : DecAt w0 w' r0 g t ov o rest' := by
  have h0 := h.h0
  have h1 := h.h1
  have h2 := h.h2
  have h3 := h.h3
  exact ⟨h.res.kept hg (fun e => by injection e; omega), h.tk.grown hg (fun e => by injection e; omega), h.op.kept hg (fun e => by injection e; omega), hr, h.blw.grown hg h.blw.size (fun k hk => by injection hk; omega), h0, h1, h2, h3⟩
theorem DecAt.num {w0 w : World} {r0 g t ov : Nat} {o : O} {rest : List Nat} {n b : Nat} (h : DecAt w0 w r0 g t ov o (enc n ++ rest)) (hb : b ≤ 32) (hn : n < 2 ^ b) :
    Calls Tryz.prog 78 #[.pointer (some ⟨t, 0, none⟩), .int .i64 (b : Int)] w fun e w' => e = .returned (.int .u64 (n : Int)) ∧ DecAt w0 w' r0 g t ov o rest := by
  obtain ⟨A, c, hr⟩ := h.rd
  refine (tknum_any t g c n b A rest w h.tk (Nat.ne_of_gt h.h2) hr hb hn).mono ?_
  rintro e w' ⟨he, h1, h2⟩
  exact ⟨he, h.kept h2 h1⟩
theorem DecAt.set {w0 w : World} {r0 g t ov : Nat} {o o' : O} {rest : List Nat} {j : Nat} {v : Value} (h : DecAt w0 w r0 g t ov o rest) (ho : OkO o') (he : (opA o).toArray.setIfInBounds j v = (opA o').toArray) :
    DecAt w0 (w.setCell ⟨ov, j, none⟩ v) r0 g t ov o' rest := by
  have h0 := h.h0
  have h1 := h.h1
  have h2 := h.h2
  have h3 := h.h3
  have hg := grown_setCell w ov j v
  obtain ⟨A, c, hr⟩ := h.rd
  refine ⟨h.res.kept hg (fun e => by injection e; omega), h.tk.grown hg (fun e => by injection e; omega), ⟨ho, ?_⟩, ⟨A, c, hr.grown hg (by omega)⟩, h.blw.setCell (p := ⟨ov, j, none⟩) (by show _ ≤ ov; omega) v, h0, h1, h2, h3⟩
  rw [setCell_eq_setRow w ov j _ _ _ _ h.op.row, setRow_heap w ov _ _ _ _ h.op.row, he]
theorem setCells_grown (b : Nat) : ∀ (vs : List Value) (o : Nat) (w : World), w.grownBy (w.setCells b o vs) (some b)
  | [], _, w => ⟨rfl, rfl, rfl, Nat.le_refl _, fun _ _ _ => rfl⟩
  | v :: r, o, w => by
    have h := setCells_grown b r (o + 1) (w.setCell ⟨b, o, none⟩ v)
    have h1 : w.grownBy (w.setCell ⟨b, o, none⟩ v) (some b) := by
      refine ⟨rfl, rfl, rfl, by simp, fun k hk hne => ?_⟩
      have hne' : k ≠ b := fun e => hne (by rw [e])
      simp [World.setCell, Array.getElem?_modify, Ne.symm hne']
    unfold World.setCells
    exact ⟨h.os.trans h1.os, h.tape.trans h1.tape, h.output.trans h1.output, Nat.le_trans h1.size h.size, fun k hk hne => (h.block k (Nat.lt_of_lt_of_le hk h1.size) hne).trans (h1.block k hk hne)⟩
theorem setCells_tail (g : Nat) (t : TypeId) : ∀ (vs : List Value) (i : Nat) (cur : Array Value) (w : World), w.heap[g]? = some (.cells cur t (0, 0)) → i + vs.length = cur.size →
    (w.setCells g i vs).heap[g]? = some (.cells (cur.toList.take i ++ vs).toArray t (0, 0))
  | [], i, cur, w, hg, hl => by
    have : cur.toList.take i = cur.toList := List.take_of_length_le (by simp at hl ⊢; omega)
    rw [this]
    simpa [World.setCells] using hg
  | v :: vs, i, cur, w, hg, hl => by
    rw [List.length_cons] at hl
    have h1 : (w.setCell ⟨g, i, none⟩ v).heap[g]? = some (.cells (cur.setIfInBounds i v) t (0, 0)) := by
      rw [setCell_eq_setRow w g i _ _ _ _ hg, setRow_heap w g _ _ _ _ hg]
    have h2 := setCells_tail g t vs (i + 1) (cur.setIfInBounds i v) (w.setCell ⟨g, i, none⟩ v) h1 (by simp; omega)
    have h3 : (cur.setIfInBounds i v).toList.take (i + 1) = cur.toList.take i ++ [v] := by
      have hi : i < (cur.toList.set i v).length := by simp; omega
      rw [Array.toList_setIfInBounds, List.take_succ_eq_append_getElem hi, List.getElem_set_self, List.take_set_of_le (Nat.le_refl i)]
    rw [h3] at h2
    unfold World.setCells
    rw [h2]
    simp
theorem DecAt.below {w0 w w' : World} {r0 g t ov : Nat} {o : O} {rest : List Nat} (h : DecAt w0 w r0 g t ov o rest) (hb : Below w.heap.size w w') : DecAt w0 w' r0 g t ov o rest := by
  obtain ⟨A, c, hr⟩ := h.rd
  exact ⟨h.res.below hb, h.tk.grown (grown_none hb) (by simp), h.op.below hb, ⟨A, c, hr.below hb⟩, h.blw.trans (hb.mono h.blw.size), h.h0, h.h1, h.h2, h.h3⟩
/-- The context is stored. -/
theorem DecAt.ctx {w0 w : World} {r0 g t ov x0 x1 x2 x3 x4 x5 x6 : Nat} {X : List Nat} {rest : List Nat} (h : DecAt w0 w r0 g t ov ⟨x0, x1, x2, x3, x4, x5, x6, List.replicate 16 0⟩ rest) (hv : IsVec X) (ho : OkO ⟨x0, x1, x2, x3, x4, x5, x6, X⟩) :
    (stK 32 ⟨ov, 7, none⟩ (.agg (vecA X))).run Tryz.prog w = .ok () (w.setCells ov 7 (vecA X).toList) ∧
    OpAt (w.setCells ov 7 (vecA X).toList) ov ⟨x0, x1, x2, x3, x4, x5, x6, X⟩ ∧ OpAt (w.setCells ov 7 (vecA X).toList) r0 zeroO ∧ Below w0.heap.size w0 (w.setCells ov 7 (vecA X).toList) := by
  have h0 := h.h0
  have h1 := h.h1
  have h2 := h.h2
  have h3 := h.h3
  have hg := setCells_grown ov (vecA X).toList 7 w
  have hl : (vecA X).size = 16 := by rw [vecA_size, hv.len]
  refine ⟨run_storeVar_mid w ov 7 32 (vecA X) (fun j hj => ⟨?_, h.op.fz _⟩) (by rw [hl]; kernel_rfl) (by simp [vecA, Value.oneCell']), ⟨ho, ?_⟩, h.res.kept hg (fun e => by injection e; omega), h.blw.grown hg h.blw.size (fun k hk => by injection hk; omega)⟩
  · rw [h.op.cell, List.getElem?_eq_getElem (by rw [opA_length h.op.ok]; omega)]
    rfl
  · rw [setCells_tail ov 34 _ 7 _ w h.op.row (by rw [List.size_toArray, opA_length h.op.ok, Array.length_toList, hl])]
    rfl
end Go.Proofs.YtgogbpkcceadbaaGreatDoor.Vc
namespace Go.Proofs.YtgogbpkcceadbaaGreatDoor.Vc
open Go.RowKit Go.Proofs.YtgogbpkcceadbaaGreatDoor.Wd Go.Proofs.YtgogbpkcceadbaaGreatDoor.VintP Go.Proofs.YtgogbpkcceadbaaGreatDoor.VintW Go.Proofs.YtgogbpkcceadbaaGreatDoor.Pk
set_option linter.unusedVariables false
attribute [local go_sem ↓] ldKx stKx

theorem encOp_rest (x0 x1 x2 x3 x4 x5 x6 : Nat) (X : List Nat) : encOp ⟨x0, x1, x2, x3, x4, x5, x6, X⟩ = enc x0 ++ (enc x1 ++ (enc x2 ++ (enc x3 ++ (enc x4 ++ (enc x5 ++ (enc x6 ++ (enc (encV X).length ++ (encV X ++ [])))))))) := by
  simp [encOp, nums, cat]
set_option maxHeartbeats 8000000 in
set_option maxRecDepth 100000 in
theorem decode_any (o : O) (ho : OkO o) (hr : RightO o) (m c : Nat) (A : Option Addr) (w : World) (hx : RdB w A m (encOp o)) (hm : m ≤ 65536) :
    Calls Tryz.prog 59 #[.slice A m c] w fun e w' => e = .returned (.tuple #[.agg (opA o).toArray, .int .i64 0]) ∧ Below w.heap.size w w' := by
  obtain ⟨x0, x1, x2, x3, x4, x5, x6, X⟩ := o
  have HO := Lib.hid ho
  have HRT := Lib.hid hr
  rw [encOp_rest] at hx
  have b0 : x0 ≤ 255 := ho.rep
  have b1 : x1 ≤ 4294967295 := ho.seq
  have b2 : x2 ≤ 255 := ho.kind
  have b3 : x3 ≤ 65535 := ho.cart
  have b4 : x4 ≤ 65535 := ho.item
  have b5 : x5 ≤ 65535 := ho.qty
  have b6 : x6 ≤ 4294967295 := ho.tick
  have hv : IsVec X := ho.ctx
  have HR := Lib.hid hx
  have HV := Lib.hid hv
  have HM := Lib.hid hm
  have hz : OpAt (w.alloc (.cells #[.int .u8 0, .int .u32 0, .int .u8 0, .int .u16 0, .int .u16 0, .int .u16 0, .int .u32 0, .int .u32 0, .int .u32 0, .int .u32 0, .int .u32 0, .int .u32 0, .int .u32 0, .int .u32 0, .int .u32 0, .int .u32 0, .int .u32 0, .int .u32 0, .int .u32 0, .int .u32 0, .int .u32 0, .int .u32 0, .int .u32 0] 34)) w.heap.size zeroO := ⟨okZeroO, heap_alloc_new w _⟩
  have hb : Below w.heap.size w (w.alloc (.cells #[.int .u8 0, .int .u32 0, .int .u8 0, .int .u16 0, .int .u16 0, .int .u16 0, .int .u32 0, .int .u32 0, .int .u32 0, .int .u32 0, .int .u32 0, .int .u32 0, .int .u32 0, .int .u32 0, .int .u32 0, .int .u32 0, .int .u32 0, .int .u32 0, .int .u32 0, .int .u32 0, .int .u32 0, .int .u32 0, .int .u32 0] 34)) := (Below.refl _ _).alloc (Nat.le_refl _) _
  have HZ := Lib.hid hz
  have HB := Lib.hid hb
  clear ho hr hx hv hm hz hb
  go_enter Tryz.func59, Tryz.ntmps59
  go_wp2_with fail
  generalize w.alloc (.cells #[.int .u8 0, .int .u32 0, .int .u8 0, .int .u16 0, .int .u16 0, .int .u16 0, .int .u32 0, .int .u32 0, .int .u32 0, .int .u32 0, .int .u32 0, .int .u32 0, .int .u32 0, .int .u32 0, .int .u32 0, .int .u32 0, .int .u32 0, .int .u32 0, .int .u32 0, .int .u32 0, .int .u32 0, .int .u32 0, .int .u32 0] 34) = w1 at *
  refine (read_any m c A _ w1 (HR.out.below HB.out) HM.out).mono ?_
  rintro e w2 ⟨g, A2, c2, rfl, hg, hr2, hb2⟩
  have hd : DecAt w ((w2.alloc (.cells #[.pointer (some ⟨g, 0, none⟩), .bool false] 133)).alloc (.cells #[.int .u8 0, .int .u32 0, .int .u8 0, .int .u16 0, .int .u16 0, .int .u16 0, .int .u32 0, .int .u32 0, .int .u32 0, .int .u32 0, .int .u32 0, .int .u32 0, .int .u32 0, .int .u32 0, .int .u32 0, .int .u32 0, .int .u32 0, .int .u32 0, .int .u32 0, .int .u32 0, .int .u32 0, .int .u32 0, .int .u32 0] 34)) w.heap.size g w2.heap.size (w2.heap.size + 1) ⟨0, 0, 0, 0, 0, 0, 0, List.replicate 16 0⟩ (enc x0 ++ (enc x1 ++ (enc x2 ++ (enc x3 ++ (enc x4 ++ (enc x5 ++ (enc x6 ++ (enc (encV X).length ++ (encV X ++ []))))))))) := by
    have h1 := HZ.out.lt
    have h2 := hr2.lt
    have e3 : Below w2.heap.size w2 ((w2.alloc (.cells #[.pointer (some ⟨g, 0, none⟩), .bool false] 133)).alloc (.cells #[.int .u8 0, .int .u32 0, .int .u8 0, .int .u16 0, .int .u16 0, .int .u16 0, .int .u32 0, .int .u32 0, .int .u32 0, .int .u32 0, .int .u32 0, .int .u32 0, .int .u32 0, .int .u32 0, .int .u32 0, .int .u32 0, .int .u32 0, .int .u32 0, .int .u32 0, .int .u32 0, .int .u32 0, .int .u32 0, .int .u32 0] 34)) := ((Below.refl _ _).alloc (Nat.le_refl _) _).alloc (by simp) _
    have hs := HB.out.size
    refine ⟨(HZ.out.below hb2).below e3, ?_, ⟨okZeroO, ?_⟩, ⟨A2, c2, hr2.below e3⟩, (HB.out.trans (hb2.mono HB.out.size)).trans (e3.mono (Nat.le_trans hs hb2.size)), Nat.le_refl _, by omega, h2, by omega⟩
    · unfold TkAt
      have e4 : Below (w2.heap.size + 1) (w2.alloc (.cells #[.pointer (some ⟨g, 0, none⟩), .bool false] 133)) ((w2.alloc (.cells #[.pointer (some ⟨g, 0, none⟩), .bool false] 133)).alloc (.cells #[.int .u8 0, .int .u32 0, .int .u8 0, .int .u16 0, .int .u16 0, .int .u16 0, .int .u32 0, .int .u32 0, .int .u32 0, .int .u32 0, .int .u32 0, .int .u32 0, .int .u32 0, .int .u32 0, .int .u32 0, .int .u32 0, .int .u32 0, .int .u32 0, .int .u32 0, .int .u32 0, .int .u32 0, .int .u32 0, .int .u32 0] 34)) := (Below.refl _ _).alloc (by simp) _
      rw [e4.block _ (Nat.lt_succ_self _)]
      exact heap_alloc_new w2 _
    · have e5 := heap_alloc_new (w2.alloc (.cells #[.pointer (some ⟨g, 0, none⟩), .bool false] 133)) (.cells #[.int .u8 0, .int .u32 0, .int .u8 0, .int .u16 0, .int .u16 0, .int .u16 0, .int .u32 0, .int .u32 0, .int .u32 0, .int .u32 0, .int .u32 0, .int .u32 0, .int .u32 0, .int .u32 0, .int .u32 0, .int .u32 0, .int .u32 0, .int .u32 0, .int .u32 0, .int .u32 0, .int .u32 0, .int .u32 0, .int .u32 0] 34)
      rw [show (w2.alloc (.cells #[.pointer (some ⟨g, 0, none⟩), .bool false] 133)).heap.size = w2.heap.size + 1 by simp] at e5
      exact e5
  have HD := Lib.hid hd
  clear hd hr2 hb2 hg HZ HB HR HM
  go_wp2_with fail
  generalize hw3 : (w2.alloc (.cells #[.pointer (some ⟨g, 0, none⟩), .bool false] 133)).alloc (.cells #[.int .u8 0, .int .u32 0, .int .u8 0, .int .u16 0, .int .u16 0, .int .u16 0, .int .u32 0, .int .u32 0, .int .u32 0, .int .u32 0, .int .u32 0, .int .u32 0, .int .u32 0, .int .u32 0, .int .u32 0, .int .u32 0, .int .u32 0, .int .u32 0, .int .u32 0, .int .u32 0, .int .u32 0, .int .u32 0, .int .u32 0] 34) = w3 at *
  clear hw3
  generalize w2.heap.size + 1 = V at *
  generalize w2.heap.size = T at *
  refine (HD.out.num (n := x0) (b := 8) (by omega) (by omega)).mono ?_
  rintro e y0 ⟨rfl, hd⟩
  have hc : y0.cell? ⟨V, 0, none⟩ = some (.int .u8 0) := by rw [hd.op.cell]; rfl
  have sv := store_u8 (x0 : Int) hc (hd.op.fz 0)
  have v0 : IntKind.u8.wrap (x0 : Int) = (x0 : Int) := by rw [IntKind.wrap_u8]; omega
  have hd2 := hd.set (j := 0) (v := .int .u8 (x0 : Int)) (o' := ⟨x0, 0, 0, 0, 0, 0, 0, List.replicate 16 0⟩) ⟨b0, Nat.zero_le _, Nat.zero_le _, Nat.zero_le _, Nat.zero_le _, Nat.zero_le _, Nat.zero_le _, zeroVec⟩ rfl
  have HD := Lib.hid hd2
  clear hd hd2 hc
  go_wp2_with fail
  generalize y0.setCell ⟨V, 0, none⟩ (.int .u8 (x0 : Int)) = z0 at *
  clear sv v0
  refine (HD.out.num (n := x1) (b := 32) (by omega) (by omega)).mono ?_
  rintro e y1 ⟨rfl, hd⟩
  have hc : y1.cell? ⟨V, 1, none⟩ = some (.int .u32 0) := by rw [hd.op.cell]; rfl
  have sv := store_u32 (x1 : Int) hc (hd.op.fz 1)
  have v1 : IntKind.u32.wrap (x1 : Int) = (x1 : Int) := by rw [IntKind.wrap_u32]; omega
  have hd2 := hd.set (j := 1) (v := .int .u32 (x1 : Int)) (o' := ⟨x0, x1, 0, 0, 0, 0, 0, List.replicate 16 0⟩) ⟨b0, b1, Nat.zero_le _, Nat.zero_le _, Nat.zero_le _, Nat.zero_le _, Nat.zero_le _, zeroVec⟩ rfl
  have HD := Lib.hid hd2
  clear hd hd2 hc
  go_wp2_with fail
  generalize y1.setCell ⟨V, 1, none⟩ (.int .u32 (x1 : Int)) = z1 at *
  clear sv v1
  refine (HD.out.num (n := x2) (b := 8) (by omega) (by omega)).mono ?_
  rintro e y2 ⟨rfl, hd⟩
  have hc : y2.cell? ⟨V, 2, none⟩ = some (.int .u8 0) := by rw [hd.op.cell]; rfl
  have sv := store_u8 (x2 : Int) hc (hd.op.fz 2)
  have v2 : IntKind.u8.wrap (x2 : Int) = (x2 : Int) := by rw [IntKind.wrap_u8]; omega
  have hd2 := hd.set (j := 2) (v := .int .u8 (x2 : Int)) (o' := ⟨x0, x1, x2, 0, 0, 0, 0, List.replicate 16 0⟩) ⟨b0, b1, b2, Nat.zero_le _, Nat.zero_le _, Nat.zero_le _, Nat.zero_le _, zeroVec⟩ rfl
  have HD := Lib.hid hd2
  clear hd hd2 hc
  go_wp2_with fail
  generalize y2.setCell ⟨V, 2, none⟩ (.int .u8 (x2 : Int)) = z2 at *
  clear sv v2
  refine (HD.out.num (n := x3) (b := 16) (by omega) (by omega)).mono ?_
  rintro e y3 ⟨rfl, hd⟩
  have hc : y3.cell? ⟨V, 3, none⟩ = some (.int .u16 0) := by rw [hd.op.cell]; rfl
  have sv := store_u16 (x3 : Int) hc (hd.op.fz 3)
  have v3 : IntKind.u16.wrap (x3 : Int) = (x3 : Int) := by rw [IntKind.wrap_u16]; omega
  have hd2 := hd.set (j := 3) (v := .int .u16 (x3 : Int)) (o' := ⟨x0, x1, x2, x3, 0, 0, 0, List.replicate 16 0⟩) ⟨b0, b1, b2, b3, Nat.zero_le _, Nat.zero_le _, Nat.zero_le _, zeroVec⟩ rfl
  have HD := Lib.hid hd2
  clear hd hd2 hc
  go_wp2_with fail
  generalize y3.setCell ⟨V, 3, none⟩ (.int .u16 (x3 : Int)) = z3 at *
  clear sv v3
  refine (HD.out.num (n := x4) (b := 16) (by omega) (by omega)).mono ?_
  rintro e y4 ⟨rfl, hd⟩
  have hc : y4.cell? ⟨V, 4, none⟩ = some (.int .u16 0) := by rw [hd.op.cell]; rfl
  have sv := store_u16 (x4 : Int) hc (hd.op.fz 4)
  have v4 : IntKind.u16.wrap (x4 : Int) = (x4 : Int) := by rw [IntKind.wrap_u16]; omega
  have hd2 := hd.set (j := 4) (v := .int .u16 (x4 : Int)) (o' := ⟨x0, x1, x2, x3, x4, 0, 0, List.replicate 16 0⟩) ⟨b0, b1, b2, b3, b4, Nat.zero_le _, Nat.zero_le _, zeroVec⟩ rfl
  have HD := Lib.hid hd2
  clear hd hd2 hc
  go_wp2_with fail
  generalize y4.setCell ⟨V, 4, none⟩ (.int .u16 (x4 : Int)) = z4 at *
  clear sv v4
  refine (HD.out.num (n := x5) (b := 16) (by omega) (by omega)).mono ?_
  rintro e y5 ⟨rfl, hd⟩
  have hc : y5.cell? ⟨V, 5, none⟩ = some (.int .u16 0) := by rw [hd.op.cell]; rfl
  have sv := store_u16 (x5 : Int) hc (hd.op.fz 5)
  have v5 : IntKind.u16.wrap (x5 : Int) = (x5 : Int) := by rw [IntKind.wrap_u16]; omega
  have hd2 := hd.set (j := 5) (v := .int .u16 (x5 : Int)) (o' := ⟨x0, x1, x2, x3, x4, x5, 0, List.replicate 16 0⟩) ⟨b0, b1, b2, b3, b4, b5, Nat.zero_le _, zeroVec⟩ rfl
  have HD := Lib.hid hd2
  clear hd hd2 hc
  go_wp2_with fail
  generalize y5.setCell ⟨V, 5, none⟩ (.int .u16 (x5 : Int)) = z5 at *
  clear sv v5
  refine (HD.out.num (n := x6) (b := 32) (by omega) (by omega)).mono ?_
  rintro e y6 ⟨rfl, hd⟩
  have hc : y6.cell? ⟨V, 6, none⟩ = some (.int .u32 0) := by rw [hd.op.cell]; rfl
  have sv := store_u32 (x6 : Int) hc (hd.op.fz 6)
  have v6 : IntKind.u32.wrap (x6 : Int) = (x6 : Int) := by rw [IntKind.wrap_u32]; omega
  have hd2 := hd.set (j := 6) (v := .int .u32 (x6 : Int)) (o' := ⟨x0, x1, x2, x3, x4, x5, x6, List.replicate 16 0⟩) ⟨b0, b1, b2, b3, b4, b5, b6, zeroVec⟩ rfl
  have HD := Lib.hid hd2
  clear hd hd2 hc
  have lr := load_rd (show (y6.setCell ⟨V, 6, none⟩ (.int .u32 (x6 : Int))).cell? ⟨T, 0, none⟩ = some (.pointer (some ⟨g, 0, none⟩)) from by rw [cell_of_row _ T 0 _ _ _ HD.out.tk]; rfl)
  go_wp2_with fail
  generalize y6.setCell ⟨V, 6, none⟩ (.int .u32 (x6 : Int)) = z6 at *
  clear sv v6
  obtain ⟨A7, c7, h7⟩ := HD.out.rd
  have q := rbytes_ok g c7 A7 (encV X) [] z6 h7 (by have := encV_length X; omega)
  have Q := Lib.hid q
  clear q h7
  refine Q.out.mono ?_
  rintro e u ⟨⟨v8, rfl, ho8⟩, hr8, hg8⟩
  have hd8 := HD.out.kept hg8 hr8
  obtain ⟨A8, k8, rfl, hk8, hrd8⟩ := ho8.rd
  have s0 : u.cell? ⟨T, 0, none⟩ = some (.pointer (some ⟨g, 0, none⟩)) := by rw [cell_of_row u T 0 _ _ _ hd8.tk]; rfl
  have s1 : u.cell? ⟨T, 1, none⟩ = some (.bool false) := by rw [cell_of_row u T 1 _ _ _ hd8.tk]; rfl
  have lr8 := load_rd s0
  have lb8 := load_bool s1
  obtain ⟨A9, c9, h9⟩ := hd8.rd
  have q := done_ok g c9 A9 [] u h9
  rw [show decide (([] : List Nat).length = 0) = true from rfl] at q
  have q2 := vdecode_any X HV.out (encV X).length k8 A8 u hrd8
  generalize (encV X).length = m8 at *
  have Q8 := Lib.hid q
  have Q9 := Lib.hid q2
  have HD8 := Lib.hid hd8
  clear q q2 hd8 h9 s0 s1 hrd8 ho8 hr8 hg8 lr Q
  go_wp2_with fail
  refine Q8.out.mono ?_
  rintro e u' ⟨rfl, rfl⟩
  go_wp2_with fail
  refine Q9.out.mono ?_
  rintro e y ⟨rfl, hby⟩
  obtain ⟨sv, hop, hres, hbl⟩ := (HD8.out.below hby).ctx HV.out HO.out
  have ld := hop.loads
  have Q10 := Lib.hid (fun W => right_any _ HO.out HRT.out W)
  have HOP := Lib.hid hop
  have HRES := Lib.hid hres
  have HBL := Lib.hid hbl
  clear hop hres hbl hby lr8 lb8 Q8 Q9
  go_wp2_with fail
  generalize y.setCells V 7 (vecA X).toList = y2 at *
  refine (Q10.out _).mono ?_
  rintro e y3 ⟨rfl, hg3⟩
  have hop3 := HOP.out.below hg3.below
  have hres3 := HRES.out.below hg3.below
  have ld3 := hop3.loads
  have hbl3 := HBL.out.trans (hg3.below.mono HBL.out.size)
  have sr3 : (stK 34 ⟨w.heap.size, 0, none⟩ (.agg (opA ⟨x0, x1, x2, x3, x4, x5, x6, X⟩).toArray)).run Tryz.prog y3 = .ok () (y3.setRow w.heap.size (opA ⟨x0, x1, x2, x3, x4, x5, x6, X⟩).toArray) :=
    run_storeVar_row y3 w.heap.size 34 34 _ _ hres3.row (by rw [List.size_toArray, opA_length HO.out]; kernel_rfl) (by rw [List.size_toArray, List.size_toArray, opA_length HO.out, opA_length okZeroO]) (by simp [opA, Value.oneCell'])
  have HROW := Lib.hid (show (y3.setRow w.heap.size (opA ⟨x0, x1, x2, x3, x4, x5, x6, X⟩).toArray).heap[w.heap.size]? = some (.cells (opA ⟨x0, x1, x2, x3, x4, x5, x6, X⟩).toArray 34 (0, 0)) from setRow_heap y3 _ _ _ _ _ hres3.row)
  have HBF := Lib.hid (show Below w.heap.size w (y3.setRow w.heap.size (opA ⟨x0, x1, x2, x3, x4, x5, x6, X⟩).toArray) from hbl3.grown (row := some w.heap.size) ⟨rfl, rfl, rfl, by simp [World.setRow], fun j _ hne => setRow_other y3 _ j _ (fun e => hne (by rw [e]))⟩ hbl3.size (fun j hj => by injection hj with hj; omega))
  have HLN := Lib.hid (opA_length HO.out)
  clear hop3 hres3 hbl3 ld sv
  go_wp2_with fail
  refine bodyPost_ret (v := .tuple #[.agg (opA ⟨x0, x1, x2, x3, x4, x5, x6, X⟩).toArray, .int .i64 0]) ?_ rfl ⟨rfl, HBF.out⟩
  exact results_cell_row2 Tryz.results59 _ _ w.heap.size 34 _ (0, 0) _ _ rfl rfl HROW.out Tryz.underlying34 rfl (by rw [List.size_toArray, HLN.out]; kernel_rfl)
end Go.Proofs.YtgogbpkcceadbaaGreatDoor.Vc
