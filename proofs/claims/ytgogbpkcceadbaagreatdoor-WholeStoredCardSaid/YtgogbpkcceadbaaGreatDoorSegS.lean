/-
  segment.Scan of a segment's bytes.
-/
import Derived.Test.YtgogbpkcceadbaaGreatDoorRowsM
import Derived.Great.Walk
namespace Go.Proofs.YtgogbpkcceadbaaGreatDoor.Sg
open Go.RowKit Go.Proofs.YtgogbpkcceadbaaGreatDoor.Wd Go.Proofs.YtgogbpkcceadbaaGreatDoor.VintP Go.Proofs.YtgogbpkcceadbaaGreatDoor.VintW Go.Proofs.YtgogbpkcceadbaaGreatDoor.Pk Go.Proofs.YtgogbpkcceadbaaGreatDoor.Vc Go.Proofs.YtgogbpkcceadbaaGreatDoor.CrcW Go.Proofs.YtgogbpkcceadbaaGreatDoor.FrameP Go.Proofs.YtgogbpkcceadbaaGreatDoor.FrameW
set_option linter.unusedVariables false

theorem first_head (id : Nat) (l : List OpN) (s : Bool) : first (segB id l s) = (enc 1 ++ enc id, (headB id).length, 0) :=
  first_wrap (by have := (enc_length 1).2; have := (enc_length id).2; rw [List.length_append]; omega) _
theorem isO {w : World} {B : Nat} {v : Value} {l : List OpN} (h : OwnO w B v l) : ∃ A n c, v = .slice A n c := by
  obtain ⟨A, c, e⟩ := h.sl
  exact ⟨A, _, c, e⟩
theorem isI {w : World} {B : Nat} {v : Value} {l : List Nat} (h : OwnI w B v l) : ∃ A n c, v = .slice A n c := by
  obtain ⟨A, c, e, _, _⟩ := h.rd
  exact ⟨A, _, c, e⟩
/-- What a segment is told to be. -/
def GivesI (w : World) (id : Nat) (s : Bool) (m : Nat) (l : List OpN) (e : Ending) (w' : World) : Prop :=
  ∃ vo va, e = .returned (.tuple #[.agg #[.int .u32 (id : Int), vo, va, .bool s, .int .i64 (m : Int)], .int .i64 0]) ∧ OwnO w' w.heap.size vo l ∧ Below w.heap.size w w' ∧ ∃ A n c, va = .slice A n c
set_option maxHeartbeats 8000000 in
set_option maxRecDepth 100000 in
theorem scan_any (id : Nat) (l : List OpN) (s : Bool) (hid : id ≤ 4294967295) (h0 : 0 < l.length) (hl : l.length ≤ 100) (hrt : ∀ o ∈ l, RightO o.1) (m c : Nat) (A : Option Addr) (w : World) (hx : RdB w A m (segB id l s)) (hc : m ≤ c) (ht : Tab w) :
    Calls Tryz.prog 11 #[.slice A m c] w (GivesI w id s m l) := by
  have hb : Below w.heap.size w (w.alloc (.cells #[.int .u32 0, .slice none 0 0, .slice none 0 0, .bool false, .int .i64 0] 47)) := (Below.refl _ _).alloc (Nat.le_refl _) _
  have hz : (w.alloc (.cells #[.int .u32 0, .slice none 0 0, .slice none 0 0, .bool false, .int .i64 0] 47)).heap[w.heap.size]? = some (.cells #[.int .u32 0, .slice none 0 0, .slice none 0 0, .bool false, .int .i64 0] 47 (0, 0)) := heap_alloc_new w _
  have HXB := Lib.hid hx
  have HTB := Lib.hid ht
  have HX := Lib.hid (hx.below hb)
  have HT := Lib.hid (ht.below hb)
  have HB := Lib.hid hb
  have HZ := Lib.hid hz
  have HID := Lib.hid hid
  have HL := Lib.hid hl
  have H0 := Lib.hid h0
  have HRT := Lib.hid hrt
  have hfit := hx.fits
  have HM := Lib.hid hx.len
  clear hx ht hb hz hid hl h0 hrt
  go_enter Tryz.func11, Tryz.ntmps11
  go_wp2_with fail
  generalize w.alloc (.cells #[.int .u32 0, .slice none 0 0, .slice none 0 0, .bool false, .int .i64 0] 47) = w1 at *
  obtain ⟨U, hU⟩ : ∃ U, U = (headB id).length := ⟨_, rfl⟩
  have hUl : U ≤ 400 := by rw [hU]; exact Nat.le_trans (wrap_le (b := enc 1 ++ enc id) (by have := (enc_length 1).2; have := (enc_length id).2; rw [List.length_append]; omega)) (by decide)
  have q : Calls Tryz.prog 27 #[.slice A m c] w1 fun e w' => ∃ v, e = .returned (.tuple #[v, .int .i64 (U : Int), .int .i64 0]) ∧ OwnB w' w1.heap.size v (enc 1 ++ enc id) ∧ Below w1.heap.size w1 w' := by
    have := first_any m c A _ w1 hc HX.out HT.out
    rw [first_head, ← hU] at this
    exact this
  have HU := Lib.hid hU
  clear hU
  refine q.mono ?_
  rintro e w2 ⟨v2, rfl, ho2, hb2⟩
  clear q
  obtain ⟨A2, k2, rfl, hk2, hrd2⟩ := ho2.rd
  have hbl : (enc 1 ++ enc id).length ≤ 20 := by have := (enc_length 1).2; have := (enc_length id).2; rw [List.length_append]; omega
  have Q3 := Lib.hid (number_ok 1 id _ k2 A2 w2 hrd2 (by omega) (by omega) (by have := HID.out; omega))
  have HB2 := Lib.hid (HB.out.trans (hb2.mono HB.out.size))
  have HX2 := Lib.hid (HX.out.below hb2)
  have HT2 := Lib.hid (HT.out.below hb2)
  have hz2 : w2.heap[w.heap.size]? = some (.cells #[.int .u32 0, .slice none 0 0, .slice none 0 0, .bool false, .int .i64 0] 47 (0, 0)) := by rw [hb2.block _ (Array.getElem?_eq_some_iff.1 HZ.out).1]; exact HZ.out
  have HZ2 := Lib.hid hz2
  generalize (enc 1 ++ enc id).length = m2 at *
  clear ho2 hrd2 hb2 hz2 hbl HB HX HT HZ
  go_wp2_with fail
  refine Q3.out.mono ?_
  rintro e w3 ⟨rfl, hb3⟩
  have HB3 := Lib.hid (HB2.out.trans (hb3.mono HB2.out.size))
  have HX3 := Lib.hid (HX2.out.below hb3)
  have HT3 := Lib.hid (HT2.out.below hb3)
  have hz3 : w3.heap[w.heap.size]? = some (.cells #[.int .u32 0, .slice none 0 0, .slice none 0 0, .bool false, .int .i64 0] 47 (0, 0)) := by rw [hb3.block _ (Array.getElem?_eq_some_iff.1 HZ2.out).1]; exact HZ2.out
  have HZ3 := Lib.hid hz3
  have hid := HID.out
  have i1 : ¬ ((id : Int) > 4294967295) := by omega
  have i2 : decide (4294967295 < (id : Int)) = false := decide_eq_false (by omega)
  have wid : IntKind.u32.wrap (id : Int) = (id : Int) := by rw [IntKind.wrap_u32]; omega
  clear hb3 hz3 HB2 HX2 HT2 HZ2 Q3
  go_wp2_with (refine wpList_store_rowTo rfl 47 (.tmp 9) (.tmp 42) rfl rfl w3.heap.size #[.int .u32 (id : Int), .slice none 0 0, .slice none 0 0, .bool false, .int .i64 (U : Int)] rfl rfl 47 _ (heap_alloc_new w3 _) (by kernel_rfl) rfl (by simp [Value.oneCell']) ?_; rw [setCells_alloc_new])
  have hb4 : Below w3.heap.size w3 (w3.alloc (.cells #[.int .u32 (id : Int), .slice none 0 0, .slice none 0 0, .bool false, .int .i64 (U : Int)] 47)) := (Below.refl _ _).alloc (Nat.le_refl _) _
  have HI4 := Lib.hid (show InfAt (w3.alloc (.cells #[.int .u32 (id : Int), .slice none 0 0, .slice none 0 0, .bool false, .int .i64 (U : Int)] 47)) w.heap.size w3.heap.size id (.slice none 0 0) (.slice none 0 0) false U [] [] from
    ⟨HB3.out.size, heap_alloc_new w3 _, OwnO.nil_ _ _, OwnI.nil_ _ _⟩)
  have HB4 := Lib.hid (HB3.out.trans (hb4.mono HB3.out.size))
  have hz4 : (w3.alloc (.cells #[.int .u32 (id : Int), .slice none 0 0, .slice none 0 0, .bool false, .int .i64 (U : Int)] 47)).heap[w.heap.size]? = some (.cells #[.int .u32 0, .slice none 0 0, .slice none 0 0, .bool false, .int .i64 0] 47 (0, 0)) := by rw [hb4.block _ (Array.getElem?_eq_some_iff.1 HZ3.out).1]; exact HZ3.out
  have HZ4 := Lib.hid hz4
  have HXW := Lib.hid (show w.heap.size < w3.heap.size from (Array.getElem?_eq_some_iff.1 HZ3.out).1)
  clear hb4 hz4 HB3 HX3 HT3 HZ3 hid i1 i2 wid
  generalize w3.alloc (.cells #[.int .u32 (id : Int), .slice none 0 0, .slice none 0 0, .bool false, .int .i64 (U : Int)] 47) = w4 at *
  generalize w3.heap.size = X at *
  go_loopw [11] (fun _ wr => ∃ (k u : Nat) (vo va : Value) (sl : Bool) (ats_ : List Nat), k ≤ l.length ∧ Hid (StAt w wr X id vo va sl u (l.take k) ats_) ∧ Hid (ats_.length ≤ k) ∧ Hid ((sl = false ∧ u = U + (recs (l.take k)).length) ∨ (sl = true ∧ k = l.length ∧ s = true ∧ u = m))) (fun _ wr => m + 1 - (match wr.cell? ⟨X, 4, none⟩ with | some v => (intOf v).toNat | none => 0))
  case atStart => exact ⟨0, U, _, _, false, [], Nat.zero_le _, ⟨HI4.out, HB4.out, HZ4.out, HXW.out⟩, Nat.le_refl _, .inl ⟨rfl, rfl⟩⟩
  case round =>
    obtain ⟨k, u, vo, va, sl, ats_, hk, HST, HAL, HCASE⟩ := hrel
    have HI := Lib.hid HST.out.inf
    have HBW := Lib.hid HST.out.blw
    have HZR := Lib.hid HST.out.res
    rcases HCASE.out with ⟨hsl, hu⟩ | ⟨hsl, hkn, hs, hu⟩
    · subst hsl
      have hxw := HXB.out.below HBW.out
      have htw := HTB.out.below HBW.out
      have hml := HM.out
      by_cases hlt : k < l.length
      · have hdr := seg_drop (id := id) (l := l) (s := s) (k := k) (by omega)
        rw [← HU.out, ← hu, List.drop_eq_getElem_cons hlt, recs, List.append_assoc] at hdr
        have hok := (l[k]).2
        have hrt := HRT.out l[k] (List.getElem_mem hlt)
        have hsn : l.take (k + 1) = l.take k ++ [l[k]] := List.take_succ_eq_append_getElem hlt
        have hrs : (recs (l.take (k + 1))).length = (recs (l.take k)).length + (recB l[k].1).length := by rw [hsn, recs_append]; simp [recs]
        generalize l[k] = x at *
        obtain ⟨F, hF⟩ : ∃ F, F = (recB x.1).length := ⟨_, rfl⟩
        have hF4 : 4 ≤ F := by rw [hF]; unfold recB; rw [wrap_length]; omega
        have hdl := congrArg List.length hdr
        rw [List.length_drop, hml, List.length_append, ← hF] at hdl
        have hum : u + F ≤ m := by omega
        obtain ⟨ad, rfl, hcell⟩ := hxw.cell (by omega)
        have hcu : ¬ c = u := by omega
        have hd := hxw.drop (k := u) (cap := c) (by omega) hc
        rw [if_neg hcu, hdr] at hd
        have q : Calls Tryz.prog 27 #[.slice (some (ad.add u)) (m - u) (c - u)] wr fun e w' => ∃ v, e = .returned (.tuple #[v, .int .i64 (F : Int), .int .i64 0]) ∧ OwnB w' wr.heap.size v (enc 2 ++ (enc (encOp x.1).length ++ encOp x.1)) ∧ Below wr.heap.size wr w' := by
          have := first_any (m - u) (c - u) (some (ad.add u)) _ wr (by omega) hd htw
          rw [show recB x.1 = wrap (enc 2 ++ (enc (encOp x.1).length ++ encOp x.1)) from rfl, first_wrap (by have := recBody_le x.1; omega), show (wrap (enc 2 ++ (enc (encOp x.1).length ++ encOp x.1))).length = F from hF.symm] at this
          exact this
        have c3 : wr.cell? ⟨X, 3, none⟩ = some (.bool false) := HI.out.c 3
        have c4 : wr.cell? ⟨X, 4, none⟩ = some (.int .i64 (u : Int)) := HI.out.c 4
        have i0 : (0 : Int) ≤ (u : Int) := by omega
        have i1 : (u : Int) ≤ (m : Int) := by omega
        have i2 : (m : Int) ≤ (c : Int) := by omega
        have Q5 := Lib.hid q
        have HSN := Lib.hid hsn
        have HRS := Lib.hid hrs
        have HUU := Lib.hid hu
        have HFF := Lib.hid hF
        have HOK := Lib.hid hok
        have HRTX := Lib.hid hrt
        have HUM := Lib.hid hum
        have HF4 := Lib.hid hF4
        clear hdr hok hrt hsn hrs hF hdl hcell hd q hu hxw htw hml hum HCASE
        go_wp2_with fail
        refine Q5.out.mono ?_
        rintro e w5 ⟨v5, rfl, ho5, hb5⟩
        obtain ⟨A5, k5, rfl, hk5, hrd5⟩ := ho5.rd
        have q6 := operation_ok x.1 HOK.out HRTX.out _ k5 A5 w5 hrd5 (by have := recBody_le x.1; omega)
        generalize (enc 2 ++ (enc (encOp x.1).length ++ encOp x.1)).length = m5 at *
        have HS5 := Lib.hid (HST.out.below hb5)
        have Q6 := Lib.hid q6
        clear ho5 hrd5 q6 hb5 Q5 c3 c4
        go_wp2_with fail
        refine Q6.out.mono ?_
        rintro e w6 ⟨rfl, hb6⟩
        have HS6 := Lib.hid (HS5.out.below hb6)
        have hlo := opA_length HOK.out
        have hb7 : Below w6.heap.size w6 (w6.alloc (.cells (opA x.1).toArray 34)) := (Below.refl _ _).alloc (Nat.le_refl _) _
        have HS7 := Lib.hid (HS6.out.below hb7)
        have HO7 := Lib.hid (OpAt.new w6 HOK.out)
        have HLO := Lib.hid hlo
        clear hb6 hb7 hlo HS5 Q6
        have d1 : (w6.alloc (.cells (opA x.1).toArray 34)).cell? ⟨X, 1, none⟩ = some vo := HS7.out.inf.c 1
        have HS8 := Lib.hid (HS7.out.below ((Below.refl _ _).alloc (Nat.le_refl _) (.cells (flatL [x]).toArray 34)))
        obtain ⟨V, hV⟩ : ∃ V, V = u + F := ⟨_, rfl⟩
        have eV : (u : Int) + (F : Int) = (V : Int) := by omega
        have HV := Lib.hid hV
        have hlen : (l.take k).length ≤ 100 := by rw [List.length_take]; have := HL.out; omega
        have HLEN := Lib.hid hlen
        have hal : ats_.length ≤ 100 := by have := HAL.out; have := HL.out; omega
        have HAL2 := Lib.hid hal
        have i5 : (V : Int) ≤ 9223372036854775807 := by have := HUM.out; omega
        clear hV hlen hal
        go_wp2_with (first
          | (refine wpList_store_rowTo rfl 34 (.tmp 13) (.tmp 60) rfl rfl w6.heap.size (opA x.1).toArray rfl rfl 34 #[.int .u8 0, .int .u32 0, .int .u8 0, .int .u16 0, .int .u16 0, .int .u16 0, .int .u32 0, .int .u32 0, .int .u32 0, .int .u32 0, .int .u32 0, .int .u32 0, .int .u32 0, .int .u32 0, .int .u32 0, .int .u32 0, .int .u32 0, .int .u32 0, .int .u32 0, .int .u32 0, .int .u32 0, .int .u32 0, .int .u32 0] (heap_alloc_new w6 _) (by rw [List.size_toArray, HLO.out]; kernel_rfl) (by rw [show (opA x.1).toArray.size = 23 by rw [List.size_toArray, HLO.out]]; rfl) (by simp [opA, Value.oneCell']) ?_; rw [setCells_alloc_new])
          | (refine OpAt.load_list HO7.out rfl (.tmp 13) rfl rfl ?_)
          | (refine Go.Great.wpList_buildSliceTo rfl 22 34 1 _ rfl _ rfl _ rfl Tryz.underlying22 _ (by simp only [List.map_toArray, List.map_cons, List.map_nil]; exact build_one x) ?_)
          | (at_builtin; refine appO_lies w.heap.size rfl (.tmp 64) (.tmp 66) rfl rfl rfl HS8.out.inf.ops (rdOne (w6.alloc (.cells (opA x.1).toArray 34)) x) (by omega) (by have := HLEN.out; omega) HS8.out.blw.size ?_; intro v9 w9 ho9 hg9 hlie; obtain ⟨A9, n9, k9, rfl⟩ := isO ho9; obtain ⟨e2, e3, hs10⟩ := HS8.out.addO ho9 hg9; have f2 : (w9.setCell ⟨X, 1, none⟩ (.slice A9 n9 k9)).cell? ⟨X, 2, none⟩ = some va := hs10.inf.c 2; have f4 : (w9.setCell ⟨X, 1, none⟩ (.slice A9 n9 k9)).cell? ⟨X, 4, none⟩ = some (.int .i64 (u : Int)) := hs10.inf.c 4; have HS11 := Lib.hid (hs10.below ((Below.refl _ _).alloc (Nat.le_refl _) (.cells #[.int .i64 (u : Int)] 3))); clear ho9 hg9 hlie hs10)
          | (at_builtin; refine appI_list (y := u) w.heap.size rfl (.tmp 70) (.tmp 73) rfl rfl rfl HS11.out.inf.ats (by have h9 := heap_alloc_new (w9.setCell ⟨X, 1, none⟩ (.slice A9 n9 k9)) (.cells #[.int .i64 (u : Int)] 3); rw [show (w9.setCell ⟨X, 1, none⟩ (.slice A9 n9 k9)).heap.size = w9.heap.size by simp [World.setCell]] at h9; rw [cell_of_row _ _ 0 _ _ _ h9]; rfl) (by have := HAL2.out; omega) HS11.out.blw.size ?_; intro v12 w12 ho12 hg12 hlie12; obtain ⟨A12, n12, k12, rfl⟩ := isI ho12; obtain ⟨e5, e6, hs13⟩ := HS11.out.addI ho12 hg12; have f7 : (w12.setCell ⟨X, 2, none⟩ (.slice A12 n12 k12)).cell? ⟨X, 4, none⟩ = some (.int .i64 (u : Int)) := hs13.inf.c 4; have f8 := hs13.inf.fz 4; have HS14 := Lib.hid (hs13.used V); clear ho12 hg12 hlie12 hs13))
        go_roundw
        case rel => exact ⟨k + 1, V, _, _, false, ats_ ++ [u], by omega, by unfold Hid; rw [HSN.out]; exact HS14.out, by unfold Hid; have := HAL.out; rw [List.length_append, List.length_singleton]; omega, .inl ⟨rfl, by have := HV.out; have := HUU.out; have := HRS.out; have := HFF.out; omega⟩⟩
        case measure =>
          have ha := HS14.out.inf.c 4
          have hb := HST.out.inf.c 4
          rw [ha, hb]
          have := HUM.out
          have := HV.out
          have := HF4.out
          simp [intOf]
          omega
      · have hkn : k = l.length := by omega
        have hdr := seg_drop (id := id) (l := l) (s := s) (k := k) (by omega)
        rw [← HU.out, ← hu, hkn, List.drop_length, recs, List.nil_append] at hdr
        cases s with
        | true =>
          rw [if_pos rfl] at hdr
          obtain ⟨n, hn⟩ : ∃ n, n = l.length := ⟨_, rfl⟩
          rw [← hn] at hdr hkn
          have h0 := H0.out
          have hl100 := HL.out
          obtain ⟨F, hF⟩ : ∃ F, F = (footB n).length := ⟨_, rfl⟩
          have hF4 : 4 ≤ F := by rw [hF]; unfold footB; rw [wrap_length]; omega
          have hdl := congrArg List.length hdr
          rw [List.length_drop, hml, ← hF] at hdl
          have hum : u + F = m := by omega
          obtain ⟨ad, rfl, hcell⟩ := hxw.cell (by omega)
          have hcu : ¬ c = u := by omega
          have hd := hxw.drop (k := u) (cap := c) (by omega) hc
          rw [if_neg hcu, hdr] at hd
          have hfl : (enc 3 ++ enc n).length ≤ 20 := by have := (enc_length 3).2; have := (enc_length n).2; rw [List.length_append]; omega
          have q : Calls Tryz.prog 27 #[.slice (some (ad.add u)) (m - u) (c - u)] wr fun e w' => ∃ v, e = .returned (.tuple #[v, .int .i64 (F : Int), .int .i64 0]) ∧ OwnB w' wr.heap.size v (enc 3 ++ enc n) ∧ Below wr.heap.size wr w' := by
            have := first_any (m - u) (c - u) (some (ad.add u)) _ wr (by omega) hd htw
            have hfw := first_wrap (b := enc 3 ++ enc n) (by omega) []
            rw [List.append_nil] at hfw
            rw [show footB n = wrap (enc 3 ++ enc n) from rfl, hfw, show (wrap (enc 3 ++ enc n)).length = F from hF.symm] at this
            exact this
          have c3 : wr.cell? ⟨X, 3, none⟩ = some (.bool false) := HI.out.c 3
          have c4 : wr.cell? ⟨X, 4, none⟩ = some (.int .i64 (u : Int)) := HI.out.c 4
          have i0 : (0 : Int) ≤ (u : Int) := by omega
          have i1 : (u : Int) ≤ (m : Int) := by omega
          have i2 : (m : Int) ≤ (c : Int) := by omega
          have eV : (u : Int) + (F : Int) = (m : Int) := by omega
          have HN := Lib.hid hn
          have HKN := Lib.hid hkn
          have Q5 := Lib.hid q
          have HUM := Lib.hid hum
          have HF4 := Lib.hid hF4
          have HFL := Lib.hid hfl
          have HN0 := Lib.hid (show 0 < n ∧ n ≤ 100 by omega)
          have htk : (l.take k).length = n := by rw [List.length_take]; omega
          have HTK := Lib.hid htk
          clear hdr hF hdl hcell hd q hu hxw htw hml hum HCASE hn hkn hfl h0 hl100 htk hlt
          go_wp2_with fail
          refine Q5.out.mono ?_
          rintro e w5 ⟨v5, rfl, ho5, hb5⟩
          obtain ⟨A5, k5, rfl, hk5, hrd5⟩ := ho5.rd
          have q6 := operation_no n _ k5 A5 w5 hrd5 (by have := HFL.out; omega) HN0.out.1 (by have := HN0.out.2; omega)
          have HRD5 := Lib.hid hrd5
          have HFL2 := Lib.hid (show (enc 3 ++ enc n).length ≤ 65536 by have := HFL.out; omega)
          generalize (enc 3 ++ enc n).length = m5 at *
          have HS5 := Lib.hid (HST.out.below hb5)
          have Q6 := Lib.hid q6
          clear ho5 hrd5 q6 hb5 Q5 c3 c4
          go_wp2_with fail
          refine Q6.out.mono ?_
          rintro e w6 ⟨rfl, hb6⟩
          have hb7 : Below w6.heap.size w6 (w6.alloc (.cells (opA zeroO).toArray 34)) := (Below.refl _ _).alloc (Nat.le_refl _) _
          have HS7 := Lib.hid ((HS5.out.below hb6).below hb7)
          have Q7 := Lib.hid (number_ok 3 n m5 k5 A5 _ ((HRD5.out.below hb6).below hb7) HFL2.out (by decide) (by have := HN0.out.2; omega))
          have HLO := Lib.hid (opA_length okZeroO)
          clear hb6 hb7 HS5 Q6 HRD5 HFL2
          go_wp2_with (refine wpList_store_rowTo rfl 34 (.tmp 13) (.tmp 60) rfl rfl w6.heap.size (opA zeroO).toArray rfl rfl 34 #[.int .u8 0, .int .u32 0, .int .u8 0, .int .u16 0, .int .u16 0, .int .u16 0, .int .u32 0, .int .u32 0, .int .u32 0, .int .u32 0, .int .u32 0, .int .u32 0, .int .u32 0, .int .u32 0, .int .u32 0, .int .u32 0, .int .u32 0, .int .u32 0, .int .u32 0, .int .u32 0, .int .u32 0, .int .u32 0, .int .u32 0] (heap_alloc_new w6 _) (by rw [List.size_toArray, HLO.out]; kernel_rfl) (by rw [show (opA zeroO).toArray.size = 23 by rw [List.size_toArray, HLO.out]]; rfl) (by simp [opA, zeroO, Value.oneCell']) ?_; rw [setCells_alloc_new])
          refine Q7.out.mono ?_
          rintro e w8 ⟨rfl, hb8⟩
          have hs8 := HS7.out.below hb8
          obtain ⟨Ao, ko, hvo⟩ := hs8.inf.ops.sl
          rw [HTK.out] at hvo
          subst hvo
          have g1 : w8.cell? ⟨X, 1, none⟩ = some (.slice Ao n ko) := hs8.inf.c 1
          have g3 : w8.cell? ⟨X, 3, none⟩ = some (.bool false) := hs8.inf.c 3
          have g3f := hs8.inf.fz 3
          have hs9 := hs8.shuts
          have g4 : (w8.setCell ⟨X, 3, none⟩ (.bool true)).cell? ⟨X, 4, none⟩ = some (.int .i64 (u : Int)) := hs9.inf.c 4
          have g4f := hs9.inf.fz 4
          have HS10 := Lib.hid (hs9.used m)
          have wn : IntKind.u64.wrap (n : Int) = (n : Int) := by rw [IntKind.wrap_u64]; have := HN0.out.2; omega
          have i6 : (m : Int) ≤ 9223372036854775807 := by omega
          clear hs8 hs9 hb8 Q7 HS7
          go_wp2_with fail
          go_roundw
          case rel => exact ⟨k, m, _, _, true, ats_, hk, HS10, HAL, .inr ⟨rfl, by have := HKN.out; have := HN.out; omega, (by first | rfl | trivial), rfl⟩⟩
          case measure =>
            have ha := HS10.out.inf.c 4
            have hb := HST.out.inf.c 4
            rw [ha, hb]
            have := HUM.out
            have := HF4.out
            simp [intOf]
            omega
        | false =>
          rw [if_neg (by decide)] at hdr
          have hdl := congrArg List.length hdr
          rw [List.length_drop, hml, List.length_nil] at hdl
          have hle := HXB.out.len
          have hum : u = m := by
            have h1 : u ≤ m := by
              rw [hu, hkn, List.take_length, ← hle, HU.out]
              unfold segB
              rw [List.length_append, List.length_append]
              omega
            omega
          have hI := HI.out
          rw [hkn, List.take_length, hum] at hI
          obtain ⟨Ao, ko, hvo⟩ := hI.ops.sl
          obtain ⟨Aa, ka, hva, _, _⟩ := hI.ats.rd
          generalize l.length = no at hvo
          generalize ats_.length = na at hva
          subst hvo hva
          have c3 : wr.cell? ⟨X, 3, none⟩ = some (.bool false) := hI.c 3
          have c4 : wr.cell? ⟨X, 4, none⟩ = some (.int .i64 (m : Int)) := hI.c 4
          have hd := hxw.drop (k := u) (cap := c) (by omega) hc
          rw [hdr, hum, Nat.sub_self] at hd
          have i2 : (m : Int) ≤ (c : Int) := by omega
          have i0 : (0 : Int) ≤ (m : Int) := by omega
          have HI2 := Lib.hid hI
          by_cases hcu : c = m
          · rw [if_pos hcu] at hd
            subst hcu
            have q := first_any 0 0 A _ wr (by omega) hd htw
            rw [first_nil] at q
            have Q5 := Lib.hid q
            clear hdr hdl hle hum hI hd q hu hxw htw hml HCASE hlt
            go_wp2_with fail
            refine Q5.out.mono ?_
            rintro e w5 ⟨v5, rfl, ho5, hb5⟩
            obtain ⟨A5, m5, k5, rfl⟩ := is_slice ho5
            have hs5 := HST.out.below hb5
            have hi5 := HI2.out.below hb5
            have hg : w5.grownBy (w5.setRow w.heap.size #[.int .u32 (id : Int), .slice Ao no ko, .slice Aa na ka, .bool false, .int .i64 (c : Int)]) (some w.heap.size) := ⟨rfl, rfl, rfl, by simp [World.setRow], fun j _ hne => setRow_other _ _ j _ (fun e => hne (by rw [e]))⟩
            have HRF := Lib.hid (setRow_heap w5 w.heap.size _ #[.int .u32 (id : Int), .slice Ao no ko, .slice Aa na ka, .bool false, .int .i64 (c : Int)] _ _ hs5.res)
            have HOF := Lib.hid (OwnO.kept hi5.ops hg (.inr (own_ne hi5.ops.row hs5.res (by decide))))
            have HBF := Lib.hid (hs5.blw.grown hg hs5.blw.size (fun j hj => by injection hj with hj; omega))
            have HI8 := Lib.hid hi5
            have HZ8 := Lib.hid hs5.res
            clear ho5 hb5 hs5 hi5 hg Q5 c3 c4
            go_wp2_with (first
              | (refine wpList_load_row rfl 47 (.tmp 9) rfl X rfl _ _ _ _ HI8.out.row Tryz.underlying47 rfl (by kernel_rfl) ?_)
              | (refine wpList_store_rowTo rfl 47 (.tmp 2) (.tmp 96) rfl rfl w.heap.size _ rfl rfl 47 _ HZ8.out (by kernel_rfl) rfl (by simp [Value.oneCell']) ?_))
            refine bodyPost_ret (v := .tuple #[.agg #[.int .u32 (id : Int), .slice Ao no ko, .slice Aa na ka, .bool false, .int .i64 (c : Int)], .int .i64 0]) ?_ rfl ⟨_, _, rfl, HOF.out, HBF.out, _, _, _, rfl⟩
            exact results_cell_row2 Tryz.results11 _ _ w.heap.size 47 _ (0, 0) _ _ rfl rfl HRF.out Tryz.underlying47 rfl (by kernel_rfl)
          · rw [if_neg hcu] at hd
            have q := first_any 0 (c - m) (A.map (·.add m)) _ wr (by omega) hd htw
            rw [first_nil] at q
            have Q5 := Lib.hid q
            clear hdr hdl hle hum hI hd q hu hxw htw hml HCASE hlt
            go_wp2_with fail
            refine Q5.out.mono ?_
            rintro e w5 ⟨v5, rfl, ho5, hb5⟩
            obtain ⟨A5, m5, k5, rfl⟩ := is_slice ho5
            have hs5 := HST.out.below hb5
            have hi5 := HI2.out.below hb5
            have hg : w5.grownBy (w5.setRow w.heap.size #[.int .u32 (id : Int), .slice Ao no ko, .slice Aa na ka, .bool false, .int .i64 (m : Int)]) (some w.heap.size) := ⟨rfl, rfl, rfl, by simp [World.setRow], fun j _ hne => setRow_other _ _ j _ (fun e => hne (by rw [e]))⟩
            have HRF := Lib.hid (setRow_heap w5 w.heap.size _ #[.int .u32 (id : Int), .slice Ao no ko, .slice Aa na ka, .bool false, .int .i64 (m : Int)] _ _ hs5.res)
            have HOF := Lib.hid (OwnO.kept hi5.ops hg (.inr (own_ne hi5.ops.row hs5.res (by decide))))
            have HBF := Lib.hid (hs5.blw.grown hg hs5.blw.size (fun j hj => by injection hj with hj; omega))
            have HI8 := Lib.hid hi5
            have HZ8 := Lib.hid hs5.res
            clear ho5 hb5 hs5 hi5 hg Q5 c3 c4
            go_wp2_with (first
              | (refine wpList_load_row rfl 47 (.tmp 9) rfl X rfl _ _ _ _ HI8.out.row Tryz.underlying47 rfl (by kernel_rfl) ?_)
              | (refine wpList_store_rowTo rfl 47 (.tmp 2) (.tmp 96) rfl rfl w.heap.size _ rfl rfl 47 _ HZ8.out (by kernel_rfl) rfl (by simp [Value.oneCell']) ?_))
            refine bodyPost_ret (v := .tuple #[.agg #[.int .u32 (id : Int), .slice Ao no ko, .slice Aa na ka, .bool false, .int .i64 (m : Int)], .int .i64 0]) ?_ rfl ⟨_, _, rfl, HOF.out, HBF.out, _, _, _, rfl⟩
            exact results_cell_row2 Tryz.results11 _ _ w.heap.size 47 _ (0, 0) _ _ rfl rfl HRF.out Tryz.underlying47 rfl (by kernel_rfl)
    · subst hsl hs
      have hI := HI.out
      rw [hkn, List.take_length, hu] at hI
      obtain ⟨Ao, ko, hvo⟩ := hI.ops.sl
      obtain ⟨Aa, ka, hva, _, _⟩ := hI.ats.rd
      generalize l.length = no at hvo
      generalize ats_.length = na at hva
      subst hvo hva
      have c3 : wr.cell? ⟨X, 3, none⟩ = some (.bool true) := hI.c 3
      have HI := Lib.hid hI
      have hg : wr.grownBy (wr.setRow w.heap.size #[.int .u32 (id : Int), .slice Ao no ko, .slice Aa na ka, .bool true, .int .i64 (m : Int)]) (some w.heap.size) := ⟨rfl, rfl, rfl, by simp [World.setRow], fun j _ hne => setRow_other _ _ j _ (fun e => hne (by rw [e]))⟩
      have HRF := Lib.hid (setRow_heap wr w.heap.size _ #[.int .u32 (id : Int), .slice Ao no ko, .slice Aa na ka, .bool true, .int .i64 (m : Int)] _ _ HZR.out)
      have HOF := Lib.hid (OwnO.kept hI.ops hg (.inr (own_ne hI.ops.row HZR.out (by decide))))
      have HBF := Lib.hid (HBW.out.grown hg HBW.out.size (fun j hj => by injection hj with hj; omega))
      clear hI hg hkn hu
      go_wp2_with (first
        | (refine wpList_load_row rfl 47 (.tmp 9) rfl X rfl _ _ _ _ HI.out.row Tryz.underlying47 rfl (by kernel_rfl) ?_)
        | (refine wpList_store_rowTo rfl 47 (.tmp 2) (.tmp 96) rfl rfl w.heap.size _ rfl rfl 47 _ HZR.out (by kernel_rfl) rfl (by simp [Value.oneCell']) ?_))
      refine bodyPost_ret (v := .tuple #[.agg #[.int .u32 (id : Int), .slice Ao no ko, .slice Aa na ka, .bool true, .int .i64 (m : Int)], .int .i64 0]) ?_ rfl ⟨_, _, rfl, HOF.out, HBF.out, _, _, _, rfl⟩
      exact results_cell_row2 Tryz.results11 _ _ w.heap.size 47 _ (0, 0) _ _ rfl rfl HRF.out Tryz.underlying47 rfl (by kernel_rfl)

end Go.Proofs.YtgogbpkcceadbaaGreatDoor.Sg
