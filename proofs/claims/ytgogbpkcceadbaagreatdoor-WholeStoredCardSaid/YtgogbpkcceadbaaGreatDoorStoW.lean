/-
  trugtop.stored.
-/
import Derived.Test.YtgogbpkcceadbaaGreatDoorSegS
import Derived.Test.YtgogbpkcceadbaaGreatDoorHistW
namespace Go.Proofs.YtgogbpkcceadbaaGreatDoor.Sg
open Go.RowKit Go.Proofs.YtgogbpkcceadbaaGreatDoor.Wd Go.Proofs.YtgogbpkcceadbaaGreatDoor.VintP Go.Proofs.YtgogbpkcceadbaaGreatDoor.VintW Go.Proofs.YtgogbpkcceadbaaGreatDoor.Pk Go.Proofs.YtgogbpkcceadbaaGreatDoor.Vc Go.Proofs.YtgogbpkcceadbaaGreatDoor.CrcW Go.Proofs.YtgogbpkcceadbaaGreatDoor.FrameP Go.Proofs.YtgogbpkcceadbaaGreatDoor.FrameW
set_option linter.unusedVariables false

theorem rdPart {w : World} {ad : Addr} {n : Nat} {l : List OpN} (h : RdO w (some ad) n l) {i p : Nat} (hi : i + p ≤ n) (h0 : 0 < n) : RdO w (some (ad.add (i * 23))) p ((l.drop i).take p) := by
  refine ⟨by rw [List.length_take, List.length_drop, h.len]; omega, by have := h.fits; omega, fun _ => ⟨_, rfl, fun t u hu => ?_⟩⟩
  obtain ⟨ad', e, hc⟩ := h.cell h0
  obtain rfl : ad = ad' := Option.some.inj e
  rw [add_of_add]
  refine hc (i * 23 + t) u ?_
  have ht := (List.getElem?_eq_some_iff.1 hu).1
  rw [flatL_length, List.length_take, List.length_drop, h.len] at ht
  have hl : flatL l = flatL (l.take i) ++ (flatL ((l.drop i).take p) ++ flatL ((l.drop i).drop p)) := by
    simp only [flatL, ← List.flatMap_append, List.take_append_drop]
  rw [hl, List.getElem?_append_right (by rw [flatL_length, List.length_take, h.len]; omega), flatL_length, List.length_take, h.len, show i * 23 + t - min i n * 23 = t by omega, List.getElem?_append_left (by rw [flatL_length, List.length_take, List.length_drop, h.len]; omega)]
  exact hu
theorem OwnB.keptO {w w' : World} {base : Nat} {v vb : Value} {l : List OpN} {xs : List Nat} (h : OwnO w base v l) (hb : OwnB w base vb xs) (hg : w.grownBy w' vb.ownBlock) : OwnO w' base v l := by
  refine OwnO.kept h hg ?_
  cases hv : v.ownBlock with
  | none => exact .inl rfl
  | some g =>
    refine .inr fun e => ?_
    obtain ⟨c, fz, h1⟩ := Lib.ownsRow_kind h.row g hv
    exact own_ne hb.row h1 (by decide) e.symm
theorem isB {w : World} {B : Nat} {v : Value} {l : List Nat} (h : OwnB w B v l) : ∃ A n c, v = .slice A n c := by
  obtain ⟨A, c, e, _, _⟩ := h.rd
  exact ⟨A, _, c, e⟩
theorem load_info_ops {w : World} {a : Addr} {v : Value} (h : w.cell? a = some v) : (ldK 22 a).run Tryz.prog w = .ok v w := by
  simp [ldK, loadVar, Sem.run_bind, isAgg, run_underlying Tryz.underlying22, go_sem, h]
theorem store_info (W : World) (a b c d e : Value) (h1 : (#[a, b, c, d, e] : Array Value).all (·.oneCell') = true) (z : Array Value) (hz : z.size = 5) : (stK 47 ⟨W.heap.size, 0, none⟩ (.agg #[a, b, c, d, e])).run Tryz.prog (W.alloc (.cells z 47)) = .ok () (W.alloc (.cells #[a, b, c, d, e] 47)) := by
  rw [stK, run_storeVar_row _ W.heap.size 47 47 z #[a, b, c, d, e] (heap_alloc_new W _) (by kernel_rfl) hz h1, setCells_alloc_new]
attribute [local go_sem ↓] ldKx stKx
set_option maxHeartbeats 8000000 in
set_option maxRecDepth 100000 in
theorem stored_any (l : List OpN) (n cap : Nat) (A : Option Addr) (e : Nat) (he1 : 1 ≤ e) (he : e ≤ 10) (hn : n ≤ 40) (hcap : n ≤ cap) (hrt : ∀ o ∈ l, RightO o.1) (w : World) (hl : RdO w A n l) (ht : Tab w) :
    Calls Tryz.prog 6 #[.slice A n cap, .int .i64 (e : Int)] w fun en w' => ∃ v, en = .returned (.tuple #[v, .bool true]) ∧ OwnO w' w.heap.size v l ∧ Below w.heap.size w w' := by
  have hfit := hl.fits
  have HL := Lib.hid hl
  have HRT := Lib.hid hrt
  have HT := Lib.hid ht
  clear hl hrt ht
  go_enter Tryz.func6, Tryz.ntmps6
  go_wp2_with fail
  go_loopw [6, 7] (fun vo i wr => ∃ k : Nat, k ≤ n + 10 ∧ i = .int .i64 (k : Int) ∧ Hid (OwnO wr w.heap.size vo (l.take k)) ∧ Hid (Below w.heap.size w wr)) (fun _ i _ => n + 10 - (intOf i).toNat)
  case atStart => exact ⟨0, Nat.zero_le _, rfl, OwnO.nil_ _ _, Below.refl _ _⟩
  case round =>
    obtain ⟨k, hk, rfl, HO, HW⟩ := hrel
    by_cases hlt : k < n
    · obtain ⟨ad, hA, _⟩ := HL.out.cell (by omega)
      subst hA
      obtain ⟨J, hJ⟩ : ∃ J, J = min n (k + e) := ⟨_, rfl⟩
      have hmn : min (n : Int) ((k : Int) + (e : Int)) = (J : Int) := by omega
      obtain ⟨p, hp⟩ : ∃ p, p = J - k := ⟨_, rfl⟩
      have hp1 : 1 ≤ p := by omega
      have hp10 : p ≤ 10 := by omega
      have hkp : k + p ≤ n := by omega
      obtain ⟨P, hP⟩ : ∃ P, P = (l.drop k).take p := ⟨_, rfl⟩
      have hPe : (l.drop k).take e = P := by
        rw [hP]
        by_cases hje : J = k + e
        · rw [show p = e by omega]
        · rw [List.take_of_length_le (by rw [List.length_drop, HL.out.len]; omega), List.take_of_length_le (by rw [List.length_drop, HL.out.len]; omega)]
      have hPl : P.length = p := by rw [hP, List.length_take, List.length_drop, HL.out.len]; omega
      have hPr : RdO w (some (ad.add (k * 23))) p P := by rw [hP]; exact rdPart HL.out hkp (by omega)
      have HPM := Lib.hid (show ∀ o ∈ P, RightO o.1 from fun o ho => HRT.out o (List.mem_of_mem_drop (List.mem_of_mem_take (by rw [← hP]; exact ho))))
      have HTK := Lib.hid (show l.take (k + e) = l.take k ++ P by rw [List.take_add, hPe])
      have QH := Lib.hid (head_any k (by omega) wr (HT.out.below HW.out))
      have HPR := Lib.hid hPr
      have HPL := Lib.hid hPl
      have HJP := Lib.hid (show J = k + p by omega)
      have i0 : (0 : Int) ≤ (k : Int) := by omega
      have i1 : (k : Int) < (n : Int) := by omega
      have i2 : IntKind.u32.wrap (k : Int) = (k : Int) := by rw [IntKind.wrap_u32]; omega
      have i3 : (J : Int) ≤ (cap : Int) := by omega
      have i4 : (k : Int) ≤ (J : Int) := by omega
      have eJ : J - k = p := hp.symm
      have HP1 := Lib.hid hp1
      have HP10 := Lib.hid hp10
      clear hJ hp hP hPe hPl hPr
      go_wp2_with fail
      refine QH.out.mono ?_
      rintro en w3 ⟨v3, rfl, ho3, hb3⟩
      have hbw := HW.out.trans (hb3.mono HW.out.size)
      have HO3 := Lib.hid (HO.out.below hb3)
      have HB3 := Lib.hid (show OwnB w3 w.heap.size v3 (headB k ++ recs (P.take 0)) from by rw [List.take_zero]; unfold recs; rw [List.append_nil]; exact ⟨own_base ho3.row HW.out.size, ho3.small⟩)
      have HBW3 := Lib.hid hbw
      clear ho3 hb3 hbw HO HW QH
      go_wp2_with fail
      clear hmn i3 i4 eJ
      generalize wr = ws at *
      go_loopw [8, 39] (fun vb i wr => ∃ j : Nat, j ≤ p ∧ i = .int .i64 (j : Int) ∧ Hid (OwnB wr w.heap.size vb (headB k ++ recs (P.take j))) ∧ Hid (OwnO wr w.heap.size u6 (l.take k)) ∧ Hid (Below w.heap.size w wr)) (fun _ i _ => p - (intOf i).toNat)
      case atStart => exact ⟨0, Nat.zero_le _, rfl, HB3.out, HO3.out, HBW3.out⟩
      case round =>
        obtain ⟨j, hj, rfl, HVB, HVO, HWj⟩ := hrel
        by_cases hjp : j < p
        · have hkl : j < P.length := by rw [HPL.out]; exact hjp
          obtain ⟨x, hx⟩ : ∃ x, P[j]? = some x := ⟨_, List.getElem?_eq_getElem hkl⟩
          have HTJ := Lib.hid (show recs (P.take (j + 1)) = recs (P.take j) ++ recB x.1 by rw [List.take_add_one, hx, recs_append]; show _ ++ (recB x.1 ++ recs []) = _; unfold recs; rw [List.append_nil])
          have hrx := HPM.out x (List.mem_of_getElem? hx)
          have hld := (HPR.out.below HWj.out).load hx _ (Below.refl _ _)
          have hso := store_opN wr x.1 x.2
          obtain ⟨w4, hw4⟩ : ∃ w4, w4 = wr.alloc (.cells (opA x.1).toArray 34) := ⟨_, rfl⟩
          rw [← hw4] at hso
          have b4 : Below wr.heap.size wr w4 := by rw [hw4]; exact (Below.refl _ _).alloc (Nat.le_refl _) _
          have ho4 : OpAt w4 wr.heap.size x.1 := by rw [hw4]; exact OpAt.new wr x.2
          have lo := ho4.loads
          have HBW4 := Lib.hid (HWj.out.trans (b4.mono HWj.out.size))
          have HVB4 := Lib.hid (HVB.out.below b4)
          have HVO4 := Lib.hid (HVO.out.below b4)
          have QR := Lib.hid (record_any x.1 x.2 hrx w4 (HT.out.below HBW4.out))
          have i2 : (0 : Int) ≤ (j : Int) := by omega
          have i3 : (j : Int) < (p : Int) := by omega
          have HRL := Lib.hid (recs_length (P.take j))
          have HJ10 := Lib.hid (show (P.take j).length ≤ 10 by rw [List.length_take]; have := HP10.out; omega)
          clear hx hkl hw4 b4 ho4 hrx
          go_wp2_with fail
          refine QR.out.mono ?_
          rintro en w5 ⟨v5, rfl, ho5, hb5⟩
          have HVB5 := Lib.hid (HVB4.out.below hb5)
          have HVO5 := Lib.hid (HVO4.out.below hb5)
          have HBW5 := Lib.hid (HBW4.out.trans (hb5.mono HBW4.out.size))
          obtain ⟨A5, c5, hv5, _, hr5⟩ := ho5.rd
          obtain ⟨m5, hm5⟩ : ∃ m5, m5 = (recB x.1).length := ⟨_, rfl⟩
          have hm5b : m5 ≤ 400 := by rw [hm5]; exact Nat.le_trans (wrap_le (b := enc 2 ++ (enc (encOp x.1).length ++ encOp x.1)) (by have := recBody_le x.1; omega)) (by decide)
          rw [← hm5] at hv5 hr5
          subst hv5
          have HR5 := Lib.hid hr5
          have HM5 := Lib.hid hm5b
          clear ho5 hb5 hr5 hm5 hm5b HVB4 HVO4 HBW4 QR lo hld hso
          go_wp2_with (at_builtin; refine app_list w.heap.size rfl (.tmp 50) (.tmp 51) rfl rfl rfl HVB5.out HR5.out (by rw [List.length_append]; have h1 := HRL.out; have h2 := HJ10.out; have h3 := HM5.out; have h4 := wrap_le (b := enc 1 ++ enc k) (by have := (enc_length 1).2; have := (enc_length k).2; rw [List.length_append]; omega); have h5 : (headB k).length = (wrap (enc 1 ++ enc k)).length := rfl; omega) HBW5.out.size ?_; intro v6 w6 ho6 hg6 _; have HVB6 := Lib.hid ho6; have HVO6 := Lib.hid (OwnB.keptO HVO5.out HVB5.out hg6); have HBW6 := Lib.hid (HVB5.out.to_below HBW5.out HBW5.out.size hg6); clear ho6 hg6)
          go_roundw
          case rel => exact ⟨j + 1, by omega, by go_num, by unfold Hid; rw [HTJ.out, ← List.append_assoc]; exact HVB6.out, HVO6.out, HBW6.out⟩
          case measure => simp [intOf]; omega
        · have hkn : P.take j = P := List.take_of_length_le (by rw [HPL.out]; omega)
          have hvb := HVB.out
          rw [hkn] at hvb
          have HVB2 := Lib.hid hvb
          clear hkn hvb HVB HB3 HO3 HBW3
          obtain ⟨bA, bn, bc, rfl⟩ := isB HVB2.out
          have QF := Lib.hid (foot_any p (by omega) wr (HT.out.below HWj.out))
          have HRL := Lib.hid (recs_length P)
          go_wp2_with fail
          refine QF.out.mono ?_
          rintro en w7 ⟨v7, rfl, ho7, hb7⟩
          have HVB7 := Lib.hid (HVB2.out.below hb7)
          have HVO7 := Lib.hid (HVO.out.below hb7)
          have HBW7 := Lib.hid (HWj.out.trans (hb7.mono HWj.out.size))
          obtain ⟨A7, c7, hv7, _, hr7⟩ := ho7.rd
          obtain ⟨m7, hm7⟩ : ∃ m7, m7 = (footB p).length := ⟨_, rfl⟩
          have hm7b : m7 ≤ 400 := by rw [hm7]; exact Nat.le_trans (wrap_le (b := enc 3 ++ enc p) (by have := (enc_length 3).2; have := (enc_length p).2; rw [List.length_append]; omega)) (by decide)
          rw [show (wrap (enc 3 ++ enc p)).length = m7 from hm7.symm] at hv7 hr7
          subst hv7
          have HR7 := Lib.hid hr7
          have HM7 := Lib.hid hm7b
          clear ho7 hb7 hr7 hm7 hm7b HVB2 HVO HWj QF
          go_wp2_with (at_builtin; refine app_list w.heap.size rfl (.tmp 61) (.tmp 62) rfl rfl rfl HVB7.out HR7.out (by rw [List.length_append]; have h1 := HRL.out; have h2 := HPL.out; have h6 := HP10.out; have h3 := HM7.out; have h4 := wrap_le (b := enc 1 ++ enc k) (by have := (enc_length 1).2; have := (enc_length k).2; rw [List.length_append]; omega); have h5 : (headB k).length = (wrap (enc 1 ++ enc k)).length := rfl; omega) HBW7.out.size ?_; intro v8 w8 ho8 hg8 _; have HVO8 := Lib.hid (OwnB.keptO HVO7.out HVB7.out hg8); have HBW8 := Lib.hid (HVB7.out.to_below HBW7.out HBW7.out.size hg8); have hseg : (headB k ++ recs P) ++ wrap (enc 3 ++ enc p) = segB k P true := (by unfold segB; rw [if_pos rfl, HPL.out, List.append_assoc]; rfl); rw [hseg] at ho8; obtain ⟨A8, c8, hv8, hc8, hr8⟩ := ho8.rd; obtain ⟨m8, hm8⟩ : ∃ m8, m8 = (segB k P true).length := ⟨_, rfl⟩; rw [← hm8] at hv8 hc8 hr8; subst hv8; have QS := Lib.hid (scan_any k P true (by omega) (by rw [HPL.out]; exact HP1.out) (by rw [HPL.out]; have := HP10.out; omega) HPM.out m8 c8 A8 w8 hr8 hc8 (HT.out.below HBW8.out)); clear ho8 hg8 hseg hc8 hr8 hm8 HVO7 HVB7 HBW7)
          refine QS.out.mono ?_
          rintro en w9 ⟨vo, va, rfl, ho9, hb9, vA, vn, vc, rfl⟩
          have HVO9 := Lib.hid (HVO8.out.below hb9)
          have HBW9 := Lib.hid (HBW8.out.trans (hb9.mono HBW8.out.size))
          obtain ⟨og, oc, hvo, _, _, _, hro, _⟩ := ho9.form (by rw [HPL.out]; exact HP1.out)
          rw [HPL.out] at hvo hro
          subst hvo
          have hst := store_info w9 (.int .u32 (k : Int)) (.slice (some ⟨og, 0, none⟩) p oc) (.slice vA vn vc) (.bool true) (.int .i64 (m8 : Int)) (by simp [Value.oneCell']) #[.int .u32 0, .slice none 0 0, .slice none 0 0, .bool false, .int .i64 0] rfl
          obtain ⟨w10, hw10⟩ : ∃ w10, w10 = w9.alloc (.cells #[.int .u32 (k : Int), .slice (some ⟨og, 0, none⟩) p oc, .slice vA vn vc, .bool true, .int .i64 (m8 : Int)] 47) := ⟨_, rfl⟩
          rw [← hw10] at hst
          have b10 : Below w9.heap.size w9 w10 := by rw [hw10]; exact (Below.refl _ _).alloc (Nat.le_refl _) _
          have hrow : w10.heap[w9.heap.size]? = some (.cells #[.int .u32 (k : Int), .slice (some ⟨og, 0, none⟩) p oc, .slice vA vn vc, .bool true, .int .i64 (m8 : Int)] 47 (0, 0)) := by rw [hw10]; exact heap_alloc_new w9 _
          have l3 : (ldK 4 ⟨w9.heap.size, 3, none⟩).run Tryz.prog w10 = .ok (.bool true) w10 := load_bool (by rw [cell_of_row w10 _ 3 _ _ _ hrow]; rfl)
          have l0 : (ldK 28 ⟨w9.heap.size, 0, none⟩).run Tryz.prog w10 = .ok (.int .u32 (k : Int)) w10 := load_u32 (by rw [cell_of_row w10 _ 0 _ _ _ hrow]; rfl)
          have l1 : (ldK 22 ⟨w9.heap.size, 1, none⟩).run Tryz.prog w10 = .ok (.slice (some ⟨og, 0, none⟩) p oc) w10 := load_info_ops (by rw [cell_of_row w10 _ 1 _ _ _ hrow]; rfl)
          have HVO10 := Lib.hid (HVO9.out.below b10)
          have HBW10 := Lib.hid (HBW9.out.trans (b10.mono HBW9.out.size))
          have HRO := Lib.hid (hro.below b10)
          have HKL := Lib.hid (show (l.take k).length ≤ 40 by rw [List.length_take, HL.out.len]; omega)
          clear ho9 hb9 hro hw10 b10 hrow HVO8 HVO9 HBW8 HBW9 QS
          go_wp2_with (at_builtin; refine appO_lies w.heap.size rfl (.tmp 85) (.tmp 87) rfl rfl rfl HVO10.out HRO.out HP1.out (by have := HKL.out; have := HP10.out; omega) HBW10.out.size ?_; intro v12 w12 ho12 hg12 _; have HO12 := Lib.hid ho12; have HW12 := Lib.hid (HBW10.out.grown hg12 HBW10.out.size (fun kk hkk => (HVO10.out.row.lt kk hkk).1)); clear ho12 hg12)
          exact ⟨⟨k + e, by omega, by go_num, by unfold Hid; rw [HTK.out]; exact HO12.out, HW12.out⟩, by simp [intOf]; omega⟩
    · have hkn : l.take k = l := List.take_of_length_le (by rw [HL.out.len]; omega)
      have ho := HO.out
      rw [hkn] at ho
      have HOF := Lib.hid ho
      clear hkn ho HO
      go_wp2_with fail
      go_ret2
      exact ⟨_, rfl, HOF.out, HW.out⟩
end Go.Proofs.YtgogbpkcceadbaaGreatDoor.Sg
