/-
  The walks of slices.IndexFunc and slices.DeleteFunc at operations.
-/
import Derived.Test.YtkhjmegjnglkgaaDel
namespace Go.Proofs.Ytkhjmegjnglkgaa.Vc
open Go.RowKit Go.Proofs.Ytkhjmegjnglkgaa.Wd Go.Sort Go.Proofs Go.Lib
set_option linter.unusedVariables false
attribute [local go_sem ↓] ldKx stKx
set_option maxHeartbeats 1000000 in
set_option maxRecDepth 100000 in
theorem index_any (l : List OpN) (n cap : Nat) (A : Option Addr) (g : Nat) (v : List Nat) (w : World) (hr : RdO w A n l) (hv : VecAt w g v) :
    Calls Try.prog 33 #[.slice A n cap, .func (.func 27) #[] #[.pointer (some ⟨g, 0, none⟩)]] w fun e w' => e = .returned (.int .i64 (if fidx v l < n then ((fidx v l : Nat) : Int) else -1)) ∧ Gr w w' := by
  have hfit := hr.fits
  have HR := Lib.hid hr
  have HV := Lib.hid hv
  have hfl := fidx_le v l
  rw [hr.len] at hfl
  have hbe := fun (j : Nat) (x : OpN) (h : l[j]? = some x) => fidx_before (v := v) (l := l) (j := j) (x := x) h
  have hat := fun (x : OpN) => fidx_at (v := v) (l := l) (x := x)
  generalize fidx v l = f at *
  have HBE := Lib.hid hbe
  have HAT := Lib.hid hat
  obtain ⟨rv, hrv⟩ : ∃ rv : Int, rv = if f < n then (f : Int) else -1 := ⟨_, rfl⟩
  rw [← hrv]
  have HRV := Lib.hid hrv
  clear hr hv hbe hat hrv
  go_enter Try.func33, Try.ntmps33
  go_wp2_with fail
  go_loopw [8] (fun i wr => ∃ k : Nat, k ≤ f ∧ i = .int .i64 (k : Int) ∧ Hid (Gr w wr)) (fun i _ => n - (intOf i).toNat)
  case atStart => exact ⟨0, Nat.zero_le _, rfl, Gr.refl _⟩
  case round =>
    obtain ⟨k, hk, rfl, HW⟩ := hrel
    by_cases hlt : k < n
    · obtain ⟨x, hx⟩ : ∃ x, l[k]? = some x := ⟨_, List.getElem?_eq_getElem (by rw [HR.out.len]; exact hlt)⟩
      obtain ⟨ad, hA, _⟩ := HR.out.cell (by omega)
      subst hA
      have hld := HR.out.load hx _ HW.out.below
      have q := pick1_any x.1 x.2 g v _ (HV.out.below HW.out.below)
      have i0 : (0 : Int) ≤ (k : Int) := by omega
      have i1 : (k : Int) < (n : Int) := by omega
      by_cases hkf : k < f
      · have hxf : hasB v x.1.rep x.1.seq = false := HBE.out k x hx hkf
        rw [hxf] at q
        have Q := Lib.hid q
        clear hx hxf q
        go_wp2_with fail
        refine Q.out.mono ?_
        rintro e w3 ⟨rfl, hg⟩
        have HG := Lib.hid (HW.out.trans hg)
        clear hg hld
        go_wp2_with fail
        go_roundw
        case rel => exact ⟨k + 1, by omega, by go_num, HG.out⟩
        case measure => simp [intOf]; omega
      · have hke : k = f := by omega
        subst hke
        have hxf : hasB v x.1.rep x.1.seq = true := HAT.out x hx
        rw [hxf] at q
        have Q := Lib.hid q
        clear hx hxf q
        go_wp2_with fail
        refine Q.out.mono ?_
        rintro e w3 ⟨rfl, hg⟩
        have HG := Lib.hid (HW.out.trans hg)
        clear hg hld
        go_wp2_with fail
        go_ret
        exact ⟨by rw [HRV.out, if_pos hlt]; rfl, HG.out⟩
    · have hfn : ¬ f < n := by omega
      go_wp2_with fail
      go_ret
      exact ⟨by rw [HRV.out, if_neg hfn]; rfl, HW.out⟩

/-- What is not had. -/
def kept (v : List Nat) (l : List OpN) : List OpN := l.filter fun x => !hadB v x
/-- The call returns, of the row at blk, what is not had, at the row's head. -/
def GivesK (w : World) (blk cap : Nat) (l : List OpN) (e : Ending) (w' : World) : Prop :=
  e = .returned (.slice (some ⟨blk, 0, none⟩) l.length cap) ∧ HoldsK encO 23 w' blk 0 l.toArray ∧ w.grownBy w' (some blk) ∧ w.heap.size ≤ w'.heap.size
theorem holds_head {w : World} {blk : Nat} {d : Array OpN} {l : List OpN} (h : HoldsK encO 23 w blk 0 d) (hl : l.length ≤ d.size) (he : ∀ j, j < l.length → l[j]? = some d[j]!) : HoldsK encO 23 w blk 0 l.toArray := by
  intro t ht
  have ht' : t < l.length * 23 := by simpa using ht
  have ht2 : t < d.size * 23 := Nat.lt_of_lt_of_le ht' (Nat.mul_le_mul_right 23 hl)
  obtain ⟨h1, h2⟩ := h t (by simpa using ht2)
  refine ⟨?_, h2⟩
  rw [h1]
  congr 1
  show (flatK encO 23 d)[t]! = (flatK encO 23 l.toArray)[t]!
  rw [get_flatK _ _ _ t ht2, get_flatK _ _ _ t (by simpa using ht')]
  have hj : t / 23 < l.length := by omega
  have := he (t / 23) hj
  rw [List.getElem?_eq_getElem hj] at this
  injection this with this
  have e : l.toArray[t / 23]! = l[t / 23] := by rw [getElem!_pos _ _ (by simpa using hj)]; simp
  rw [e, this]

set_option maxHeartbeats 4000000 in
set_option maxRecDepth 1000000 in
theorem delete_any (v : List Nat) (l : List OpN) (n cap blk g : Nat) (w : World) (hH : HoldsK encO 23 w blk 0 l.toArray) (hblk : blk < w.heap.size) (hv : VecAt w g v) (hne : g ≠ blk) (hn : l.length = n) (hn1 : n ≤ 1000) (hcap : n ≤ cap) :
    Calls Try.prog 25 #[.slice (some ⟨blk, 0, none⟩) n cap, .func (.func 27) #[] #[.pointer (some ⟨g, 0, none⟩)]] w (GivesK w blk cap (kept v l)) := by
  have hrd : RdO w (some ⟨blk, 0, none⟩) n l := by
    have h := rd_of hH (by simp; omega)
    simpa [hn] using h
  have q := index_any l n cap (some ⟨blk, 0, none⟩) g v w hrd hv
  by_cases hf : fidx v l < n
  · rw [if_pos hf] at q
    obtain ⟨f, hfe⟩ : ∃ f, f = fidx v l := ⟨_, rfl⟩
    rw [← hfe] at q hf
    have R : RowK encO 23 w blk 0 l.toArray := ⟨encO_length, encO_one, hH, hblk⟩
    have hsz : l.toArray.size = n := by simpa using hn
    obtain ⟨kp, hkp⟩ : ∃ kp : Nat → Bool, kp = fun j => !hadB v l.toArray[j]! := ⟨_, rfl⟩
    have hstart : KeptInv kp l.toArray (f + 1) f l.toArray := by
      refine KeptInv.start (fun j hj => ?_) ?_
      · rw [hkp]
        show (!hadB v l.toArray[j]!) = true
        rw [fidx_before (v := v) (l := l) (j := j) (x := l.toArray[j]!) (by rw [List.getElem?_eq_getElem (by omega), getElem!_pos _ _ (by simp; omega)]; simp) (by omega)]
        rfl
      · rw [hkp]
        show (!hadB v l.toArray[f]!) = false
        have : hadB v l.toArray[f]! = true := fidx_at (v := v) (l := l) (by rw [← hfe, List.getElem?_eq_getElem (by omega), getElem!_pos _ _ (by simp; omega)]; simp)
        rw [this]
        rfl
    have hkept : kept v l = keptUpTo kp l.toArray l.toArray.size := by
      rw [hkp, keptUpTo_filter (fun x => !hadB v x)]
      rfl
    rw [hkept, hsz]
    have HKP := Lib.hid hkp
    have S0 := SWK.start (w0 := w) hH
    have HS := Lib.hid hstart
    have HV := Lib.hid hv
    have HSZ := Lib.hid hsz
    have hkp2 : ∀ j, kp j = !hadB v l.toArray[j]! := fun j => by rw [hkp]
    generalize l.toArray = d at *
    have HKP2 := Lib.hid hkp2
    have Q := Lib.hid q
    have HSW := Lib.hid S0
    have HNE := Lib.hid hne
    clear hH hv hrd q hkp hstart hkept S0 hsz hfe hne hkp2 HKP hn
    go_enter Try.func25, Try.ntmps25
    go_wp2_with fail
    refine Q.out.mono ?_
    rintro e w3 ⟨rfl, hg⟩
    have S3 : Hid (SW w blk 0 d w3) := by
      obtain ⟨p, os, rfl⟩ := hg.grown
      exact HSW.out.grown p os
    clear hg HSW
    have e1 : ((f : Int) == -1) = false := beq_eq_false_iff_ne.2 (by omega)
    go_wp2_with fail
    go_loopw [5, 6, 7] (fun vi vj _ wr => ∃ (i j : Nat) (dk : Array OpN), i < j ∧ j ≤ n ∧ vi = .int .i64 (i : Int) ∧ vj = .int .i64 (j : Int) ∧ Hid (KeptInv kp d j i dk) ∧ Hid (SW w blk 0 dk wr)) (fun _ vj _ _ => n - (intOf vj).toNat)
    case atStart => exact ⟨f, f + 1, d, by omega, by omega, rfl, by go_num, HS, S3⟩
    case round =>
      clear S3 HS
      obtain ⟨i, j, dk, hij, hjn, rfl, rfl, HK, S1⟩ := hrel
      have hds : dk.size = n := HK.out.size.trans HSZ.out
      by_cases hlt : j < n
      · have la := loadK (S1.out.load R HK.out.size Try.prog j (by omega))
        rw [HK.out.high j (by omega), Nat.zero_add] at la
        obtain ⟨x, hx⟩ : ∃ x, x = d[j]! := ⟨_, rfl⟩
        rw [← hx] at la
        have hvx := HKP2.out j
        rw [← hx] at hvx
        have S2 := Lib.hid (S1.out.alloc (.cells (encO x).toArray 54))
        have hVr : VecAt (wr.alloc (.cells (encO x).toArray 54)) g v := HV.out.kept (grown_swk S2.out) (fun e => HNE.out (by injection e with e; exact e.symm))
        have q := pick1_any x.1 x.2 g v _ hVr
        have HO := Lib.hid (OpAt.new wr x.2)
        have i0 : (0 : Int) ≤ (j : Int) := by omega
        have i1 : (j : Int) < (n : Int) := by omega
        have i2 : (0 : Int) ≤ (i : Int) := by omega
        have i3 : (i : Int) < (n : Int) := by omega
        have HX := Lib.hid hx
        cases hb : hadB v x with
        | false =>
          have hxf : hasB v x.1.rep x.1.seq = false := hb
          rw [hxf] at q
          have HK2 := Lib.hid (HK.out.keep (by rw [HSZ.out]; exact hlt) (by rw [hvx, hb]; rfl))
          rw [← hx] at HK2
          have Q2 := Lib.hid q
          have HDS := Lib.hid hds
          clear hx hvx hb hxf q hVr hds
          go_wp2_with (first
            | (refine store_new (w := wr) x.2 (zs := (opA zeroOp).toArray) (by rw [List.size_toArray]; exact opA_length okZero) rfl (.tmp 7) (.tmp 25) rfl rfl rfl ?_)
            | (refine OpAt.load_list HO.out rfl (.tmp 7) rfl rfl ?_))
          refine Q2.out.mono ?_
          rintro e w4 ⟨rfl, hg4⟩
          have S4 : Hid (SW w blk 0 dk w4) := by
            obtain ⟨p, os, rfl⟩ := hg4.grown
            exact S2.out.grown p os
          have HO4 := Lib.hid (HO.out.below hg4.below)
          have sa := storeK (encO_length x) (stores_of_holds Try.prog (S4.out.holds R.hblk R.hH HK.out.size) (i * 23) (encO x) (by rw [encO_length, size_flatK]; have := rowK_bnd dk 23 i (by rw [HDS.out]; omega); omega) (encO_one x))
          have S5 := Lib.hid (swk_set S4.out R.hblk i x (by rw [HDS.out]; omega))
          rw [Nat.zero_add] at sa S5
          have sa2 : (stK 54 ⟨blk, i * 23, none⟩ (.agg (opA x.1).toArray)).run Try.prog w4 = .ok () (w4.setCells blk (i * 23) (encO x)) := sa
          clear hg4 la sa
          go_wp2_with (first
            | (refine OpAt.load_list HO4.out rfl (.tmp 7) rfl rfl ?_))
          go_roundw
          case rel => exact ⟨i + 1, j + 1, _, by omega, by omega, by go_num, by go_num, HK2, S5⟩
          case measure => simp [intOf]; omega
        | true =>
          have hxf : hasB v x.1.rep x.1.seq = true := hb
          rw [hxf] at q
          have HK2 := Lib.hid (HK.out.skip (by rw [hvx, hb]; rfl))
          have Q2 := Lib.hid q
          clear hx hvx hb hxf q hVr hds
          go_wp2_with (first
            | (refine store_new (w := wr) x.2 (zs := (opA zeroOp).toArray) (by rw [List.size_toArray]; exact opA_length okZero) rfl (.tmp 7) (.tmp 25) rfl rfl rfl ?_)
            | (refine OpAt.load_list HO.out rfl (.tmp 7) rfl rfl ?_))
          refine Q2.out.mono ?_
          rintro e w4 ⟨rfl, hg4⟩
          have S4 : Hid (SW w blk 0 dk w4) := by
            obtain ⟨p, os, rfl⟩ := hg4.grown
            exact S2.out.grown p os
          clear hg4 la
          go_wp2_with fail
          go_roundw
          case rel => exact ⟨i, j + 1, _, by omega, by omega, rfl, by go_num, HK2, S4⟩
          case measure => simp [intOf]; omega
      · have hjn2 : j = n := by omega
        subst hjn2
        have hHd := S1.out.holds R.hblk R.hH HK.out.size
        obtain ⟨vs, hcl⟩ := clear_run hHd i (cap - i) (by omega)
        rw [hds] at hcl
        have hlen := HK.out.len
        have HLOW := Lib.hid HK.out.low
        have HSM := Lib.hid (grown_swk S1.out)
        have HHD := Lib.hid hHd
        have HDS := Lib.hid hds
        have HLEN := Lib.hid hlen
        have i2 : (0 : Int) ≤ (i : Int) := by omega
        have i3 : (i : Int) ≤ (j : Int) := by omega
        have i4 : (i : Int) < (cap : Int) := by omega
        have i5 : ¬ cap = i := by omega
        clear hds hHd hlen hlt
        go_wp2_with fail
        go_ret
        have hgr := setCells_grown blk vs (i * 23) wr
        refine ⟨by rw [HLEN.out]; rfl, ?_, grownBy_trans HSM.out hgr, Nat.le_trans HSM.out.size hgr.size⟩
        have h1 := holds_head (l := keptUpTo kp d j) HHD.out (by rw [HLEN.out, HDS.out]; omega) (by rw [HLEN.out]; exact HLOW.out)
        intro t ht
        obtain ⟨c1, c2⟩ := h1 t ht
        have ht' : t < i * 23 := by
          have : t < (keptUpTo kp d j).length * 23 := by simpa using ht
          rwa [HLEN.out] at this
        refine ⟨?_, by rw [World.frozen?_setCells]; exact c2⟩
        rw [World.cell?_setCells_out blk vs (i * 23) wr _ (fun _ _ => .inl (by show 0 + t < _; omega))]
        exact c1
  · rw [if_neg hf] at q
    have hfl := fidx_le v l
    have hall := fidx_none (v := v) (l := l) (by omega)
    have hk : kept v l = l := List.filter_eq_self.2 (fun x hx => by rw [hall x hx]; rfl)
    rw [hk]
    have Q := Lib.hid q
    have HH := Lib.hid hH
    have HNN := Lib.hid hn
    clear q hH hv hrd hall hk hfl hn hf
    go_enter Try.func25, Try.ntmps25
    go_wp2_with fail
    refine Q.out.mono ?_
    rintro e w3 ⟨rfl, hg⟩
    have HG := Lib.hid hg
    clear hg
    go_wp2_with fail
    go_ret
    refine ⟨by rw [HNN.out]; rfl, ?_, ⟨HG.out.below.os, HG.out.below.tape, HG.out.below.output, HG.out.below.size, fun k hk _ => HG.out.below.block k hk⟩, HG.out.below.size⟩
    obtain ⟨p, os, he⟩ := HG.out.grown
    rw [he]
    exact holdsK_grow encO 23 _ os blk 0 _ (by exact hblk) HH.out
end Go.Proofs.Ytkhjmegjnglkgaa.Vc
