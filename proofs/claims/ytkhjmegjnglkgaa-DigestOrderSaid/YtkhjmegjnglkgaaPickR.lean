/-
  The walk of the reference's Pick.
-/
import Derived.Test.YtkhjmegjnglkgaaPickK
import Derived.Test.YtkhjmegjnglkgaaHasR
namespace Go.Proofs.Ytkhjmegjnglkgaa.Vc
open Go.RowKit Go.Proofs.Ytkhjmegjnglkgaa.Wd Go.Sort Go.Proofs Go.Lib Go.Proofs.Ytkhjmegjnglkgaa.Sym Go.Great
set_option linter.unusedVariables false

theorem loadDotAt {W : World} {a : Addr} {x y : Value} (h0 : W.cell? a = some x) (h1 : W.cell? (a.add 1) = some y) : (ldK 45 a).run Try.prog W = .ok (.agg #[x, y]) W := by
  have h1' : W.cell? { block := a.block, off := a.off + 1 } = some y := h1
  simp [ldK, go_sem, h0, h1']
theorem RdO.dot {w : World} {ad : Addr} {n : Nat} {l : List OpN} (h : RdO w (some ad) n l) {k : Nat} (hk : k < n) (W : World) (hb : Below w.heap.size w W) : (ldK 45 (ad.add (k * 23))).run Try.prog W = .ok (.agg #[.int .u8 ((l[k]!.1.rep : Nat) : Int), .int .u32 ((l[k]!.1.seq : Nat) : Int)]) W := by
  obtain ⟨ad', e, hc⟩ := (h.below hb).cell (by omega)
  injection e with e
  subst e
  have hl : k < l.length := by rw [h.len]; exact hk
  have hx : l[k]? = some l[k]! := by rw [List.getElem?_eq_getElem hl, getElem!_pos l k hl]
  refine loadDotAt ?_ ?_
  · exact hc (k * 23 + 0) _ (by rw [flatL_get l k 0 _ hx (by omega)]; rfl)
  · rw [add_of_add]
    exact hc (k * 23 + 1) _ (by rw [flatL_get l k 1 _ hx (by omega)]; rfl)
attribute [local go_sem ↓] ldKx
set_option maxHeartbeats 4000000 in
set_option maxRecDepth 100000 in
theorem pickR_any (l : List OpN) (n cap : Nat) (A : Option Addr) (v : List Nat) (m : Int) (hm0 : -9223372036854775808 ≤ m) (hm1 : m ≤ 9223372036854775807) (w : World) (hr : RdO w A n l) (hn : n ≤ 60) (hv : IsVec v) :
    Calls Try.prog 19 #[.slice A n cap, .agg (vecA v), .int .i64 m] w (GivesPk w v l m) := by
  have H0 := Lib.hid ((Gr.refl w).alloc (.cells (vecA v) 24))
  have H1 := Lib.hid (VecAt.new w hv)
  have HR := Lib.hid (hr.below ((Below.refl _ _).alloc (Nat.le_refl _) (.cells (vecA v) 24)))
  have HLEN := Lib.hid hr.len
  have HV := Lib.hid hv
  clear hr hv
  have hmix := mix
  go_enter Try.func19, Try.ntmps19
  go_wp2_with fail
  generalize w.alloc (.cells (vecA v) 24) = w2 at *
  go_loopw [7, 8] (fun d7 i wr => ∃ k : Nat, k ≤ n ∧ i = .int .i64 (k : Int) ∧ Hid (OwnO wr w2.heap.size d7 (kept v (l.take k))) ∧ Hid (Below w2.heap.size w2 wr)) (fun _ i _ => n - (intOf i).toNat)
  case atStart => exact ⟨0, Nat.zero_le _, rfl, OwnO.nil_ _ _, Below.refl _ _⟩
  case round =>
    obtain ⟨k, hk, rfl, HO, HW⟩ := hrel
    have hsz := HW.out.size
    by_cases hlt : k < n
    · have hkl : k < l.length := by rw [HLEN.out]; exact hlt
      have HKL := Lib.hid hkl
      clear hkl
      obtain ⟨ad, hA, _⟩ := HR.out.cell (by omega)
      subst hA
      have hrr := HR.out.below HW.out
      have d0 := fun n' os => hrr.dot hlt _ (gr_grow wr n' os).below
      have v0 := fun n' os => ((H1.out.below HW.out).below (gr_grow wr n' os).below).load
      have HRR := Lib.hid hrr
      have q := fun W => hasR_any v l[k]!.1.rep l[k]!.1.seq HV.out l[k]!.2.rep l[k]!.2.seq W
      have hsn := kept_snoc (v := v) HKL.out
      have htl : (kept v (l.take k)).length ≤ k := Nat.le_trans (List.length_filter_le _ _) (List.length_take_le _ _)
      have HTL := Lib.hid htl
      obtain ⟨x, hx⟩ : ∃ x, x = l[k]! := ⟨_, rfl⟩
      rw [← hx] at hsn
      have hld : ∀ W, Below wr.heap.size wr W → (ldK 54 (ad.add (k * 23))).run Try.prog W = .ok (.agg (opA x.1).toArray) W := fun W hW => by
        obtain ⟨ad2, e, h⟩ := load_own (HRR.out.below hW) hlt
        injection e with e
        subst e
        rw [hx]
        exact h
      have HLD := Lib.hid hld
      have hb : hadB v x = hasB v l[k]!.1.rep l[k]!.1.seq := by rw [hx]; rfl
      generalize l[k]!.1.rep = rp at *
      generalize l[k]!.1.seq = sq at *
      have i0 : (0 : Int) ≤ (k : Int) := by omega
      have i1 : (k : Int) < (n : Int) := by omega
      cases hbv : hadB v x with
      | true =>
        rw [← hb, hbv] at q
        rw [hbv, if_pos rfl] at hsn
        have Q := Lib.hid q
        have HSN := Lib.hid hsn
        clear q hsn hbv hb hx hrr htl hld
        go_wp2_with fail
        go_quiet_grown (first | (go_at_call 20; exact grown_gr (Q.out _)))
        have HB2 := Lib.hid (HW.out.trans ((gr_grow wr nq osq).below.mono hsz))
        have HO2 := Lib.hid (HO.out.below (gr_grow wr nq osq).below)
        clear d0 v0
        generalize Sort.grow (wr.drewN nq) osq = w3 at *
        go_wp2_with fail
        go_roundw
        case rel => exact ⟨k + 1, by omega, by go_num, by unfold Hid; rw [HSN.out]; exact HO2.out, HB2.out⟩
        case measure => simp [intOf]; omega
      | false =>
        rw [← hb, hbv] at q
        rw [hbv, if_neg Bool.false_ne_true] at hsn
        have Q := Lib.hid q
        have HSN := Lib.hid hsn
        clear q hsn hbv hb hx hrr htl hld
        go_wp2_with fail
        go_quiet_grown (first | (go_at_call 20; exact grown_gr (Q.out _)))
        have HB2 := Lib.hid (HW.out.trans ((gr_grow wr nq osq).below.mono hsz))
        have HO2 := Lib.hid (HO.out.below (gr_grow wr nq osq).below)
        have hl3 := HLD.out _ (gr_grow wr nq osq).below
        clear d0 v0
        generalize Sort.grow (wr.drewN nq) osq = w3 at *
        have HO3 := Lib.hid (HO2.out.below ((Below.refl _ _).alloc (Nat.le_refl _) (.cells (flatL [x]).toArray 54)))
        have HB3 := Lib.hid (HB2.out.alloc HB2.out.size (.cells (flatL [x]).toArray 54))
        go_wp2_with (first
          | (refine wpList_buildSliceTo rfl 40 54 1 _ rfl _ rfl _ rfl Try.underlying40 _ (by simp only [List.map_toArray, List.map_cons, List.map_nil]; exact build_one x) ?_)
          | (at_builtin; refine appO_lies w2.heap.size rfl (.tmp 28) (.tmp 33) rfl rfl rfl HO3.out (rdOne w3 x) (by omega) (by have := HTL.out; omega) HB3.out.size ?_; intro v4 w4 ho4 hg4 hlie4; have HO4 := Lib.hid ho4; have HB4 := Lib.hid (HB3.out.grown hg4 HB3.out.size (fun kk hkk => (HO3.out.row.lt kk hkk).1)); clear ho4 hg4 hlie4))
        go_roundw
        case rel => exact ⟨k + 1, by omega, by go_num, by unfold Hid; rw [HSN.out]; exact HO4.out, HB4.out⟩
        case measure => simp [intOf]; omega
    · have hkn : l.take k = l := List.take_of_length_le (by rw [HLEN.out]; omega)
      have hq := HO.out
      rw [hkn] at hq
      obtain ⟨L, hL⟩ : ∃ L, L = kept v l := ⟨_, rfl⟩
      rw [← hL] at hq
      obtain ⟨N, hN⟩ : ∃ N, N = L.length := ⟨_, rfl⟩
      have hN60 : N ≤ 60 := by
        have := List.length_filter_le (fun x => !hadB v x) l
        rw [HLEN.out] at this
        rw [hN, hL]
        exact Nat.le_trans this hn
      obtain ⟨A7, c7, hd7⟩ := hq.sl
      subst hd7
      have HRL := Lib.hid hq.rdo.2
      rw [← hN] at HRL ⊢
      have HL := Lib.hid hL
      have HNL := Lib.hid hN
      have HBW := Lib.hid HW.out
      clear hkn hq hL hN HO hsz HW
      go_wp2_with fail
      clear hlt hk
      go_loopw [7, 9, 10, 11, 12, 13] (fun d7 d9 _ _ _ _ ws => ∃ (A7 A9 : Option Addr) (c7 c9 n7 n9 : Nat) (lft o : List OpN), d7 = .slice A7 n7 c7 ∧ d9 = .slice A9 n9 c9 ∧ n9 + n7 = N ∧ (n9 : Int) ≤ max m 0 ∧ Hid (RdO ws A7 n7 lft) ∧ Hid (OwnO ws w2.heap.size (.slice A9 n9 c9) o) ∧
        Hid (∀ b, (Value.slice A9 n9 c9).ownBlock = some b → ∀ ad, A7 = some ad → ad.block ≠ b) ∧ Hid (o ++ selN (ltOf cf) n7 lft = selN (ltOf cf) N L) ∧ Hid (Below w2.heap.size w2 ws)) (fun d7 _ _ _ _ _ _ => match d7 with | .slice _ n7 _ => n7 | _ => 0)
      case atStart => exact ⟨A7, none, c7, 0, N, 0, L, [], rfl, rfl, by omega, by omega, HRL, OwnO.nil_ _ _, fun b hb => by simp [Value.ownBlock] at hb, rfl, HBW⟩
      case round =>
        clear HRL HBW
        obtain ⟨A7, A9, c7, c9, n7, n9, lft, o, rfl, rfl, hsum, hmax, HL7, HO9, HSEP, HSEL, HB⟩ := hrel
        generalize wr = ws at *
        by_cases hgo : 0 < n7 ∧ (n9 : Int) < m
        · obtain ⟨hg7, hg9⟩ := hgo
          have hg7z : (0 : Int) < (n7 : Int) := by omega
          have hlen7 := HL7.out.len
          have LEN7 := Lib.hid hlen7
          have HS := HB.out.size
          clear hlen7
          go_wp2_with fail
          -- the inner search
          go_loopw [10, 11] (fun vb vi wr => ∃ k : Nat, k + 1 ≤ n7 ∧ vi = .int .i64 ((k : Int) + 1) ∧ vb = .int .i64 ((bst (ltOf cf) lft k : Nat) : Int) ∧ Hid (Gr ws wr)) (fun _ vi _ => n7 - (intOf vi).toNat)
          case atStart => exact ⟨0, by omega, rfl, rfl, Gr.refl _⟩
          case round =>
            obtain ⟨k, hk1, rfl, rfl, HG⟩ := hrel
            have hbk := bst_le (lt := ltOf cf) lft k
            by_cases hlt : k + 1 < n7
            · have hr7 := HL7.out.below HG.out.below
              obtain ⟨ad, hA, _⟩ := load_own hr7 hlt
              subst hA
              have l1 : ∀ n' os, (ldK 54 (ad.add ((k + 1) * 23))).run Try.prog (Sort.grow (wr.drewN n') os) = .ok (.agg (opA lft[k + 1]!.1).toArray) (Sort.grow (wr.drewN n') os) := fun n' os => by
                obtain ⟨ad2, e, h⟩ := load_own (hr7.below (gr_grow wr n' os).below) hlt
                injection e with e
                subst e
                exact h
              have l2 : ∀ n' os, (ldK 54 (ad.add (bst (ltOf cf) lft k * 23))).run Try.prog (Sort.grow (wr.drewN n') os) = .ok (.agg (opA lft[bst (ltOf cf) lft k]!.1).toArray) (Sort.grow (wr.drewN n') os) := fun n' os => by
                obtain ⟨ad2, e, h⟩ := load_own (hr7.below (gr_grow wr n' os).below) (show bst (ltOf cf) lft k < n7 by omega)
                injection e with e
                subst e
                exact h
              have q := fun W => lessR_any lft[k + 1]!.1 lft[bst (ltOf cf) lft k]!.1 lft[k + 1]!.2 lft[bst (ltOf cf) lft k]!.2 W
              have hlb : lessB lft[k + 1]!.1 lft[bst (ltOf cf) lft k]!.1 = ltOf cf lft[k + 1]! lft[bst (ltOf cf) lft k]! := (ltOf_iff _ _).symm
              have hb1 : bst (ltOf cf) lft (k + 1) = if ltOf cf lft[k + 1]! lft[bst (ltOf cf) lft k]! then k + 1 else bst (ltOf cf) lft k := rfl
              rw [hlb] at q
              generalize ltOf cf lft[k + 1]! lft[bst (ltOf cf) lft k]! = bv at *
              obtain ⟨b1, hb1e⟩ : ∃ b1, b1 = bst (ltOf cf) lft (k + 1) := ⟨_, rfl⟩
              rw [← hb1e] at hb1
              have HB1E := Lib.hid hb1e
              generalize hbb : bst (ltOf cf) lft k = b at *
              generalize (opA lft[k + 1]!.1).toArray = X at *
              generalize (opA lft[b]!.1).toArray = Y at *
              have Q := Lib.hid q
              have i0 : (0 : Int) ≤ (k : Int) + 1 := by omega
              have i1 : (k : Int) + 1 < (n7 : Int) := by omega
              have i2 : (0 : Int) ≤ (b : Int) := by omega
              have i3 : (b : Int) < (n7 : Int) := by omega
              have i4 : ((k : Int) + 1).toNat = k + 1 := by omega
              have hmix := mix
              clear q hlb hr7 hb1e hbb
              cases bv with
              | true =>
                rw [if_pos rfl] at hb1
                have HB1 := Lib.hid hb1
                clear hb1
                go_wp2_with fail
                go_quiet_grown (first | (go_at_call 24; exact grown_gr (Q.out _)))
                have HG2 := Lib.hid (HG.out.trans (gr_grow wr nq osq))
                clear l1 l2
                go_wp2_with fail
                go_roundw
                case rel => exact ⟨k + 1, by omega, by first | rfl | go_num | (congr 1; omega), by rw [← HB1E.out, HB1.out]; first | rfl | go_num | (congr 1; omega), HG2.out⟩
                case measure => simp [intOf]; omega
              | false =>
                rw [if_neg Bool.false_ne_true] at hb1
                have HB1 := Lib.hid hb1
                clear hb1
                go_wp2_with fail
                go_quiet_grown (first | (go_at_call 24; exact grown_gr (Q.out _)))
                have HG2 := Lib.hid (HG.out.trans (gr_grow wr nq osq))
                clear l1 l2
                go_wp2_with fail
                go_roundw
                case rel => exact ⟨k + 1, by omega, by first | rfl | go_num | (congr 1; omega), by rw [← HB1E.out, HB1.out], HG2.out⟩
                case measure => simp [intOf]; omega
            · have hk2 : k = lft.length - 1 := by rw [LEN7.out]; omega
              obtain ⟨b, hb⟩ : ∃ b, b = bst (ltOf cf) lft k := ⟨_, rfl⟩
              rw [← hb] at hbk ⊢
              have hbI : b = bestI (ltOf cf) lft := by rw [hb, hk2]; rfl
              have HBI := Lib.hid hbI
              have hb7 : b < n7 := by omega
              have hr7 := HL7.out.below HG.out.below
              obtain ⟨ad, hA, hld⟩ := load_own hr7 hb7
              obtain ⟨x, hx⟩ : ∃ x, x = lft[b]! := ⟨_, rfl⟩
              rw [← hx] at hld
              have HX := Lib.hid hx
              have HR7 := Lib.hid hr7
              have HA := Lib.hid hA
              have i0 : (0 : Int) ≤ (b : Int) := by omega
              have i1 : (b : Int) < (n7 : Int) := by omega
              have HBr := Lib.hid (HB.out.trans (HG.out.below.mono HS))
              have HO3 := Lib.hid ((HO9.out.below HG.out.below).below ((Below.refl _ _).alloc (Nat.le_refl _) (.cells (flatL [x]).toArray 54)))
              have HB3 := Lib.hid (HBr.out.alloc HBr.out.size (.cells (flatL [x]).toArray 54))
              have HR8 := Lib.hid (hr7.below ((Below.refl _ _).alloc (Nat.le_refl _) (.cells (flatL [x]).toArray 54)))
              have hn9 := HO9.out.rdo.1
              have HN9 := Lib.hid hn9
              have ho60 : o.length ≤ 60 := by omega
              clear hb hbI hx hr7 hk1 hk2 hn9 HL7 HO9 HB HG HBr
              have hA2 := HA.out
              subst hA2
              go_wp2_with (first
                | (refine wpList_buildSliceTo rfl 40 54 1 _ rfl _ rfl _ rfl Try.underlying40 _ (by simp only [List.map_toArray, List.map_cons, List.map_nil]; exact build_one x) ?_)
                | (at_builtin; refine appO_lies w2.heap.size rfl (.tmp 60) (.tmp 65) rfl rfl rfl HO3.out (rdOne wr x) (by omega) (by omega) HB3.out.size ?_; intro v9 w9 ho9 hg9 hlie; have HO5 := Lib.hid ho9; have HG9 := Lib.hid hg9; have HLIE := Lib.hid hlie; clear ho9 hg9 hlie))
              have hR9 := HR8.out.kept HG9.out HSEP.out
              have hB9 := HB3.out.grown HG9.out HB3.out.size (fun kk hkk => (HO3.out.row.lt kk hkk).1)
              obtain ⟨A9', c9', hv9⟩ := HO5.out.sl
              rw [List.length_append, ← HN9.out] at hv9
              subst hv9
              have hHO5 := HO5.out
              have L9 := Lib.hid hR9
              have HB9 := Lib.hid hB9
              have ho5e : [x].length = 1 := rfl
              rw [ho5e] at HO5 ⊢
              clear hR9 hB9 hld HO3 HB3 HR8 HR7 HG9 HLIE HSEP hHO5 ho5e hlt hbk HA
              go_wp2_with fail
              go_loopw [12, 13] (fun d12 vj wq => ∃ k : Nat, k ≤ n7 ∧ vj = .int .i64 (k : Int) ∧ Hid (OwnO wq w9.heap.size d12 ((lft.take k).eraseIdx b)) ∧ Hid (Below w9.heap.size w9 wq)) (fun _ vj _ => n7 - (intOf vj).toNat)
              case atStart => exact ⟨0, Nat.zero_le _, rfl, by unfold Hid; simpa using OwnO.nil_ _ _, Below.refl _ _⟩
              case round =>
                obtain ⟨k, hk, rfl, HO, HW⟩ := hrel
                have hsz := HW.out.size
                by_cases hlt : k < n7
                · have hes := erase_snoc (l := lft) (k := k) (b := b) (by rw [LEN7.out]; exact hlt)
                  by_cases hkb : k = b
                  · subst hkb
                    rw [if_pos rfl] at hes
                    have HES := Lib.hid hes
                    clear hes
                    go_wp2_with fail
                    go_roundw
                    case rel => exact ⟨k + 1, by omega, by go_num, by unfold Hid; rw [HES.out]; exact HO.out, HW.out⟩
                    case measure => simp [intOf]; omega
                  · rw [if_neg hkb] at hes
                    obtain ⟨y, hy⟩ : ∃ y, y = lft[k]! := ⟨_, rfl⟩
                    rw [← hy] at hes
                    have HES := Lib.hid hes
                    obtain ⟨ad2, hA2, hld⟩ := load_own (L9.out.below HW.out) hlt
                    injection hA2 with hA2
                    subst hA2
                    rw [← hy] at hld
                    have hlen : ((lft.take k).eraseIdx b).length ≤ k := Nat.le_trans (List.length_eraseIdx_le _ _) (List.length_take_le _ _)
                    have HLE := Lib.hid hlen
                    have HO3 := Lib.hid (HO.out.below ((Below.refl _ _).alloc (Nat.le_refl _) (.cells (flatL [y]).toArray 54)))
                    have HB3 := Lib.hid (HW.out.alloc hsz (.cells (flatL [y]).toArray 54))
                    have j0 : (0 : Int) ≤ (k : Int) := by omega
                    have j1 : (k : Int) < (n7 : Int) := by omega
                    have e1 : ((k : Int) != (b : Int)) = true := by rw [bne_iff_ne]; omega
                    clear hes hy hlen hkb
                    go_wp2_with (first
                      | (refine wpList_buildSliceTo rfl 40 54 1 _ rfl _ rfl _ rfl Try.underlying40 _ (by simp only [List.map_toArray, List.map_cons, List.map_nil]; exact build_one y) ?_)
                      | (at_builtin; refine appO_lies w9.heap.size rfl (.tmp 76) (.tmp 81) rfl rfl rfl HO3.out (rdOne wr y) (by omega) (by have := HLE.out; omega) HB3.out.size ?_; intro v4 w4 ho4 hg4 hlie4; have HO4 := Lib.hid ho4; have HB4 := Lib.hid (HB3.out.grown hg4 HB3.out.size (fun kk hkk => (HO3.out.row.lt kk hkk).1)); clear ho4 hg4 hlie4))
                    go_roundw
                    case rel => exact ⟨k + 1, by omega, by go_num, by unfold Hid; rw [HES.out]; exact HO4.out, HB4.out⟩
                    case measure => simp [intOf]; omega
                · have hkn : lft.take k = lft := List.take_of_length_le (by rw [LEN7.out]; omega)
                  have hq := HO.out
                  rw [hkn] at hq
                  obtain ⟨A12, c12, hd12⟩ := hq.sl
                  have hl12 : (lft.eraseIdx b).length = n7 - 1 := by rw [List.length_eraseIdx, if_pos (by rw [LEN7.out]; exact hb7), LEN7.out]
                  rw [hl12] at hd12
                  subst hd12
                  have hrd := hq.rdo.2
                  rw [hl12] at hrd
                  have hsep : ∀ b', (Value.slice A9' (n9 + 1) c9').ownBlock = some b' → ∀ ad', A12 = some ad' → ad'.block ≠ b' := fun b' h1 ad' h2 => by
                    have e1 := (HO5.out.row.lt b' h1).2
                    have e2 := (hq.row.lt ad'.block (by rw [own_block, h2]; rfl)).1
                    omega
                  have hsel : (o ++ [x]) ++ selN (ltOf cf) (n7 - 1) (lft.eraseIdx b) = selN (ltOf cf) N L := by
                    rw [← HSEL.out, show n7 = (n7 - 1) + 1 by omega, selN_cons (by intro e; have := LEN7.out; rw [e] at this; simp at this; omega), ← HBI.out, ← HX.out]
                    simp
                  have HRD := Lib.hid hrd
                  have HSEP2 := Lib.hid hsep
                  have HSEL2 := Lib.hid hsel
                  have HO6 := Lib.hid (HO5.out.below HW.out)
                  have HB6 := Lib.hid (HB9.out.trans (HW.out.mono HB9.out.size))
                  clear hq hl12 hrd hsep hsel hkn HO
                  go_wp2_with fail
                  go_roundw
                  case rel => exact ⟨A12, A9', c12, c9', n7 - 1, n9 + 1, lft.eraseIdx b, o ++ [x], rfl, rfl, by omega, by omega, HRD, HO6, HSEP2, HSEL2, HB6⟩
                  case measure => (try simp); omega
        · have hn9 := HO9.out.rdo.1
          have hfin : GivesPk w v l m (.returned (.slice A9 n9 c9)) ws := by
            have hlen := HNL.out
            have hpk : pickK v l m = n9 := by
              unfold pickK
              rw [← HL.out, ← hlen]
              omega
            refine ⟨A9, c9, by rw [hpk], ?_, H0.out.below.trans (HB.out.mono H0.out.below.size)⟩
            have hpd : picked v l (pickK v l m) = o := by
              unfold picked
              rw [hpk, ← HL.out, selN_take n9 N L (by omega), ← HSEL.out, hn9, List.take_left]
            rw [hpd, hpk, hn9]
            exact HO9.out.rdo.2
          have HFIN := Lib.hid hfin
          clear hfin hn9
          by_cases h7 : 0 < n7
          · have h7z : (0 : Int) < (n7 : Int) := by omega
            have h9z : ¬ (n9 : Int) < m := by omega
            go_wp2_with fail
            go_ret
            exact HFIN.out
          · have h7z : n7 = 0 := by omega
            subst h7z
            go_wp2_with fail
            go_ret
            exact HFIN.out
end Go.Proofs.Ytkhjmegjnglkgaa.Vc
