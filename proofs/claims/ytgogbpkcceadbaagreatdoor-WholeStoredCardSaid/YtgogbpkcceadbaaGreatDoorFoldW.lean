/-
  fold.View.
-/
import Derived.Test.YtgogbpkcceadbaaGreatDoorFoldN
import Derived.Great.Walk
import Derived.Test.YtgogbpkcceadbaaGreatDoorHasM
namespace Go.Proofs.YtgogbpkcceadbaaGreatDoor.Vc
open Go.RowKit Go.Proofs.YtgogbpkcceadbaaGreatDoor.Wd Go.Proofs.YtgogbpkcceadbaaGreatDoor.Pk Go.Proofs.YtgogbpkcceadbaaGreatDoor.Sg
set_option linter.unusedVariables false
attribute [local go_sem ↓] ldKx stKx

theorem ViAt.up {w0 w : World} {V M cart : Nat} {lv : Value} {out : Bool} {tick : Nat} {D : DataW Ta} {n n' : Nat} {ls : List (Nat × Nat)} (h : ViAt w0 w V M cart lv out tick D n ls) (hn : n ≤ n') : ViAt w0 w V M cart lv out tick D n' ls :=
  ⟨h.res, h.row, World.ownsMap.mono h.map hn, h.blw, h.lines, h.hV, h.hM⟩
theorem vFold_tick (L : List OpN) (cart : Nat) : ∀ (l : List OpN) (s : VS), s.tick ≤ 4294967295 → (l.foldl (vStep L cart) s).tick ≤ 4294967295
  | [], s, h => h
  | x :: l, s, h => by
    rw [List.foldl_cons]
    refine vFold_tick L cart l _ ?_
    have := x.2.tick
    unfold vStep
    split
    · split
      · split <;> (show max _ _ ≤ _; omega)
      · show max _ _ ≤ _; omega
    · exact h
set_option maxHeartbeats 8000000 in
set_option maxRecDepth 100000 in
theorem view_any (l : List OpN) (n cap : Nat) (A : Option Addr) (cart : Nat) (hc : cart ≤ 65535) (hn : n ≤ 100) (w : World) (hr : RdO w A n l) :
    Calls Tryz.prog 8 #[.slice A n cap, .int .u16 (cart : Int)] w (GivesV w cart (viewV l cart)) := by
  have hfit := hr.fits
  obtain ⟨w1, hw1⟩ : ∃ w1, w1 = w.alloc (.cells #[.int .u16 0, .slice none 0 0, .bool false, .int .u32 0] 38) := ⟨_, rfl⟩
  obtain ⟨w2, hw2⟩ : ∃ w2, w2 = w1.alloc (.cells #[.int .u16 (cart : Int), .slice none 0 0, .bool false, .int .u32 0] 38) := ⟨_, rfl⟩
  obtain ⟨w3, hw3⟩ : ∃ w3, w3 = w2.alloc (.map #[] 0) := ⟨_, rfl⟩
  have s1 : w1.heap.size = w.heap.size + 1 := by rw [hw1]; simp
  have s2 : w2.heap.size = w.heap.size + 1 + 1 := by rw [hw2]; simp [s1]
  have b1 : Below w.heap.size w w1 := by rw [hw1]; exact (Below.refl _ _).alloc (Nat.le_refl _) _
  have b2 : Below w1.heap.size w1 w2 := by rw [hw2]; exact (Below.refl _ _).alloc (Nat.le_refl _) _
  have b3 : Below w2.heap.size w2 w3 := by rw [hw3]; exact (Below.refl _ _).alloc (Nat.le_refl _) _
  have r1 : w1.heap[w.heap.size]? = some (.cells #[.int .u16 0, .slice none 0 0, .bool false, .int .u32 0] 38 (0, 0)) := by rw [hw1]; exact heap_alloc_new w _
  have r2 : w2.heap[w.heap.size + 1]? = some (.cells #[.int .u16 (cart : Int), .slice none 0 0, .bool false, .int .u32 0] 38 (0, 0)) := by rw [hw2, ← s1]; exact heap_alloc_new w1 _
  have m3 : MapT w3 (w.heap.size + 1 + 1) 0 (.map []) := by rw [hw3, ← s2]; exact World.ownsMap_made w2 Tryz.prog 23 taR
  have HV3 := Lib.hid (show ViAt w w3 (w.heap.size + 1) (w.heap.size + 1 + 1) cart (.slice none 0 0) false 0 (.map []) 0 [] from
    ⟨by rw [b3.block _ (by omega), b2.block _ (by omega)]; exact r1, by rw [b3.block _ (by omega)]; exact r2, m3, (b1.trans (b2.mono (by omega))).trans (b3.mono (by omega)), OwnL.nil_ _ _, by omega, by omega⟩)
  have e3 : ((w.alloc (.cells #[.int .u16 0, .slice none 0 0, .bool false, .int .u32 0] 38)).alloc (.cells #[.int .u16 (cart : Int), .slice none 0 0, .bool false, .int .u32 0] 38)).alloc (.map #[] 0) = w3 := by rw [hw3, hw2, hw1]
  have sv := store_view (w.alloc (.cells #[.int .u16 0, .slice none 0 0, .bool false, .int .u32 0] 38)) (.int .u16 (cart : Int)) (.slice none 0 0) (.bool false) (.int .u32 0) (by simp [Value.oneCell']) #[.int .u16 0, .slice none 0 0, .bool false, .int .u32 0] rfl
  rw [World.size_alloc] at sv
  have hmm := @run_makeMap Tryz.prog
  have HR := Lib.hid hr
  have HC := Lib.hid hc
  have HN := Lib.hid hn
  clear hr hc b1 b2 b3 r1 r2 m3 s1 s2 hw1 hw2 hw3 w1 w2
  go_enter Tryz.func8, Tryz.ntmps8
  go_wp2_with fail
  clear sv hmm
  go_loopw [17] (fun i wr => ∃ k : Nat, k ≤ n ∧ i = .int .i64 (k : Int) ∧ Hid (ViAt w wr (w.heap.size + 1) (w.heap.size + 1 + 1) cart (.slice none 0 0) (vFold l cart (l.take k)).out (vFold l cart (l.take k)).tick (vFold l cart (l.take k)).map k [])) (fun i _ => n - (intOf i).toNat)
  case atStart => exact ⟨0, Nat.zero_le _, rfl, HV3.out⟩
  case round =>
    obtain ⟨k, hk, rfl, HV⟩ := hrel
    by_cases hlt : k < n
    · have hkl : k < l.length := by rw [HR.out.len]; exact hlt
      obtain ⟨x, hx⟩ : ∃ x, l[k]? = some x := ⟨_, List.getElem?_eq_getElem hkl⟩
      have htk : vFold l cart (l.take (k + 1)) = vStep l cart (vFold l cart (l.take k)) x := by rw [List.take_add_one, hx]; exact vFold_snoc l cart _ x
      have htick := vFold_tick l cart (l.take k) ⟨0, false, .map []⟩ (Nat.zero_le _)
      rw [show (l.take k).foldl (vStep l cart) ⟨0, false, .map []⟩ = vFold l cart (l.take k) from rfl] at htick
      have HTK := Lib.hid htk
      generalize vFold l cart (l.take k) = s at *
      obtain ⟨ad, hA, _⟩ := HR.out.cell (by omega)
      subst hA
      have hrr := HR.out.below HV.out.blw
      have hld := hrr.load hx _ (Below.refl _ _)
      have hso := store_opN wr x.1 x.2
      have i0 : (0 : Int) ≤ (k : Int) := by omega
      have i1 : (k : Int) < (n : Int) := by omega
      have HRR := Lib.hid hrr
      obtain ⟨w4, hw4⟩ : ∃ w4, w4 = wr.alloc (.cells (opA x.1).toArray 34) := ⟨_, rfl⟩
      rw [← hw4] at hso
      have g4 : Gr wr w4 := by rw [hw4]; exact (Gr.refl wr).alloc _
      have ho4 : OpAt w4 wr.heap.size x.1 := by rw [hw4]; exact OpAt.new wr x.2
      have HV4 := Lib.hid (HV.out.below g4.below)
      have HR4 := Lib.hid (hrr.below g4.below)
      have HO4 := Lib.hid ho4
      have lc := ho4.l3
      have lk := ho4.l2
      have lt := ho4.l6
      have lo := ho4.loads
      clear hx htk hkl hrr ho4 hw4 HRR
      by_cases hcc : x.1.cart = cart
      · rw [hcc] at lc
        have l3 := load_u32 (HV4.out.c 3)
        obtain ⟨T, hT⟩ : ∃ T, T = max s.tick x.1.tick := ⟨_, rfl⟩
        have hmx : max ((s.tick : Nat) : Int) ((x.1.tick : Nat) : Int) = (T : Int) := by omega
        have HT2 := Lib.hid (show T ≤ 4294967295 by have := x.2.tick; omega)
        have st := store_u32 (T : Int) (HV4.out.c 3) (HV4.out.fz 3)
        have hv5 := HV4.out.setV 3 (.int .u32 (T : Int)) (lv' := .slice none 0 0) (out' := s.out) (tick' := T) (ls' := []) HV4.out.lines rfl
        have hg5 := grown_setCell w4 (w.heap.size + 1) 3 (.int .u32 (T : Int))
        obtain ⟨w5, hw5⟩ : ∃ w5, w5 = w4.setCell ⟨w.heap.size + 1, 3, none⟩ (.int .u32 (T : Int)) := ⟨_, rfl⟩
        rw [← hw5] at st hv5 hg5
        have hlt2 := HV.out.ltV
        have ho5 := HO4.out.kept hg5 (fun e => by injection e; omega)
        have lo5 := ho5.loads
        have hr5 := HR.out.below hv5.blw
        have HV5 := Lib.hid hv5
        have HO5 := Lib.hid ho5
        have HR5 := Lib.hid hr5
        have QL := Lib.hid (live_any l n cap (some ad) x.1 w5 hr5 x.2)
        have HCC := Lib.hid hcc
        have HTT := Lib.hid hT
        clear hv5 hg5 hw5 ho5 hr5 hcc hT lo lk hlt2
        go_wp2_with fail
        refine QL.out.mono ?_
        rintro e w6 ⟨rfl, hg6⟩
        have HV6 := Lib.hid (HV5.out.below hg6.below)
        have ho6 := HO5.out.below hg6.below
        have lk6 := ho6.l2
        have HO6 := Lib.hid ho6
        clear hg6 QL lo5 st hmx l3 lc lt hso hld ho6
        cases hl : liveB l x.1 with
        | false =>
          have HS := Lib.hid (show vStep l cart s x = ⟨T, s.out, s.map⟩ by unfold vStep; rw [if_pos HCC.out, if_neg (by rw [hl]; decide), HTT.out])
          clear hl lk6
          go_wp2_with fail
          go_roundw
          case rel => exact ⟨k + 1, by omega, by go_num, by unfold Hid; rw [HTK.out, HS.out]; exact HV6.out.up (Nat.le_succ k)⟩
          case measure => simp [intOf]; omega
        | true =>
          by_cases h4 : x.1.kind = 4
          · have HS := Lib.hid (show vStep l cart s x = ⟨T, true, s.map⟩ by unfold vStep; rw [if_pos HCC.out, if_pos hl, if_pos h4, HTT.out])
            rw [h4] at lk6
            have st2 := store_bool true (HV6.out.c 2) (HV6.out.fz 2)
            have HV7 := Lib.hid (HV6.out.setV 2 (.bool true) (lv' := .slice none 0 0) (out' := true) (tick' := T) (ls' := []) HV6.out.lines rfl)
            clear hl h4
            go_wp2_with fail
            go_roundw
            case rel => exact ⟨k + 1, by omega, by go_num, by unfold Hid; rw [HTK.out, HS.out]; exact HV7.out.up (Nat.le_succ k)⟩
            case measure => simp [intOf]; omega
          · have HS := Lib.hid (show vStep l cart s x = ⟨T, s.out, s.map.put (.int .u16 (x.1.item : Int)) (.held (takeT (tAt s.map x.1.item) x.1))⟩ by unfold vStep; rw [if_pos HCC.out, if_pos hl, if_neg h4, HTT.out])
            have n4 : ¬ ((x.1.kind : Nat) : Int) = 4 := by omega
            clear hl h4
            go_wp2_with fail
            have HV6d := Lib.hid (HV6.out.below (drewN_below (Below.refl _ _) 1))
            obtain ⟨hok, hlk⟩ := MapT.look (w := w6.drew) HV6d.out.map x.2.item
            have HOK := Lib.hid hok
            have hs6 : OpAt w6.drew wr.heap.size x.1 := ⟨HO6.out.ok, HO6.out.row⟩
            clear hok lk6 n4
            refine wp_region_held_drew (S := fun W => OpAt W wr.heap.size x.1) (by kernel_rfl) hs6 (fun hHeld => ?_)
            refine held_take (i := 0) (some 31) (.map (some (w.heap.size + 1 + 1))) rfl rfl (by kernel_rfl) (by kernel_rfl) (by kernel_rfl) (fun _ _ _ h => h) (Or.inl ⟨by rfl, by intro w hSw; go_simp⟩) (by assumption) ?_
            try simp only [Act.put, List.setIfInBounds_toArray, List.set_cons_zero, List.set_cons_succ]
            refine held_take (i := 1) (some 32) (.pointer (some ⟨wr.heap.size, 4, none⟩)) rfl rfl (by kernel_rfl) (by kernel_rfl) (by kernel_rfl) (fun _ _ _ h => h) (Or.inl ⟨by rfl, by intro w hSw; go_simp⟩) (by assumption) ?_
            try simp only [Act.put, List.setIfInBounds_toArray, List.set_cons_zero, List.set_cons_succ]
            refine held_take (i := 2) (some 33) (.int .u16 ((x.1.item : Nat) : Int)) rfl rfl (by kernel_rfl) (by kernel_rfl) (by kernel_rfl) (fun _ _ _ h => h) (Or.inl ⟨by rfl, by intro w hSw; have l4 := hSw.l4; go_simp⟩) (by assumption) ?_
            try simp only [Act.put, List.setIfInBounds_toArray, List.set_cons_zero, List.set_cons_succ]
            refine held_take (i := 3) (some 34) (.map (some (w.heap.size + 1 + 1))) rfl rfl (by kernel_rfl) (by kernel_rfl) (by kernel_rfl) (fun _ _ _ h => h) (Or.inl ⟨by rfl, by intro w hSw; go_simp⟩) (by assumption) ?_
            try simp only [Act.put, List.setIfInBounds_toArray, List.set_cons_zero, List.set_cons_succ]
            refine held_take (i := 4) (some 35) (.pointer (some ⟨wr.heap.size, 4, none⟩)) rfl rfl (by kernel_rfl) (by kernel_rfl) (by kernel_rfl) (fun _ _ _ h => h) (Or.inl ⟨by rfl, by intro w hSw; go_simp⟩) (by assumption) ?_
            try simp only [Act.put, List.setIfInBounds_toArray, List.set_cons_zero, List.set_cons_succ]
            refine held_take (i := 5) (some 36) (.int .u16 ((x.1.item : Nat) : Int)) rfl rfl (by kernel_rfl) (by kernel_rfl) (by kernel_rfl) (fun _ _ _ h => h) (Or.inl ⟨by rfl, by intro w hSw; have l4 := hSw.l4; go_simp⟩) (by assumption) ?_
            try simp only [Act.put, List.setIfInBounds_toArray, List.set_cons_zero, List.set_cons_succ]
            refine held_take (i := 7) (some 38) (.agg (opA x.1).toArray) rfl rfl (by kernel_rfl) (by kernel_rfl) (by kernel_rfl) (fun _ _ _ h => h) (Or.inl ⟨by rfl, by intro w hSw; have l4 := hSw.loads; go_simp⟩) (by assumption) ?_
            try simp only [Act.put, List.setIfInBounds_toArray, List.set_cons_zero, List.set_cons_succ]
            refine wpAnyH_ready (rs := [6]) (by kernel_rfl) (by simp) ?_
            refine AllReadyH.cons rfl (fun K hK => ?_) AllReadyH.nil
            go_simp
            refine hK.out _ _ hs6 (fun hHeld => ?_)
            clear hK K
            try simp only [Act.put, List.setIfInBounds_toArray, List.set_cons_zero, List.set_cons_succ]
            refine wpAnyH_ready (rs := [8]) (by kernel_rfl) (by simp) ?_
            refine AllReadyH.cons rfl (fun K hK => ?_) AllReadyH.nil
            go_simp
            refine (take_any (tAt s.map x.1.item) x.1 HOK.out x.2 _).mono ?_
            rintro e w7 ⟨rfl, hb7⟩
            have hs7 : OpAt w7 wr.heap.size x.1 := hs6.below hb7
            have HV7 := Lib.hid (HV6d.out.below hb7)
            obtain ⟨w8, hup, hm8, hg8⟩ := MapT.put (w := w7) HV7.out.map x.2.item (by omega) (okTake HOK.out x.2)
            have hs8 : OpAt w8 wr.heap.size x.1 := hs7.kept hg8 (fun e => by injection e with e; have := HV.out.ltM; omega)
            have HV8 := Lib.hid (HV7.out.putM hm8 hg8)
            clear hb7 hm8 hg8
            refine hK.out _ _ hs7 (fun hHeld => ?_)
            clear hK K
            try simp only [Act.put, List.setIfInBounds_toArray, List.set_cons_zero, List.set_cons_succ]
            refine wpAnyH_ready (rs := [9]) (by kernel_rfl) (by simp) ?_
            refine AllReadyH.cons rfl (fun K hK => ?_) AllReadyH.nil
            go_simp
            refine hK.out _ _ hs8 (fun hHeld => ?_)
            clear hK K
            try simp only [Act.put, List.setIfInBounds_toArray, List.set_cons_zero, List.set_cons_succ]
            refine wpAnyH_done (by kernel_rfl) ?_ _
            clear hs6 hs7 hs8 hHeld hlk hup
            go_wp2_with fail
            go_roundw
            case rel => exact ⟨k + 1, by omega, by go_num, by unfold Hid; rw [HTK.out, HS.out]; exact HV8.out⟩
            case measure => simp [intOf]; omega
      · have HS := Lib.hid (show vStep l cart s x = s by unfold vStep; rw [if_neg hcc])
        have nc : ¬ ((x.1.cart : Nat) : Int) = (cart : Int) := by omega
        clear hcc
        go_wp2_with fail
        go_roundw
        case rel => exact ⟨k + 1, by omega, by go_num, by unfold Hid; rw [HTK.out, HS.out]; exact HV4.out.up (Nat.le_succ k)⟩
        case measure => simp [intOf]; omega
    · have hkn : l.take k = l := List.take_of_length_le (by rw [HR.out.len]; omega)
      have hv := HV.out
      rw [hkn] at hv
      have hvd : viewV l cart = ((vFold l cart l).tick, (vFold l cart l).out, (keysN (vFold l cart l).map).map (lineOf (vFold l cart l).map)) := rfl
      have HVD := Lib.hid hvd
      have HVN := Lib.hid (hv.up (n' := n) hk)
      generalize vFold l cart l = s at *
      clear hkn hv hvd HV HV3 e3
      go_wp2_with fail
      refine (Srt.keys_any (some (w.heap.size + 1 + 1)) wr).mono ?_
      rintro e w4 ⟨rfl, hw4⟩
      have g4 : Gr wr w4 := by rw [hw4]; exact (Gr.refl wr).alloc _
      have HV4 := Lib.hid (HVN.out.below g4.below)
      have hbox : w4.cell? ⟨wr.heap.size, 0, none⟩ = some (.map (some (w.heap.size + 1 + 1))) := by rw [hw4, cell_of_row _ _ 0 _ _ _ (heap_alloc_new wr _)]; rfl
      have QS := Lib.hid (Srt.sorted_any (w.heap.size + 1 + 1) n wr.heap.size s.map taR w4 HV4.out.map hbox (Nat.le_trans (World.ownsMap.size_le HV4.out.map) (by omega)))
      clear hw4 g4 hbox HVN
      go_wp2_with fail
      refine QS.out.mono ?_
      rintro e w5 ⟨kv, rfl, hrow5, hb5⟩
      have HV5 := Lib.hid (HV4.out.below hb5)
      obtain ⟨hks, hke, hkl, hkn⟩ := MapT.keys HV5.out.map
      rw [hke, ← hkl] at hrow5
      have hok5 : OwnK w5 w.heap.size kv (keysN s.map) := ⟨own_base hrow5 HV4.out.blw.size, hks⟩
      have HK5 := Lib.hid hok5
      obtain ⟨KA, kc, hkv, hrk⟩ := hok5.rd
      obtain ⟨m, hm⟩ : ∃ m, m = (keysN s.map).length := ⟨_, rfl⟩
      rw [← hm] at hkv hrk
      have hm100 : m ≤ 100 := by omega
      subst hkv
      have HM := Lib.hid hm
      have HM1 := Lib.hid hm100
      have hmf : m ≤ 9223372036854775807 := by omega
      clear hrow5 hb5 hok5 hrk hm hm100 QS HV4 hks hke hkl hkn
      go_wp2_with fail
      generalize wr = ws at *
      go_loopw [55] (fun i wr => ∃ (j : Nat) (lv : Value), j ≤ m ∧ i = .int .i64 (j : Int) ∧ Hid (ViAt w wr (w.heap.size + 1) (w.heap.size + 1 + 1) cart lv s.out s.tick s.map n (((keysN s.map).take j).map (lineOf s.map))) ∧ Hid (OwnK wr w.heap.size (.slice KA m kc) (keysN s.map))) (fun i _ => m - (intOf i).toNat)
      case atStart => exact ⟨0, _, Nat.zero_le _, rfl, HV5.out, HK5.out⟩
      case round =>
        obtain ⟨j, lv, hj, rfl, HVj, HKj⟩ := hrel
        by_cases hjm : j < m
        · obtain ⟨A2, c2, e2, hrk⟩ := HKj.out.rd
          injection e2 with e2 e3 e4
          clear e3 e4
          subst e2
          rw [← HM.out] at hrk
          obtain ⟨ad, hA, hcell, hx⟩ := hrk.at_ hjm
          subst hA
          have htk : (keysN s.map).take (j + 1) = (keysN s.map).take j ++ [(keysN s.map).getD j 0] := take_snoc (by rw [← HM.out]; exact hjm)
          have hlen : ((keysN s.map).take j).length ≤ 100 := by rw [List.length_take]; have := HM1.out; omega
          generalize (keysN s.map).getD j 0 = x at *
          have lk := load_u16 hcell
          obtain ⟨hokt, hlk⟩ := MapT.look HVj.out.map hx
          obtain ⟨t, ht⟩ : ∃ t, t = tAt s.map x := ⟨_, rfl⟩
          rw [← ht] at hokt hlk
          have hst := store_tally wr hokt
          obtain ⟨w6, hw6⟩ : ∃ w6, w6 = wr.alloc (.cells (taA t).toArray 60) := ⟨_, rfl⟩
          rw [← hw6, show (taA zeroTa).toArray = #[.int .u32 0, .int .u8 0, .int .u32 0, .int .u8 0, .int .u16 0, .int .u16 0, .int .u16 0, .int .u32 0, .int .u32 0, .int .u32 0, .int .u32 0, .int .u32 0, .int .u32 0, .int .u32 0, .int .u32 0, .int .u32 0, .int .u32 0, .int .u32 0, .int .u32 0, .int .u32 0, .int .u32 0, .int .u32 0, .int .u32 0, .int .u32 0, .bool false] from rfl] at hst
          have g6 : Gr wr w6 := by rw [hw6]; exact (Gr.refl wr).alloc _
          have ht6 : TaAt w6 wr.heap.size t := by rw [hw6]; exact TaAt.new wr hokt
          have HV6 := Lib.hid (HVj.out.below g6.below)
          have HK6 := Lib.hid (HKj.out.below g6.below)
          have l0 := ht6.l0
          have l6 := ht6.l5
          obtain ⟨LA, ln, lc, hlv⟩ := isL HVj.out.lines
          subst hlv
          have l1 := load_lns (HV6.out.c 1)
          obtain ⟨Q, hQ⟩ : ∃ Q, Q = (t.sum + t.set.qty) % 4294967296 := ⟨_, rfl⟩
          have wq : IntKind.u32.wrap ((t.set.qty : Nat) : Int) = ((t.set.qty : Nat) : Int) := by rw [IntKind.wrap_u32]; have := hokt.set.qty; omega
          have wa : IntKind.u32.wrap (((t.sum : Nat) : Int) + ((t.set.qty : Nat) : Int)) = (Q : Int) := by rw [IntKind.wrap_u32]; omega
          have HLN := Lib.hid (show lineOf s.map x = (x, Q) by unfold lineOf; rw [← ht, hQ])
          have HTK := Lib.hid htk
          have HLEN := Lib.hid hlen
          have i0 : (0 : Int) ≤ (j : Int) := by omega
          have i1 : (j : Int) < (m : Int) := by omega
          have hv7 := HV6.out.below ((Below.refl _ _).alloc (Nat.le_refl _) (.cells #[.int .u16 (x : Int), .int .u32 (Q : Int)] 52))
          have hk7 := HK6.out.below ((Below.refl _ _).alloc (Nat.le_refl _) (.cells #[.int .u16 (x : Int), .int .u32 (Q : Int)] 52))
          have HV7 := Lib.hid hv7
          have HK7 := Lib.hid hk7
          clear hrk hcell hokt hw6 g6 ht6 hQ ht htk hlen hv7 hk7
          go_wp2_with (at_builtin; refine appL_list (y := (x, Q)) w.heap.size rfl (.tmp 63) (.tmp 73) rfl rfl rfl HV7.out.lines (lnA_new w6 _ x Q) (by rw [List.length_map]; have := HLEN.out; omega) HV7.out.blw.size ?_; intro v8 w8 ho8 hg8; obtain ⟨A8, n8, c8, rfl⟩ := isL ho8; obtain ⟨e1, e2, hv9, hvr⟩ := HV7.out.app ho8 hg8; have st8 := store_lns A8 n8 c8 e1 e2; have hk8 := HK7.out.kept hg8 (HK7.out.apart HV7.out.lines); have hk9 := hk8.kept (grown_setCell w8 (w.heap.size + 1) 1 (.slice A8 n8 c8)) (.inr (own_ne hk8.row hvr (by decide))); have HV9 := Lib.hid hv9; have HK9 := Lib.hid hk9; clear ho8 hg8 hv9 hk8 hk9 hvr)
          go_roundw
          case rel => exact ⟨j + 1, _, by omega, by go_num, by unfold Hid; rw [HTK.out, List.map_append, List.map_cons, List.map_nil, HLN.out]; exact HV9.out, HK9.out⟩
          case measure => simp [intOf]; omega
        · have hkj : (keysN s.map).take j = keysN s.map := List.take_of_length_le (by rw [← HM.out]; omega)
          have hv := HVj.out
          rw [hkj] at hv
          have lv1 := hv.loads
          obtain ⟨sv, hrow, hol, hbl⟩ := hv.fin
          have HROW := Lib.hid hrow
          have HOL := Lib.hid hol
          have HBL := Lib.hid hbl
          have hsml : ∀ y ∈ (viewV l cart).2.2, y.1 ≤ 65535 ∧ y.2 ≤ 4294967295 := by
            rw [HVD.out]
            intro y hy
            obtain ⟨x, hx, rfl⟩ := List.mem_map.1 hy
            exact ⟨HKj.out.small x hx, by unfold lineOf; simp only []; omega⟩
          have HSML := Lib.hid hsml
          clear hsml
          clear hkj hv hrow hol hbl
          go_wp2_with fail
          refine bodyPost_ret (v := .agg #[.int .u16 (cart : Int), lv, .bool s.out, .int .u32 (s.tick : Int)]) ?_ rfl ⟨lv, by rw [HVD.out], by rw [HVD.out]; exact HOL.out, HBL.out, HSML.out⟩
          exact results_cell_row Tryz.results8 _ _ w.heap.size 38 _ (0, 0) _ rfl HROW.out Tryz.underlying38 rfl (by kernel_rfl)
end Go.Proofs.YtgogbpkcceadbaaGreatDoor.Vc
