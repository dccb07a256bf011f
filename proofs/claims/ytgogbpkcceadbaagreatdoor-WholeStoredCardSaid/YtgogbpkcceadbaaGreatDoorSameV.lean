/-
  The reference's Same, of the same views.
-/
import Derived.Test.YtgogbpkcceadbaaGreatDoorFoldN
namespace Go.Proofs.YtgogbpkcceadbaaGreatDoor.Vc
open Go.RowKit Go.Proofs.YtgogbpkcceadbaaGreatDoor.Wd
set_option linter.unusedVariables false

theorem dLn : Tryz.prog.cellsOf 52 = 2 := by kernel_rfl
theorem kl_ln {d r s : Nat} (hr : r ≤ 65535) (hs : s ≤ 4294967295) : Tryz.prog.keyLits (d + 2) 52 [.int .u16 (r : Int), .int .u32 (s : Int)] = some [.int .u16 (r : Int), .int .u32 (s : Int)] := by
  unfold Program.keyLits
  rw [Tryz.underlying52]
  simp [List.mapM_cons, d52, d22, dLn, kl16 hr, kl32 hs]
theorem eqLnL (r s : Nat) (hr : r ≤ 65535) (hs : s ≤ 4294967295) (W : World) :
    (Op.equalIn 10000 52 (.agg #[.int .u16 (r : Int), .int .u32 (s : Int)]) (.agg #[.int .u16 (r : Int), .int .u32 (s : Int)])).run Tryz.prog W = .ok true W := by
  obtain ⟨b, hb, hi⟩ := run_equalIn_deep (P := Tryz.prog) 9998 2 52 (by kernel_rfl) W 2 2 (.agg #[.int .u16 (r : Int), .int .u32 (s : Int)]) (.agg #[.int .u16 (r : Int), .int .u32 (s : Int)]) _ _
    (by simp [Value.formed, Tryz.underlying52, dLn]) (by simp [Value.formed, Tryz.underlying52, dLn]) (by simpa [Value.cells] using kl_ln (d := 0) hr hs) (by simpa [Value.cells] using kl_ln (d := 0) hr hs)
  have e : b = true := hi.2 rfl
  rw [e] at hb
  exact hb
theorem loadLnAt {W : World} {a : Addr} {x y : Value} (h0 : W.cell? a = some x) (h1 : W.cell? (a.add 1) = some y) : (ldK 52 a).run Tryz.prog W = .ok (.agg #[x, y]) W := by
  have e0 : a.add 0 = a := by unfold Addr.add; split <;> simp_all
  have hl : (loadCells a 2).run Tryz.prog W = .ok #[x, y] W := by
    have := run_loadCells_list (P := Tryz.prog) W a [x, y] (fun j v hv => by
      match j with
      | 0 => rw [e0, h0]; simpa using hv
      | 1 => rw [h1]; simpa using hv
      | j + 2 => simp at hv)
    simpa using this
  have hagg : (isAgg 52).run Tryz.prog W = .ok true W := by
    unfold isAgg
    rw [Sem.run_bind, run_underlying Tryz.underlying52 W]
    simp
  obtain ⟨i, hi⟩ := info_of_underlying Tryz.underlying52
  have hsz : i.size = 2 := by
    have h2 : (Tryz.prog.info? 52).map (·.size) = some 2 := by kernel_rfl
    rw [hi] at h2
    simpa using h2
  simp [ldK, loadVar, Sem.run_bind, hagg, sizeOf, typeInfo, hi, hsz, hl]
theorem RdL2.below {w w1 : World} {A : Option Addr} {n : Nat} {l : List (Nat × Nat)} (h : RdL2 w A n l) (hb : Below w.heap.size w w1) : RdL2 w1 A n l :=
  ⟨h.len, h.fits, fun h0 => by
    obtain ⟨ad, e, hc⟩ := h.cell h0
    refine ⟨ad, e, fun t u hu => ?_⟩
    rw [hb.cell (World.block_lt_of_cell? w _ (hc t u hu))]
    exact hc t u hu⟩
theorem RdL2.line {w : World} {ad : Addr} {n : Nat} {l : List (Nat × Nat)} (h : RdL2 w (some ad) n l) {k : Nat} {x : Nat × Nat} (hk : l[k]? = some x) : (ldK 52 (ad.add (k * 2))).run Tryz.prog w = .ok (.agg #[.int .u16 ((x.1 : Nat) : Int), .int .u32 ((x.2 : Nat) : Int)]) w := by
  have hkl := (List.getElem?_eq_some_iff.1 hk).1
  obtain ⟨ad', e, hc⟩ := h.cell (by rw [← h.len]; omega)
  obtain rfl : ad = ad' := Option.some.inj e
  have g0 := hc (k * 2 + 0) (.int .u16 ((x.1 : Nat) : Int)) (by rw [lnsA_get l k 0 x hk (by decide)]; rfl)
  have g1 := hc (k * 2 + 1) (.int .u32 ((x.2 : Nat) : Int)) (by rw [lnsA_get l k 1 x hk (by decide)]; rfl)
  rw [Nat.add_zero] at g0
  rw [← add_of_add] at g1
  exact loadLnAt g0 g1
attribute [local go_sem ↓] ldKx stKx
set_option maxHeartbeats 4000000 in
set_option maxRecDepth 100000 in
theorem same_any (l : List (Nat × Nat)) (m c1 c2 cart tick : Nat) (out : Bool) (A1 A2 : Option Addr) (w : World) (h1 : RdL2 w A1 m l) (h2 : RdL2 w A2 m l) (hs : ∀ x ∈ l, x.1 ≤ 65535 ∧ x.2 ≤ 4294967295) :
    Calls Tryz.prog 7 #[.agg #[.int .u16 (cart : Int), .slice A1 m c1, .bool out, .int .u32 (tick : Int)], .agg #[.int .u16 (cart : Int), .slice A2 m c2, .bool out, .int .u32 (tick : Int)]] w fun e w' => e = .returned (.bool true) ∧ Below w.heap.size w w' := by
  have hfit := h1.fits
  obtain ⟨w2, hw2⟩ : ∃ w2, w2 = (w.alloc (.cells #[.int .u16 (cart : Int), .slice A1 m c1, .bool out, .int .u32 (tick : Int)] 38)).alloc (.cells #[.int .u16 (cart : Int), .slice A2 m c2, .bool out, .int .u32 (tick : Int)] 38) := ⟨_, rfl⟩
  have hb2 : Below w.heap.size w w2 := by rw [hw2]; exact ((Below.refl _ _).alloc (Nat.le_refl _) _).alloc (by simp) _
  have r1 : w2.heap[w.heap.size]? = some (.cells #[.int .u16 (cart : Int), .slice A1 m c1, .bool out, .int .u32 (tick : Int)] 38 (0, 0)) := by
    rw [hw2, Below.heap_alloc _ _ _ (by simp)]
    exact heap_alloc_new w _
  have r2 : w2.heap[w.heap.size + 1]? = some (.cells #[.int .u16 (cart : Int), .slice A2 m c2, .bool out, .int .u32 (tick : Int)] 38 (0, 0)) := by
    have := heap_alloc_new (w.alloc (.cells #[.int .u16 (cart : Int), .slice A1 m c1, .bool out, .int .u32 (tick : Int)] 38)) (.cells #[.int .u16 (cart : Int), .slice A2 m c2, .bool out, .int .u32 (tick : Int)] 38)
    rw [← hw2] at this
    simpa using this
  have HB2 := Lib.hid hb2
  have HL1 := Lib.hid (h1.below hb2)
  have HL2 := Lib.hid (h2.below hb2)
  have HS := Lib.hid hs
  have k10 : ∀ j, (ldK 23 ⟨w.heap.size, 0, none⟩).run Tryz.prog (w2.drewN j) = .ok (.int .u16 (cart : Int)) (w2.drewN j) := fun j => load_u16 (by rw [cell_of_row (w2.drewN j) _ 0 _ _ _ r1]; rfl)
  have k20 : ∀ j, (ldK 23 ⟨w.heap.size + 1, 0, none⟩).run Tryz.prog (w2.drewN j) = .ok (.int .u16 (cart : Int)) (w2.drewN j) := fun j => load_u16 (by rw [cell_of_row (w2.drewN j) _ 0 _ _ _ r2]; rfl)
  have e0 : w2.drewN 0 = w2 := rfl
  have l10 := k10 0
  have l20 := k20 0
  have l12 : (ldK 4 ⟨w.heap.size, 2, none⟩).run Tryz.prog w2 = .ok (.bool out) w2 := load_bool (by rw [cell_of_row w2 _ 2 _ _ _ r1]; rfl)
  have l22 : (ldK 4 ⟨w.heap.size + 1, 2, none⟩).run Tryz.prog w2 = .ok (.bool out) w2 := load_bool (by rw [cell_of_row w2 _ 2 _ _ _ r2]; rfl)
  have l13 : (ldK 28 ⟨w.heap.size, 3, none⟩).run Tryz.prog w2 = .ok (.int .u32 (tick : Int)) w2 := load_u32 (by rw [cell_of_row w2 _ 3 _ _ _ r1]; rfl)
  have l23 : (ldK 28 ⟨w.heap.size + 1, 3, none⟩).run Tryz.prog w2 = .ok (.int .u32 (tick : Int)) w2 := load_u32 (by rw [cell_of_row w2 _ 3 _ _ _ r2]; rfl)
  have l11 : (ldK 36 ⟨w.heap.size, 1, none⟩).run Tryz.prog w2 = .ok (.slice A1 m c1) w2 := load_lns (by rw [cell_of_row w2 _ 1 _ _ _ r1]; rfl)
  have l21 : (ldK 36 ⟨w.heap.size + 1, 1, none⟩).run Tryz.prog w2 = .ok (.slice A2 m c2) w2 := load_lns (by rw [cell_of_row w2 _ 1 _ _ _ r2]; rfl)
  rw [e0] at l10 l20
  have HR1 := Lib.hid r1
  have HR2 := Lib.hid r2
  have e2 := hw2.symm
  clear hb2 h1 h2 hs r1 r2 k10 k20 e0 hw2
  go_enter Tryz.func7, Tryz.ntmps7
  go_wp2_with fail
  clear e2 l10 l20 l12 l22 l13 l23 l11 l21
  go_loopw [5] (fun i wr => ∃ k q : Nat, k ≤ m ∧ i = .int .i64 (k : Int) ∧ Hid (wr = w2.drewN q)) (fun i _ => m - (intOf i).toNat)
  case atStart => exact ⟨0, 0, Nat.zero_le _, rfl, rfl⟩
  case round =>
    obtain ⟨k, q, hk, rfl, HQ⟩ := hrel
    have hbw : Below w2.heap.size w2 wr := by rw [HQ.out]; exact drewN_below (Below.refl _ _) q
    have r1 : wr.heap[w.heap.size]? = some (.cells #[.int .u16 (cart : Int), .slice A1 m c1, .bool out, .int .u32 (tick : Int)] 38 (0, 0)) := by rw [HQ.out]; exact HR1.out
    have r2 : wr.heap[w.heap.size + 1]? = some (.cells #[.int .u16 (cart : Int), .slice A2 m c2, .bool out, .int .u32 (tick : Int)] 38 (0, 0)) := by rw [HQ.out]; exact HR2.out
    have l11 : (ldK 36 ⟨w.heap.size, 1, none⟩).run Tryz.prog wr = .ok (.slice A1 m c1) wr := load_lns (by rw [cell_of_row wr _ 1 _ _ _ r1]; rfl)
    by_cases hlt : k < m
    · have hkl : k < l.length := by rw [HL1.out.len]; exact hlt
      obtain ⟨x, hx⟩ : ∃ x, l[k]? = some x := ⟨_, List.getElem?_eq_getElem hkl⟩
      obtain ⟨ad1, hA1, _⟩ := HL1.out.cell (by omega)
      obtain ⟨ad2, hA2, _⟩ := HL2.out.cell (by omega)
      subst hA1 hA2
      have g1 : ∀ j, (ldK 36 ⟨w.heap.size, 1, none⟩).run Tryz.prog (wr.drewN j) = .ok (.slice (some ad1) m c1) (wr.drewN j) := fun j => load_lns (by rw [cell_of_row (wr.drewN j) _ 1 _ _ _ r1]; rfl)
      have g2 : ∀ j, (ldK 36 ⟨w.heap.size + 1, 1, none⟩).run Tryz.prog (wr.drewN j) = .ok (.slice (some ad2) m c2) (wr.drewN j) := fun j => load_lns (by rw [cell_of_row (wr.drewN j) _ 1 _ _ _ r2]; rfl)
      have g3 : ∀ j, (ldK 52 (ad1.add (k * 2))).run Tryz.prog (wr.drewN j) = .ok (.agg #[.int .u16 ((x.1 : Nat) : Int), .int .u32 ((x.2 : Nat) : Int)]) (wr.drewN j) := fun j => ((HL1.out.below hbw).below (drewN_below (Below.refl _ _) j)).line hx
      have g4 : ∀ j, (ldK 52 (ad2.add (k * 2))).run Tryz.prog (wr.drewN j) = .ok (.agg #[.int .u16 ((x.1 : Nat) : Int), .int .u32 ((x.2 : Nat) : Int)]) (wr.drewN j) := fun j => ((HL2.out.below hbw).below (drewN_below (Below.refl _ _) j)).line hx
      have hsm := HS.out x (List.mem_of_getElem? hx)
      have heq := fun W => eqLnL x.1 x.2 hsm.1 hsm.2 W
      have i0 : (0 : Int) ≤ (k : Int) := by omega
      have i1 : (k : Int) < (m : Int) := by omega
      clear hx hkl hbw r1 r2 hsm
      go_wp2_with fail
      go_quiet (fail)
      go_wp2_with fail
      go_roundw
      case rel => exact ⟨k + 1, q + nq, by omega, by go_num, by unfold Hid; rw [HQ.out]; unfold World.drewN; simp [Nat.add_assoc]⟩
      case measure => simp [intOf]; omega
    · have hbw2 := HQ.out
      have HBF := Lib.hid (show Below w.heap.size w wr by rw [hbw2]; exact drewN_below HB2.out q)
      clear hbw hbw2 r1 r2
      go_wp2_with fail
      go_ret
      exact ⟨rfl, HBF.out⟩
end Go.Proofs.YtgogbpkcceadbaaGreatDoor.Vc
