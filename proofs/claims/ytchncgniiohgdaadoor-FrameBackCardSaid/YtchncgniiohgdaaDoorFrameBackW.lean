/-
  The walk of the law 'truglaw10.FrameBack'.
-/
import Derived.Test.YtchncgniiohgdaaDoorFrameAlive
import Derived.Test.YtchncgniiohgdaaDoorFrameKept
import Derived.Test.YtchncgniiohgdaaDoorIRows
namespace Go.Proofs.YtchncgniiohgdaaDoor.FrameL
open Go.RowKit Go.Proofs.YtchncgniiohgdaaDoor.Wd Go.Proofs.YtchncgniiohgdaaDoor.FrameP Go.Proofs.YtchncgniiohgdaaDoor.CrcW Go.Proofs.YtchncgniiohgdaaDoor.VintW Go.Proofs.YtchncgniiohgdaaDoor.FrameW
set_option linter.unusedVariables false

theorem RdL_small {w : World} {A : Option Addr} {n : Nat} {l : List (List Nat)} (h : RdL w A n l) : ∀ b ∈ l, ∀ x ∈ b, x < 256 := by
  intro b hb x hx
  obtain ⟨j, hj, rfl⟩ := List.getElem_of_mem hb
  obtain ⟨ad, _, hc⟩ := h.cell (by rw [← h.len]; omega)
  obtain ⟨B, c, _, _, h3⟩ := hc j (by rw [← h.len]; exact hj)
  have e : l.getD j [] = l[j] := by rw [List.getD_eq_getElem?_getD, List.getElem?_eq_getElem hj]; rfl
  rw [e] at h3
  exact h3.small x hx
/-- The ends of frames that stand one behind the other. -/
def ends (l : List (List Nat)) : List Nat := (List.range l.length).map fun j => (frames (l.take (j + 1))).length
theorem ends_length (l : List (List Nat)) : (ends l).length = l.length := by simp [ends]
theorem ends_snoc (l : List (List Nat)) (b : List Nat) : ends (l ++ [b]) = ends l ++ [(frames (l ++ [b])).length] := by
  unfold ends
  rw [List.length_append, List.length_singleton, List.range_succ, List.map_append, List.map_singleton]
  congr 1
  · apply List.map_congr_left
    intro j hj
    have := List.mem_range.1 hj
    rw [List.take_append_of_le_length (by omega)]
  · rw [List.take_of_length_le (by simp)]
theorem ends_get {l : List (List Nat)} {j : Nat} (h : j < l.length) : (ends l).getD j 0 = (frames (l.take (j + 1))).length := by
  unfold ends
  rw [List.getD_eq_getElem?_getD, List.getElem?_map, List.getElem?_range h]
  rfl
/-- Two rows of one's own do not lie in one block. -/
def Two (a b : Value) : Prop := ∀ k, a.ownBlock = some k → b.ownBlock ≠ some k
theorem Two.sym {a b : Value} (h : Two a b) : Two b a := fun k hb ha => h k ha hb
theorem Two.nil_ (b : Value) : Two (.slice none 0 0) b := fun k h => by cases h
theorem Two.ne {a b : Value} (h : Two a b) : a.ownBlock = none ∨ a.ownBlock ≠ b.ownBlock := by
  cases ha : a.ownBlock with
  | none => exact .inl rfl
  | some k => exact .inr fun e => h k ha e.symm
theorem Two.app {a a' b : Value} {n : Nat} (h : Two a b) (ha : a'.ownBlock = a.ownBlock ∨ a'.ownBlock = some n) (hb : ∀ k, b.ownBlock = some k → k < n) : Two a' b := fun k h1 h2 => by
  rcases ha with e | e
  · exact h k (e ▸ h1) h2
  · rw [e] at h1
    injection h1 with h1
    have := hb k h2
    omega
/-- A row of one's own, of which the members are slices of bytes of an elder world. -/
def HadL (w1 : World) (base : Nat) (w : World) (v : Value) (l : List (List Nat)) : Prop :=
  ∃ us : List Value, w.ownsRow base 22 1 v us.length us ∧ us.length = l.length ∧ ∀ (j : Nat) (x : List Nat), l[j]? = some x → ∃ A c, us[j]? = some (.slice A x.length c) ∧ x.length ≤ c ∧ RdB w1 A x.length x
theorem HadL.nil_ (w1 w : World) (base : Nat) : HadL w1 base w (.slice none 0 0) [] := ⟨[], World.ownsRow_nil _ _ _ _, rfl, by simp⟩
theorem HadL.kept {w1 w w' : World} {base : Nat} {v : Value} {l : List (List Nat)} {row : Option Nat} (h : HadL w1 base w v l) (hg : w.grownBy w' row) (hne : v.ownBlock = none ∨ v.ownBlock ≠ row) : HadL w1 base w' v l := by
  obtain ⟨us, h1, h2, h3⟩ := h
  exact ⟨us, h1.kept hg hne, h2, h3⟩
theorem HadL.below {w1 w w' : World} {base : Nat} {v : Value} {l : List (List Nat)} (h : HadL w1 base w v l) (hb : Below w.heap.size w w') : HadL w1 base w' v l :=
  h.kept (grown_none hb) (by cases v.ownBlock <;> simp)
theorem HadL.alloc {w1 w : World} {base : Nat} {v : Value} {l : List (List Nat)} (h : HadL w1 base w v l) (o : Obj) : HadL w1 base (w.alloc o) v l :=
  h.below ((Below.refl _ _).alloc (Nat.le_refl _) _)
theorem HadL.lt {w1 w : World} {base : Nat} {v : Value} {l : List (List Nat)} (h : HadL w1 base w v l) : ∀ k, v.ownBlock = some k → base ≤ k ∧ k < w.heap.size := by
  obtain ⟨us, h1, _⟩ := h
  exact h1.lt
theorem HadL.to_below {w0 w1 w w' : World} {base : Nat} {v : Value} {l : List (List Nat)} (h : HadL w1 base w v l) (hb : Below base w0 w) (hbase : base ≤ w.heap.size) (hg : w.grownBy w' v.ownBlock) : Below base w0 w' :=
  hb.grown hg hbase fun k hk => (h.lt k hk).1
theorem HadL.rd {w1 w : World} {base : Nat} {v : Value} {l : List (List Nat)} (h : HadL w1 base w v l) (hb : Below w1.heap.size w1 w) : ∃ A c, v = .slice A l.length c ∧ l.length ≤ c ∧ RdL w A l.length l := by
  obtain ⟨us, hrow, hlen, hp⟩ := h
  rcases hrow.2 with ⟨rfl, h0⟩ | ⟨g, cap, cur, rfl, _, _, hnc, hcm, _⟩
  · have : l = [] := List.eq_nil_of_length_eq_zero (by omega)
    subst this
    exact ⟨none, 0, rfl, Nat.le_refl _, rfl, by decide, fun h => absurd h (by decide)⟩
  · unfold maxLen at hcm
    rw [hlen] at hnc ⊢
    refine ⟨_, cap, rfl, hnc, rfl, by omega, fun _ => ⟨_, rfl, fun j hj => ?_⟩⟩
    obtain ⟨B, c, hu, h1, h2⟩ := hp j (l.getD j []) (by rw [List.getD_eq_getElem?_getD, List.getElem?_eq_getElem hj]; rfl)
    exact ⟨B, c, hrow.cells (g := g) rfl j _ hu, h1, h2.below hb⟩
theorem appH_list {ops : Array Oper} {rest : List Oper} {o : Oper} {a : Act} {Q : Exit → Act → World → Prop} {w w1 : World} (base : Nat) (hgd : o.guard = none) (s x : Operand)
    (ho : o.op = .call { callee := .builtin .append, args := #[s, x], argTypes := #[34, 34] })
    {v : Value} {l : List (List Nat)} {ys : List Nat} {A : Option Addr} {c' : Nat} {ad : Addr} {c : Nat} (hs : a.eval s = v) (hx : a.eval x = .slice (some ad) 1 c) (h : HadL w1 base w v l) (hp : RdB w1 A ys.length ys) (hpc : ys.length ≤ c')
    (hu : w.cell? ad = some (.slice A ys.length c')) (hb : l.length ≤ 1000000) (hbase : base ≤ w.heap.size)
    (hk : ∀ v' w', HadL w1 base w' v' (l ++ [ys]) → w.grownBy w' v.ownBlock → (v'.ownBlock = v.ownBlock ∨ v'.ownBlock = some w.heap.size) → wpList Tryd.prog ops Q rest (a.put o.dst v') w') : wpList Tryd.prog ops Q (o :: rest) a w := by
  refine wpList_plain hgd fun _ hK => ?_
  obtain ⟨i0, hi0, hz0, hz1, hz2⟩ := info_parts info22
  obtain ⟨us, hrow, hlen, hpp⟩ := h
  obtain ⟨v', w', hrun, h2, h3, _, h5⟩ := run_append_own_at (P := Tryd.prog) w base 34 o.type 22 i0 _ 1 24 Tryd.underlying34 hi0 hz0 hz1 hz2 rfl (by decide) v us.length us hrow ad 1 c [.slice A ys.length c']
      (by simp) (fun j y hy => by
        rcases j with _ | j
        · simp only [List.getElem?_cons_zero, Option.some.injEq] at hy
          subst hy
          rw [show ad.add 0 = ad from add_zero_ ad]
          exact hu
        · simp at hy)
      (fun y hy => by rw [List.mem_singleton.1 hy]; rfl) (by unfold maxLen; omega) (by omega) hbase
  have h6 : HadL w1 base w' v' (l ++ [ys]) := by
    refine ⟨us ++ [.slice A ys.length c'], by rw [List.length_append]; exact h2, by simp [hlen], fun j y hy => ?_⟩
    by_cases hj : j < l.length
    · rw [List.getElem?_append_left hj] at hy
      obtain ⟨A', c'', h6, h7⟩ := hpp j y hy
      refine ⟨A', c'', ?_, h7⟩
      rw [List.getElem?_append_left (by omega)]
      exact h6
    · have hj2 : j = l.length := by
        have := (List.getElem?_eq_some_iff.1 hy).1
        simp at this
        omega
      subst hj2
      simp at hy
      subst hy
      refine ⟨A, c', ?_, hpc, hp⟩
      rw [← hlen]
      simp
  unfold Oper.wp execOp
  simp only [ho, resolve, invoke, builtin, Sem.run_bind, Sem.run_pure, Result.andThen_ok, List.map_toArray, List.map_cons, List.map_nil, hs, hx, hrun]
  exact hK _ _ (hk v' w' h6 h3 h5)

theorem step_in {K : List (List Nat)} {j T : Nat} (hj : j < K.length) (h : (frames (K.take (j + 1))).length ≤ T) :
    (within (K.take (j + 1)) T).length = (within (K.take j) T).length + 1 ∧ (frames (within (K.take (j + 1)) T)).length = (frames (K.take (j + 1))).length := by
  have h1 := within_all _ _ h
  have h2 : within (K.take j) T = K.take j := within_all _ _ (by
    rw [take_snocL hj, frames_append, List.length_append] at h
    omega)
  rw [h1, h2, List.length_take, List.length_take]
  exact ⟨by omega, rfl⟩
theorem step_out {K : List (List Nat)} {j T : Nat} (hj : j < K.length) (h : ¬ (frames (K.take (j + 1))).length ≤ T) : within (K.take (j + 1)) T = within (K.take j) T := by
  rw [take_snocL hj] at h ⊢
  rw [within_snoc, if_neg h]

set_option maxHeartbeats 4000000 in
set_option maxRecDepth 100000 in
theorem frameBack_any (w : World) (n cap : Nat) (A : Option Addr) (l : List (List Nat)) (hc : n ≤ cap) (hl : RdL w A n l) (s : Nat) (hs : s < 65536) (ht : Tab w) :
    Calls Tryd.prog 5 #[.slice A n cap, .int .u16 (s : Int)] w fun e w' => e = .returned (.bool true) ∧ Below w.heap.size w w' := by
  have hfitl := hl.fits
  have hby := RdL_small hl
  have HL := Lib.hid hl
  have HLL := Lib.hid hl.len
  have HT := Lib.hid ht
  have HBY := Lib.hid hby
  clear ht hl hby
  go_enter Tryd.func5, Tryd.ntmps5
  go_wp2_with fail
  refine (alive_any w HT.out).mono ?_
  rintro e w1 ⟨rfl, hb⟩
  have HB := Lib.hid hb
  have HL1 := Lib.hid (HL.out.below hb)
  have HT1 := Lib.hid (HT.out.below hb)
  clear hb
  go_wp2_with fail
  go_loopw [5, 6, 7, 8] (fun d q g i wr => ∃ k : Nat, k ≤ n ∧ k ≤ 20 ∧ i = .int .i64 (k : Int) ∧ Hid (OwnB wr w1.heap.size d (frames (kept (l.take k)))) ∧ Hid (OwnI wr w1.heap.size q (ends (kept (l.take k)))) ∧
      Hid (HadL w1 w1.heap.size wr g (kept (l.take k))) ∧ Hid (Two d q) ∧ Hid (Two d g) ∧ Hid (Two q g) ∧ Hid (Below w1.heap.size w1 wr)) (fun _ _ _ i _ => 20 - (intOf i).toNat)
  case atStart => exact ⟨0, Nat.zero_le _, Nat.zero_le _, rfl, OwnB.nil_ _ _, OwnI.nil_ _ _, HadL.nil_ _ _ _, Two.nil_ _, Two.nil_ _, Two.nil_ _, Below.refl _ _⟩
  case round =>
    obtain ⟨k, hk, hk20, rfl, HO, HI, HH, T56, T57, T67, HW⟩ := hrel
    by_cases hgo : k < n ∧ k < 20
    · obtain ⟨hlt, hlt20⟩ := hgo
      obtain ⟨ad, hA, hcl⟩ := HL1.out.cell (by omega)
      obtain ⟨B, c, hcell, hle, hrb⟩ := hcl k hlt
      subst hA
      have hcw : ∀ W, Below w1.heap.size w1 W → W.cell? (ad.add k) = some (.slice B (l.getD k []).length c) := fun W hW => by
        rw [hW.cell (World.block_lt_of_cell? w1 _ hcell)]
        exact hcell
      have i0 : (0 : Int) ≤ (k : Int) := Int.natCast_nonneg _
      have i1 : (k : Int) < (n : Int) := by omega
      have hsz := HW.out.size
      have hkl : k < l.length := by rw [HLL.out]; exact hlt
      have hkn := kept_length l k
      by_cases hb : (l.getD k []).length ≤ 300
      · have hki := kept_in hkl hb
        have hki2 : frames (kept (l.take (k + 1))) = frames (kept (l.take k)) ++ wrap (l.getD k []) := by rw [hki, frames_snoc]
        have hki3 : ends (kept (l.take (k + 1))) = ends (kept (l.take k)) ++ [(frames (kept (l.take k)) ++ wrap (l.getD k [])).length] := by rw [hki, ends_snoc, frames_snoc]
        have hel : (ends (kept (l.take k))).length ≤ 20 := by rw [ends_length]; omega
        have hfl : (frames (kept (l.take k))).length ≤ 6280 := by
          have h2 := frames_le (l := kept (l.take k)) (fun b hb => (kept_mem hb).2)
          omega
        have hwl : (wrap (l.getD k [])).length ≤ 314 := by
          have h2 := (VintP.enc_length (l.getD k []).length).2
          rw [wrap_length]
          omega
        have hwl2 : (l.getD k []).length + 5 ≤ (wrap (l.getD k [])).length := by
          have h2 := (VintP.enc_length (l.getD k []).length).1
          rw [wrap_length]
          omega
        have q1 := wrap_any _ c B (l.getD k []) wr (hrb.below HW.out) (HT1.out.below HW.out) (by omega)
        generalize frames (kept (l.take k)) = fs at *
        generalize ends (kept (l.take k)) = es at *
        generalize wrap (l.getD k []) = zs at *
        obtain ⟨ys, hys⟩ : ∃ ys, ys = l.getD k [] := ⟨_, rfl⟩
        rw [← hys] at hki hcell hle hrb hcw q1 hb hwl2
        have HKY := Lib.hid hki
        generalize kept (l.take k) = K at *
        obtain ⟨M, hM⟩ : ∃ M, M = ys.length := ⟨_, rfl⟩
        rw [← hM] at hcell q1 hb hcw hwl2 hle
        have HM := Lib.hid hM
        have Q1 := Lib.hid q1
        have HK2 := Lib.hid hki2
        have HK3 := Lib.hid hki3
        have HRB := Lib.hid hrb
        have HCW := Lib.hid hcw
        have hcr := hcw wr HW.out
        obtain ⟨F, hF⟩ : ∃ F, F = (fs ++ zs).length := ⟨_, rfl⟩
        have hF2 : F ≤ 6594 := by rw [hF, List.length_append]; omega
        have HF := Lib.hid hF
        clear hcl hrb q1 hki hki2 hki3 hM hcell hys hcw hF
        go_wp2_with fail
        refine Q1.out.mono ?_
        rintro e w3 ⟨v3, rfl, ho3, hb3⟩
        have HO3 := Lib.hid (HO.out.below hb3)
        have HI3 := Lib.hid (HI.out.below hb3)
        have HH3 := Lib.hid (HH.out.below hb3)
        have HB3 := Lib.hid (HW.out.trans (hb3.mono hsz))
        have hsz3 := HB3.out.size
        obtain ⟨A3, c3, hv3, hc3, hr3⟩ := ho3.rd
        obtain ⟨Z, hZ⟩ : ∃ Z, Z = zs.length := ⟨_, rfl⟩
        have HZ := Lib.hid hZ
        rw [← hZ] at hwl hwl2 hv3 hc3 hr3
        subst hv3
        have HR3 := Lib.hid hr3
        have hc3' := HCW.out w3 HB3.out
        clear ho3 hb3 hr3 hcr hZ
        go_wp2_with (first
          | (at_builtin; refine app_list w1.heap.size rfl (.tmp 60) (.tmp 61) rfl rfl rfl HO3.out HR3.out (by omega) hsz3 ?_; intro v4 w4 ho4 hg4 ha4; have HB4 := Lib.hid (HO3.out.to_below HB3.out hsz3 hg4); have hsz4 := HB4.out.size; have HI4 := Lib.hid (HI3.out.grown hg4 T56.out.sym.ne); have HH4 := Lib.hid (HH3.out.kept hg4 T57.out.sym.ne); have T56b := Lib.hid (T56.out.app ha4 (fun k hk => (HI3.out.row.lt k hk).2)); have T57b := Lib.hid (T57.out.app ha4 (fun k hk => (HH3.out.lt k hk).2)); obtain ⟨A4, c4, hv4, hc4, _⟩ := ho4.rd; rw [← HF.out] at hv4 hc4; subst hv4; have HO4 := Lib.hid ho4; clear ho4 hg4 ha4 hc4)
          | (at_builtin; refine appI_list (y := F) w1.heap.size rfl (.tmp 63) (.tmp 66) rfl rfl rfl (HI4.out.alloc _) (by simp) (by omega) (by simp; omega) ?_; intro v6 w6 ho6 hg6 ha6; have HB6 := Lib.hid ((HI4.out.alloc _).to_below (HB4.out.alloc hsz4 _) (by simp; omega) hg6); have hsz6 := HB6.out.size; have HO6 := Lib.hid ((HO4.out.alloc _).kept hg6 T56b.out.ne); have HH6 := Lib.hid ((HH4.out.alloc _).kept hg6 T67.out.sym.ne); have T56c := Lib.hid (T56b.out.sym.app ha6 (fun k hk => ((HO4.out.alloc _).row.lt k hk).2)).sym; have T67c := Lib.hid (T67.out.app ha6 (fun k hk => ((HH4.out.alloc _).lt k hk).2)); have hc6' := HCW.out w6 HB6.out; have HI6 := Lib.hid ho6; clear ho6 hg6 ha6)
          | (at_builtin; refine appH_list (ys := ys) (A := B) (c' := c) w1.heap.size rfl (.tmp 68) (.tmp 73) rfl rfl rfl (HH6.out.alloc _) HRB.out (by rw [← HM.out]; exact hle) (by rw [← HM.out]; simp) (by omega) (by simp; omega) ?_; intro v7 w7 ho7 hg7 ha7; have HB7 := Lib.hid ((HH6.out.alloc _).to_below (HB6.out.alloc hsz6 _) (by simp; omega) hg7); have HO7 := Lib.hid ((HO6.out.alloc _).kept hg7 T57b.out.ne); have HI7 := Lib.hid ((HI6.out.alloc _).grown hg7 T67c.out.ne); have T57c := Lib.hid (T57b.out.sym.app ha7 (fun k hk => ((HO6.out.alloc _).row.lt k hk).2)).sym; have T67d := Lib.hid (T67c.out.sym.app ha7 (fun k hk => ((HI6.out.alloc _).row.lt k hk).2)).sym; have HH7 := Lib.hid ho7; clear ho7 hg7 ha7))
        go_roundw
        case rel => exact ⟨k + 1, by omega, by omega, by go_num, by unfold Hid; rw [HK2.out]; exact HO7.out, by unfold Hid; rw [HK3.out, ← HF.out]; exact HI7.out, by unfold Hid; rw [HKY.out]; exact HH7.out, T56c, T57c, T67d, HB7⟩
        case measure => simp [intOf]; omega
      · have hko := kept_out hkl hb
        have HKO := Lib.hid hko
        have hcr := hcw wr HW.out
        obtain ⟨M, hM⟩ : ∃ M, M = (l.getD k []).length := ⟨_, rfl⟩
        rw [← hM] at hcr hb
        clear hcl hrb hko hM hle hcell hcw
        go_wp2_with fail
        go_roundw
        case rel => exact ⟨k + 1, by omega, by omega, by go_num, by unfold Hid; rw [HKO.out]; exact HO.out, by unfold Hid; rw [HKO.out]; exact HI.out, by unfold Hid; rw [HKO.out]; exact HH.out, T56, T57, T67, HW⟩
        case measure => simp [intOf]; omega
    · have hks : ∀ b ∈ kept (l.take k), b.length ≤ 4096 ∧ ∀ x ∈ b, x < 256 := fun b hb => by
        have h2 := kept_mem hb
        exact ⟨by omega, HBY.out b (List.mem_of_mem_take h2.1)⟩
      have hfl : (frames (kept (l.take k))).length ≤ 6280 := by
        have h2 := frames_le (l := kept (l.take k)) (fun b hb => (kept_mem hb).2)
        have h3 := kept_length l k
        omega
      have hkn := kept_length l k
      generalize kept (l.take k) = K at *
      have hsa := scan_frames (l := K) hks (rest := []) (by simp)
      rw [List.append_nil, scan_nil] at hsa
      simp only [List.append_nil, Nat.add_zero] at hsa
      obtain ⟨F, hF⟩ : ∃ F, F = (frames K).length := ⟨_, rfl⟩
      rw [← hF] at hfl hsa
      obtain ⟨N, hN⟩ : ∃ N, N = K.length := ⟨_, rfl⟩
      rw [← hN] at hkn
      obtain ⟨T, hT⟩ : ∃ T, T = s % (F + 1) := ⟨_, rfl⟩
      have hTF : T ≤ F := by
        have := Nat.mod_lt s (show 0 < F + 1 by omega)
        omega
      have eT1 : (s : Int) % ((F : Int) + 1) = (T : Int) := by rw [hT]; rfl
      have eT2 : (s : Int).tmod ((F : Int) + 1) = (T : Int) := by rw [Int.tmod_eq_emod_of_nonneg (by omega)]; exact eT1
      have hsp := scan_prefix K T hks (by rw [← hF]; exact hTF)
      obtain ⟨A5, c5, hv5, hc5, hr5⟩ := HO.out.rd
      rw [← hF] at hv5 hc5 hr5
      subst hv5
      obtain ⟨A6, c6, hv6, hc6, hr6⟩ := HI.out.rd
      rw [ends_length, ← hN] at hv6 hc6 hr6
      subst hv6
      obtain ⟨A7, c7, hv7, hc7, hr7⟩ := HH.out.rd HW.out
      rw [← hN] at hv7 hc7 hr7
      subst hv7
      have HR5 := Lib.hid hr5
      have HR6 := Lib.hid hr6
      have HR7 := Lib.hid hr7
      have HSA := Lib.hid hsa
      have HSP := Lib.hid hsp
      have HF := Lib.hid hF
      have HN := Lib.hid hN
      have hsz := HW.out.size
      have n1 : ¬ ((F : Int) + 1 = 0) := by omega
      have q5 := scan_any T c5 A5 ((frames K).take T) wr (by omega) (hr5.take hTF) (HT1.out.below HW.out) (by omega)
      rw [hsp] at q5
      have Q5 := Lib.hid q5
      have t0 : (0 : Int) ≤ (T : Int) := by omega
      have t1 : (T : Int) ≤ (c5 : Int) := by omega
      clear hks hsa hF hN hT hsp hr5 hr6 hr7 q5
      have hcase : (n ≤ k) ∨ (k < n ∧ 20 ≤ k) := by omega
      rcases hcase with g | ⟨g, g'⟩
      all_goals
        go_wp2_with fail
        go_loop [12, 13, 83] (fun p q i => ∃ j P R : Nat, j ≤ N ∧ P ≤ j ∧ R ≤ 10000 ∧ i = .int .i64 (j : Int) ∧ p = .int .i64 (P : Int) ∧ q = .int .i64 (R : Int) ∧ Hid (P = (within (K.take j) T).length) ∧ Hid (R = (frames (within (K.take j) T)).length)) (fun _ _ i => N - (intOf i).toNat)
        case atStart => exact ⟨0, 0, 0, Nat.zero_le _, Nat.zero_le _, Nat.zero_le _, rfl, rfl, rfl, rfl, rfl⟩
        case round =>
          obtain ⟨j, P, R, hj, hP, hR, rfl, rfl, rfl, HP, HQ⟩ := hrel
          by_cases hlt : j < N
          · obtain ⟨a6, rfl, hcl⟩ := HR6.out (by omega)
            have hcell := hcl j hlt
            rw [ends_get (by rw [← HN.out]; exact hlt)] at hcell
            have i0 : (0 : Int) ≤ (j : Int) := by omega
            have i1 : (j : Int) < (N : Int) := by omega
            have hjK : j < K.length := by rw [← HN.out]; exact hlt
            have hX : (frames (K.take (j + 1))).length ≤ F := by
              have h1 : frames K = frames (K.take (j + 1)) ++ frames (K.drop (j + 1)) := by rw [← frames_append, List.take_append_drop]
              rw [HF.out, h1, List.length_append]
              omega
            obtain ⟨X, hXX⟩ : ∃ X, X = (frames (K.take (j + 1))).length := ⟨_, rfl⟩
            rw [← hXX] at hcell hX
            by_cases hle : X ≤ T
            · have hst := step_in hjK (T := T) (by rw [← hXX]; exact hle)
              rw [← hXX, ← HP.out] at hst
              have HST := Lib.hid hst
              clear hcl hst hXX
              go_wp2_with fail
              exact ⟨⟨j + 1, P + 1, X, by omega, by omega, by omega, by go_num, by go_num, rfl, HST.out.1.symm, HST.out.2.symm⟩, by simp [intOf]; omega⟩
            · have hst := step_out hjK (T := T) (by rw [← hXX]; exact hle)
              have HST := Lib.hid hst
              clear hcl hst hXX
              go_wp2_with fail
              exact ⟨⟨j + 1, P, R, by omega, by omega, by omega, by go_num, rfl, rfl, by unfold Hid; rw [HST.out]; exact HP.out, by unfold Hid; rw [HST.out]; exact HQ.out⟩, by simp [intOf]; omega⟩
          · have hjN : j = N := by omega
            have hkt : K.take j = K := by rw [hjN, HN.out]; exact List.take_of_length_le (Nat.le_refl _)
            have hp2 := HP.out
            have hq2 := HQ.out
            rw [hkt] at hp2 hq2
            have HP2 := Lib.hid hp2
            have HQ2 := Lib.hid hq2
            clear hkt hp2 hq2 hjN
            go_wp2_with fail
            refine Q5.out.mono ?_
            rintro e w8 ⟨v8, rfl, ho8, hb8⟩
            have HB8 := Lib.hid (HW.out.trans (hb8.mono hsz))
            have HR7b := Lib.hid (HR7.out.below hb8)
            obtain ⟨A8, c8, hv8, hc8, hr8⟩ := ho8.rd
            dsimp only at hv8 hc8 hr8
            rw [← HP2.out] at hv8 hc8 hr8
            subst hv8
            dsimp only
            rw [← HQ2.out]
            have HR8 := Lib.hid hr8
            have q9 := fun W (hW : Below w1.heap.size w1 W) (hB : Below w8.heap.size w8 W) => scan_any F c5 A5 (frames K) W hc5 ((HR5.out.below hb8).below hB) (HT1.out.below hW) (by omega)
            rw [HSA.out] at q9
            have Q9 := Lib.hid q9
            have hPN : P ≤ N := by omega
            clear ho8 hb8 hr8 q9
            go_wp2_with fail
            go_loopw [112] (fun i wz => ∃ z : Nat, z ≤ P ∧ i = .int .i64 (z : Int) ∧ Hid (Below w8.heap.size w8 wz)) (fun i _ => P - (intOf i).toNat)
            case atStart => exact ⟨0, Nat.zero_le _, rfl, Below.refl _ _⟩
            case round =>
              obtain ⟨z, hz, rfl, HZ⟩ := hrel
              by_cases hlt : z < P
              · have i0 : (0 : Int) ≤ (z : Int) := by omega
                have i1 : (z : Int) < (P : Int) := by omega
                have i2 : (z : Int) < (N : Int) := by omega
                obtain ⟨a8, rfl, hcl8⟩ := (HR8.out.below HZ.out).cell (by omega)
                obtain ⟨a7, rfl, hcl7⟩ := (HR7b.out.below HZ.out).cell (by omega)
                obtain ⟨B8, d8, p4, p5, p6⟩ := hcl8 z hlt
                obtain ⟨B9, d9, p7, p8, p9⟩ := hcl7 z (by omega)
                rw [within_get (by rw [← HP2.out]; exact hlt)] at p4 p5 p6
                have cvd := fun j => conv_str (p6.drewN j) d8
                have cve := fun j => conv_str (p9.drewN j) d9
                clear hcl8 hcl7
                generalize K.getD z [] = ys at *
                go_wp2_with fail
                go_quiet (fail)
                go_wp2_with fail
                go_roundw
                case rel => exact ⟨z + 1, by omega, by go_num, drewN_below HZ.out _⟩
                case measure => simp [intOf]; omega
              · have HB9 := Lib.hid (HB8.out.trans (HZ.out.mono HB8.out.size))
                go_wp2_with fail
                refine (Q9.out _ HB9.out HZ.out).mono ?_
                rintro e w10 ⟨v10, rfl, ho10, hb10⟩
                have HB10 := Lib.hid (HB9.out.trans (hb10.mono HB9.out.size))
                obtain ⟨A10, c10, hv10, _, _⟩ := ho10.rd
                dsimp only at hv10
                rw [← HN.out] at hv10
                subst hv10
                dsimp only
                clear ho10 hb10
                go_wp2_with fail
                go_ret
                exact ⟨rfl, HB.out.trans (HB10.out.mono HB.out.size)⟩
end Go.Proofs.YtchncgniiohgdaaDoor.FrameL
