/-
  Rows of bytes ('[][]byte'): read, owned, appended to.
  slices.Clone, slices.Grow and slices.Concat at bytes; pack.New.
  slices.Concat at bytes; pack.New; the writer.
  The writer lays bytes down.
-/
import Derived.Test.YtgogbpkcceadbaaGreatDoorWords
import Derived.Test.YtgogbpkcceadbaaGreatDoorFrameM
import Derived.Lib.AppendZeros
namespace Go.Proofs.YtgogbpkcceadbaaGreatDoor.Wd
open Go.RowKit

theorem info22 : (Tryz.prog.info? 41).map (fun i => (i.zero, i.size, i.bytes)) = some (some (.slice none 0 0), 1, 24) := by kernel_rfl

theorem add_block (ad : Addr) (j : Nat) : (ad.add j).block = ad.block := by
  unfold Addr.add
  split <;> rfl
theorem add_zero_ (ad : Addr) : ad.add 0 = ad := by
  cases ad
  simp [Addr.add]

/-- The value u reads as the bytes x, and they do not lie in the block k. -/
def Part (w : World) (k : Option Nat) (x : List Nat) (u : Value) : Prop :=
  ∃ A c, u = .slice A x.length c ∧ x.length ≤ c ∧ RdB w A x.length x ∧ ∀ ad, A = some ad → 0 < x.length → k ≠ some ad.block
theorem Part.move {w w' : World} {k k' : Option Nat} {x : List Nat} {u : Value} (h : Part w k x u) (hg : w.grownBy w' k) (hk : k' = k ∨ k' = some w.heap.size) : Part w' k' x u := by
  obtain ⟨A, c, rfl, hc, hr, hn⟩ := h
  refine ⟨A, c, rfl, hc, ⟨hr.len, hr.fits, hr.small, fun h0 => ?_⟩, fun ad hA h0 => ?_⟩
  · obtain ⟨ad, rfl, hcell⟩ := hr.cell h0
    refine ⟨ad, rfl, fun j hj => hg.cell (hcell j hj) ?_⟩
    rw [show (ad.add j).block = ad.block from add_block ad j]
    exact fun e => hn ad rfl h0 e.symm
  · rcases hk with rfl | rfl
    · exact hn ad hA h0
    · obtain ⟨ad', e, hcell⟩ := hr.cell h0
      rw [hA] at e
      injection e with e
      subst e
      have := World.block_lt_of_cell? w _ (hcell 0 h0)
      rw [show (ad.add 0).block = ad.block from add_block ad 0] at this
      intro e
      injection e with e
      omega
theorem Part.keep {w w' : World} {k : Option Nat} {x : List Nat} {u : Value} (h : Part w k x u) (hb : Below w.heap.size w w') : Part w' k x u := by
  obtain ⟨A, c, rfl, hc, hr, hn⟩ := h
  exact ⟨A, c, rfl, hc, hr.below hb, hn⟩

/-- The value v is a row of its own, of which the members read as l. -/
def OwnL (w : World) (base : Nat) (v : Value) (l : List (List Nat)) : Prop :=
  ∃ us : List Value, w.ownsRow base 41 1 v us.length us ∧ us.length = l.length ∧ ∀ (j : Nat) (x : List Nat), l[j]? = some x → ∃ u, us[j]? = some u ∧ Part w v.ownBlock x u
theorem OwnL.nil_ (w : World) (base : Nat) : OwnL w base (.slice none 0 0) [] := ⟨[], World.ownsRow_nil _ _ _ _, rfl, by simp⟩
theorem OwnL.below {w w' : World} {base : Nat} {v : Value} {l : List (List Nat)} (h : OwnL w base v l) (hb : Below w.heap.size w w') : OwnL w' base v l := by
  obtain ⟨us, h1, h2, h3⟩ := h
  refine ⟨us, h1.kept (grown_none hb) (by cases v.ownBlock <;> simp), h2, fun j x hx => ?_⟩
  obtain ⟨u, hu, hp⟩ := h3 j x hx
  exact ⟨u, hu, hp.keep hb⟩
theorem OwnL.alloc {w : World} {base : Nat} {v : Value} {l : List (List Nat)} (h : OwnL w base v l) (o : Obj) : OwnL (w.alloc o) base v l :=
  h.below ((Below.refl _ _).alloc (Nat.le_refl _) _)
theorem OwnL.drew {w : World} {base : Nat} {v : Value} {l : List (List Nat)} (h : OwnL w base v l) : OwnL w.drew base v l := h.below ((Below.refl _ _).drew)
theorem OwnL.rebase {w : World} {base base' : Nat} {v : Value} {l : List (List Nat)} (h : OwnL w base v l) (hb : base' ≤ base) : OwnL w base' v l := by
  obtain ⟨us, h1, h2⟩ := h
  exact ⟨us, own_base h1 hb, h2⟩
theorem OwnL.lt {w : World} {base : Nat} {v : Value} {l : List (List Nat)} (h : OwnL w base v l) : ∀ k, v.ownBlock = some k → base ≤ k ∧ k < w.heap.size := by
  obtain ⟨us, h1, _⟩ := h
  exact h1.lt
theorem OwnL.to_below {w0 w w' : World} {base : Nat} {v : Value} {l : List (List Nat)} (h : OwnL w base v l) (hb : Below base w0 w) (hbase : base ≤ w.heap.size) (hg : w.grownBy w' v.ownBlock) : Below base w0 w' :=
  hb.grown hg hbase fun k hk => (h.lt k hk).1
/-- The slice value '.slice A n c' reads as rows of bytes. -/
structure RdL (w : World) (A : Option Addr) (n : Nat) (l : List (List Nat)) : Prop where
  len : l.length = n
  fits : n ≤ 9223372036854775807
  cell : 0 < n → ∃ ad, A = some ad ∧ ∀ j, j < n → ∃ B c, w.cell? (ad.add j) = some (.slice B (l.getD j []).length c) ∧ (l.getD j []).length ≤ c ∧ RdB w B (l.getD j []).length (l.getD j [])
theorem RdL.below {w w1 : World} {A : Option Addr} {n : Nat} {l : List (List Nat)} (h : RdL w A n l) (hb : Below w.heap.size w w1) : RdL w1 A n l :=
  ⟨h.len, h.fits, fun h0 => by
    obtain ⟨ad, e, hc⟩ := h.cell h0
    refine ⟨ad, e, fun j hj => ?_⟩
    obtain ⟨B, c, h1, h2, h3⟩ := hc j hj
    refine ⟨B, c, ?_, h2, h3.below hb⟩
    rw [hb.cell (World.block_lt_of_cell? w _ h1)]
    exact h1⟩
theorem OwnL.rd {w : World} {base : Nat} {v : Value} {l : List (List Nat)} (h : OwnL w base v l) : ∃ A c, v = .slice A l.length c ∧ l.length ≤ c ∧ RdL w A l.length l := by
  obtain ⟨us, hrow, hlen, hp⟩ := h
  rcases hrow.2 with ⟨rfl, h0⟩ | ⟨g, cap, cur, rfl, _, _, hnc, hcm, _⟩
  · have : l = [] := List.eq_nil_of_length_eq_zero (by omega)
    subst this
    exact ⟨none, 0, rfl, Nat.le_refl _, rfl, by decide, fun h => absurd h (by decide)⟩
  · unfold maxLen at hcm
    rw [hlen] at hnc ⊢
    refine ⟨_, cap, rfl, hnc, rfl, by omega, fun _ => ⟨_, rfl, fun j hj => ?_⟩⟩
    obtain ⟨u, hu, B, c, rfl, h1, h2, _⟩ := hp j (l.getD j []) (by rw [List.getD_eq_getElem?_getD, List.getElem?_eq_getElem hj]; rfl)
    exact ⟨B, c, hrow.cells (g := g) rfl j _ hu, h1, h2⟩

/-- One member more. -/
theorem appL_run (w : World) (base : Nat) (ty : TypeId) {v u : Value} {l : List (List Nat)} {x : List Nat} (h : OwnL w base v l) (hp : Part w v.ownBlock x u) {ad : Addr} (c : Nat) (hu : w.cell? ad = some u)
    (hb : l.length ≤ 1000000) (hbase : base ≤ w.heap.size) :
    ∃ v' w', (Builtin.append_ #[126, 126] ty #[v, .slice (some ad) 1 c]).run Tryz.prog w = .ok v' w' ∧ OwnL w' base v' (l ++ [x]) ∧ w.grownBy w' v.ownBlock := by
  obtain ⟨i0, hi0, hz0, hz1, hz2⟩ := info_parts info22
  obtain ⟨us, hrow, hlen, hpp⟩ := h
  have ho : u.oneCell' = true := by
    obtain ⟨A, c, rfl, _⟩ := hp
    rfl
  obtain ⟨v', w', hr, h2, h3, _, h5⟩ := run_append_own_at (P := Tryz.prog) w base 126 ty 41 i0 _ 1 24 Tryz.underlying126 hi0 hz0 hz1 hz2 rfl (by decide) v us.length us hrow ad 1 c [u]
      (by simp) (fun j y hy => by
        rcases j with _ | j
        · simp only [List.getElem?_cons_zero, Option.some.injEq] at hy
          subst hy
          rw [show ad.add 0 = ad from add_zero_ ad]
          exact hu
        · simp at hy)
      (fun y hy => by rw [List.mem_singleton.1 hy]; exact ho) (by unfold maxLen; omega) (by omega) hbase
  refine ⟨v', w', hr, ⟨us ++ [u], ?_, by simp [hlen], fun j y hy => ?_⟩, h3⟩
  · rw [List.length_append]
    exact h2
  · by_cases hj : j < l.length
    · rw [List.getElem?_append_left hj] at hy
      obtain ⟨y', h6, h7⟩ := hpp j y hy
      refine ⟨y', ?_, h7.move h3 h5⟩
      rw [List.getElem?_append_left (by omega)]
      exact h6
    · have hj2 : j = l.length := by
        have := (List.getElem?_eq_some_iff.1 hy).1
        simp at this
        omega
      subst hj2
      simp at hy
      subst hy
      refine ⟨u, ?_, hp.move h3 h5⟩
      rw [← hlen]
      simp
theorem appL_wp {o : Oper} {a : Act} {K : Act → World → Prop} {Q : Exit → Act → World → Prop} (w : World) (base : Nat) (s x : Operand)
    (ho : o.op = .call { callee := .builtin .append, args := #[s, x], argTypes := #[126, 126] })
    {v u : Value} {l : List (List Nat)} {ys : List Nat} {ad : Addr} {c : Nat} (hs : a.eval s = v) (hx : a.eval x = .slice (some ad) 1 c) (h : OwnL w base v l) (hp : Part w v.ownBlock ys u) (hu : w.cell? ad = some u)
    (hb : l.length ≤ 1000000) (hbase : base ≤ w.heap.size)
    (hk : ∀ v' w', OwnL w' base v' (l ++ [ys]) → w.grownBy w' v.ownBlock → K (a.put o.dst v') w') : o.wp Tryz.prog a w K Q := by
  obtain ⟨v', w', hrun, h2, h3⟩ := appL_run w base o.type h hp c hu hb hbase
  unfold Oper.wp execOp
  simp only [ho, resolve, invoke, builtin, Sem.run_bind, Sem.run_pure, Result.andThen_ok, List.map_toArray, List.map_cons, List.map_nil, hs, hx, hrun]
  exact hk v' w' h2 h3
theorem appL_list {ops : Array Oper} {rest : List Oper} {o : Oper} {a : Act} {Q : Exit → Act → World → Prop} {w : World} (base : Nat) (hgd : o.guard = none) (s x : Operand)
    (ho : o.op = .call { callee := .builtin .append, args := #[s, x], argTypes := #[126, 126] })
    {v u : Value} {l : List (List Nat)} {ys : List Nat} {ad : Addr} {c : Nat} (hs : a.eval s = v) (hx : a.eval x = .slice (some ad) 1 c) (h : OwnL w base v l) (hp : Part w v.ownBlock ys u) (hu : w.cell? ad = some u)
    (hb : l.length ≤ 1000000) (hbase : base ≤ w.heap.size)
    (hk : ∀ v' w', OwnL w' base v' (l ++ [ys]) → w.grownBy w' v.ownBlock → wpList Tryz.prog ops Q rest (a.put o.dst v') w') : wpList Tryz.prog ops Q (o :: rest) a w :=
  wpList_plain hgd fun _ hK => appL_wp w base s x ho hs hx h hp hu hb hbase fun v' w' h2 h3 => hK _ _ (hk v' w' h2 h3)
end Go.Proofs.YtgogbpkcceadbaaGreatDoor.Wd
namespace Go.Proofs.YtgogbpkcceadbaaGreatDoor.Pk
open Go.RowKit Go.Proofs.YtgogbpkcceadbaaGreatDoor.Wd Go.Proofs.YtgogbpkcceadbaaGreatDoor.VintW
set_option linter.unusedVariables false

set_option maxHeartbeats 1000000 in
theorem clone_all (n cap : Nat) (A : Option Addr) (xs : List Nat) (w : World) (hx : RdB w A n xs) (hn : n ≤ 65536) :
    Calls Tryz.prog 54 #[.slice A n cap] w (GivesB w xs) := by
  cases A with
  | some ad => exact FrameW.clone_any n cap ad xs w hx hn
  | none =>
    have hl : xs = [] := by
      have h1 := hx.len
      rcases Nat.eq_zero_or_pos n with h0 | h0
      · exact List.eq_nil_of_length_eq_zero (by omega)
      · obtain ⟨ad, h2, _⟩ := hx.cell h0
        cases h2
    subst hl
    have hnil := fun W : World => Lib.run_eql_slice_nil (P := Tryz.prog) W 41 5 none n cap 0 0 Tryz.underlying41
    clear hx
    go_enter Tryz.func54, Tryz.ntmps54
    go_wp2_with fail
    go_ret
    exact ⟨_, rfl, OwnB.nil_ _ _, Below.refl _ _⟩
set_option maxHeartbeats 1000000 in
set_option maxRecDepth 100000 in
theorem grow_any (n : Nat) (w : World) (hn : n ≤ 1000000) : Calls Tryz.prog 96 #[.slice none 0 0, .int .i64 (n : Int)] w (GivesB w []) := by
  by_cases h0 : 0 < n
  · obtain ⟨i0, hi0, hz0, hz1, hz2⟩ := info_parts info8
    have hr := fun ty => Lib.run_append_nil_zeros (P := Tryz.prog) w 41 3 ty 5 i0 (.int .u8 0) .i64 .i64 Tryz.underlying41 Tryz.underlying3 hi0 hz0 n h0 (by rw [hz1]; decide) (by omega) (by rw [hz2]; omega)
    have hge := grownCap_ge w n 0 5
    have hcm := grownCap_le_maxLen w n 0 5 (by unfold maxLen; omega)
    generalize grownCap w n 0 5 = C at *
    have hown : OwnB (w.drew.alloc (.cells (Builtin.zeroCells (Value.int .u8 0).cells n ++ Builtin.zeroCells (Value.int .u8 0).cells (C - n)) 5)) w.heap.size (.slice (some ⟨w.heap.size, 0, none⟩) 0 C) [] :=
      ⟨World.ownsRow_made w.drew _ C (Nat.le_refl _) hcm (by
        simp only [Array.size_append, size_zeroCells, Value.cells]
        show n * 1 + (C - n) * 1 = C * 1
        omega), by simp⟩
    have hb : Below w.heap.size w (w.drew.alloc (.cells (Builtin.zeroCells (Value.int .u8 0).cells n ++ Builtin.zeroCells (Value.int .u8 0).cells (C - n)) 5)) := ((Below.refl _ _).drew).alloc (Nat.le_refl _) _
    have HO := Lib.hid hown
    have HB := Lib.hid hb
    have h1 : ¬ ((n : Int) < 0) := by omega
    have h2 : (n : Int) > 0 := by omega
    clear hown hb
    generalize w.drew.alloc (.cells (Builtin.zeroCells (Value.int .u8 0).cells n ++ Builtin.zeroCells (Value.int .u8 0).cells (C - n)) 5) = w1 at *
    have HR := Lib.hid hr
    clear hr
    go_enter Tryz.func96, Tryz.ntmps96
    go_wp2_with (at_builtin; refine Lib.wpList_append_run _ rfl (.tmp 20) (.tmp 21) _ _ rfl _ _ rfl rfl _ _ (HR.out _) ?_)
    go_ret
    exact ⟨_, rfl, HO.out, HB.out⟩
  · have h1 : n = 0 := by omega
    subst h1
    go_enter Tryz.func96, Tryz.ntmps96
    go_wp2_with fail
    go_ret
    exact ⟨_, rfl, OwnB.nil_ _ _, Below.refl _ _⟩
end Go.Proofs.YtgogbpkcceadbaaGreatDoor.Pk
namespace Go.Proofs.YtgogbpkcceadbaaGreatDoor.Pk
open Go.RowKit Go.Proofs.YtgogbpkcceadbaaGreatDoor.Wd Go.Proofs.YtgogbpkcceadbaaGreatDoor.VintW
set_option linter.unusedVariables false

theorem flatten_snoc {l : List (List Nat)} {k : Nat} (h : k < l.length) : (l.take (k + 1)).flatten = (l.take k).flatten ++ l.getD k [] := by
  rw [List.take_succ_eq_append_getElem h, List.flatten_append, List.getD_eq_getElem?_getD, List.getElem?_eq_getElem h]
  simp
theorem flatten_take_le (l : List (List Nat)) (k : Nat) : (l.take k).flatten.length ≤ l.flatten.length := by
  conv => rhs; rw [← List.take_append_drop k l, List.flatten_append, List.length_append]
  omega
set_option maxHeartbeats 2000000 in
set_option maxRecDepth 100000 in
theorem concat_any (n cap : Nat) (A : Option Addr) (l : List (List Nat)) (w : World) (hr : RdL w A n l) (hs : l.flatten.length ≤ 1000000) :
    Calls Tryz.prog 75 #[.slice A n cap] w (GivesB w l.flatten) := by
  have hfit := hr.fits
  have HR := Lib.hid hr
  have HL := Lib.hid hr.len
  clear hr
  have Q := Lib.hid (fun W => grow_any l.flatten.length W hs)
  go_enter Tryz.func75, Tryz.ntmps75
  go_wp2_with fail
  go_loop [3, 5, 11] (fun d _ i => ∃ k S : Nat, k ≤ n ∧ i = .int .i64 (k : Int) ∧ d = .int .i64 (S : Int) ∧ S ≤ 1000000 ∧ Hid (S = (l.take k).flatten.length)) (fun _ _ i => n - (intOf i).toNat)
  case atStart => exact ⟨0, 0, Nat.zero_le _, rfl, rfl, Nat.zero_le _, rfl⟩
  case round =>
    obtain ⟨k, S, hk, rfl, rfl, hS1, HS⟩ := hrel
    by_cases hlt : k < n
    · have hkl : k < l.length := by rw [HL.out]; exact hlt
      obtain ⟨ad, hA, hc⟩ := HR.out.cell (by omega)
      subst hA
      obtain ⟨B, c, h1, h2, h3⟩ := hc k hlt
      have hsn := flatten_snoc hkl
      have hle := flatten_take_le l (k + 1)
      have hlen := congrArg List.length hsn
      rw [List.length_append, ← HS.out] at hlen
      obtain ⟨m, hm⟩ : ∃ m, m = (l.getD k []).length := ⟨_, rfl⟩
      rw [← hm] at h1 hlen
      have hS2 : S + m ≤ 1000000 := by omega
      have HLEN := Lib.hid hlen
      have i0 : (0 : Int) ≤ (k : Int) := by omega
      have i1 : (k : Int) < (n : Int) := by omega
      clear hkl hc h2 h3 hsn hle hlen hm
      go_wp2_with fail
      exact ⟨⟨k + 1, S + m, by omega, by go_num, by go_num, hS2, HLEN.out.symm⟩, by simp [intOf]; omega⟩
    · have hkn : l.take k = l := List.take_of_length_le (by rw [HL.out]; omega)
      have hq := HS.out
      rw [hkn] at hq
      have HQ := Lib.hid hq
      have q := Q.out w
      rw [← hq] at q
      have Q2 := Lib.hid q
      clear hkn hq q
      go_wp2_with fail
      refine Q2.out.mono ?_
      rintro e w1 ⟨v1, rfl, ho1, hb1⟩
      have HO1 := Lib.hid ho1
      have HB1 := Lib.hid hb1
      clear ho1 hb1
      go_wp2_with fail
      go_loopw [6, 8, 27] (fun d _ i wr => ∃ k : Nat, k ≤ n ∧ i = .int .i64 (k : Int) ∧ Hid (OwnB wr w.heap.size d (l.take k).flatten) ∧ Hid (Below w.heap.size w wr)) (fun _ _ i _ => n - (intOf i).toNat)
      case atStart => exact ⟨0, Nat.zero_le _, rfl, HO1, HB1⟩
      case round =>
        obtain ⟨k, hk, rfl, HO, HW⟩ := hrel
        by_cases hlt : k < n
        · have hkl : k < l.length := by rw [HL.out]; exact hlt
          obtain ⟨ad, hA, hc⟩ := (HR.out.below HW.out).cell (by omega)
          subst hA
          obtain ⟨B, c, h1, h2, h3⟩ := hc k hlt
          have hsn := flatten_snoc hkl
          have hle := flatten_take_le l (k + 1)
          have hlen := congrArg List.length hsn
          rw [List.length_append] at hlen
          obtain ⟨ys, hys⟩ : ∃ ys, ys = l.getD k [] := ⟨_, rfl⟩
          rw [← hys] at h1 h3 hsn hlen
          have H3 := Lib.hid h3
          have hS2 : (l.take k).flatten.length + ys.length ≤ 1000000 := by omega
          have HS2 := Lib.hid hS2
          have HSN := Lib.hid hsn
          have i0 : (0 : Int) ≤ (k : Int) := by omega
          have i1 : (k : Int) < (n : Int) := by omega
          clear hkl hc h2 h3 hsn hle hlen hys hS2
          go_wp2_with (at_builtin; refine app_list w.heap.size rfl (.tmp 31) (.tmp 32) rfl rfl rfl HO.out H3.out (by have := HS2.out; omega) HW.out.size ?_; intro v2 w2 ho2 hg2 ha2; have HB2 := Lib.hid (HO.out.to_below HW.out HW.out.size hg2); have HO2 := Lib.hid ho2; clear ho2 hg2 ha2)
          go_roundw
          case rel => exact ⟨k + 1, by omega, by go_num, by unfold Hid; rw [HSN.out]; exact HO2.out, HB2.out⟩
          case measure => simp [intOf]; omega
        · have hkn : l.take k = l := List.take_of_length_le (by rw [HL.out]; omega)
          have hq := HO.out
          rw [hkn] at hq
          have HQ := Lib.hid hq
          clear hkn hq
          go_wp2_with fail
          go_ret
          exact ⟨_, rfl, HQ.out, HW.out⟩

/-! ### The writer -/
/-- A writer that has laid bytes down, and no error. -/
structure WrAt (w : World) (B g : Nat) (v : Value) (bs : List Nat) : Prop where
  base : B ≤ g
  row : w.heap[g]? = some (.cells #[.bool true, .int .i64 0, v] 124 (0, 0))
  own : OwnB w B v bs
  ne : v.ownBlock ≠ some g
theorem WrAt.lt {w : World} {B g : Nat} {v : Value} {bs : List Nat} (h : WrAt w B g v bs) : g < w.heap.size := (Array.getElem?_eq_some_iff.1 h.row).1
theorem WrAt.below {w w' : World} {B g : Nat} {v : Value} {bs : List Nat} (h : WrAt w B g v bs) (hb : Below w.heap.size w w') : WrAt w' B g v bs :=
  ⟨h.base, by rw [hb.block g h.lt]; exact h.row, h.own.below hb, h.ne⟩
theorem WrAt.c0 {w : World} {B g : Nat} {v : Value} {bs : List Nat} (h : WrAt w B g v bs) : w.cell? ⟨g, 0, none⟩ = some (.bool true) := by rw [cell_of_row w g 0 _ _ _ h.row]; rfl
theorem WrAt.c1 {w : World} {B g : Nat} {v : Value} {bs : List Nat} (h : WrAt w B g v bs) : w.cell? ⟨g, 1, none⟩ = some (.int .i64 0) := by rw [cell_of_row w g 1 _ _ _ h.row]; rfl
theorem WrAt.c2 {w : World} {B g : Nat} {v : Value} {bs : List Nat} (h : WrAt w B g v bs) : w.cell? ⟨g, 2, none⟩ = some v := by rw [cell_of_row w g 2 _ _ _ h.row]; rfl
theorem new_any (w : World) : Calls Tryz.prog 46 #[] w fun e w' => e = .returned (.pointer (some ⟨w.heap.size, 0, none⟩)) ∧ WrAt w' w.heap.size w.heap.size (.slice none 0 0) [] ∧ Below w.heap.size w w' := by
  have h1 : WrAt (w.alloc (.cells #[.bool true, .int .i64 0, .slice none 0 0] 124)) w.heap.size w.heap.size (.slice none 0 0) [] := ⟨Nat.le_refl _, heap_alloc_new w _, OwnB.nil_ _ _, by simp [Value.ownBlock]⟩
  have h2 : Below w.heap.size w (w.alloc (.cells #[.bool true, .int .i64 0, .slice none 0 0] 124)) := (Below.refl _ _).alloc (Nat.le_refl _) _
  have H1 := Lib.hid h1
  have H2 := Lib.hid h2
  clear h1 h2
  go_enter Tryz.func46, Tryz.ntmps46
  go_wp2_with fail
  go_ret
  exact ⟨rfl, H1.out, H2.out⟩
end Go.Proofs.YtgogbpkcceadbaaGreatDoor.Pk
namespace Go.Proofs.YtgogbpkcceadbaaGreatDoor.Pk
open Go.RowKit Go.Proofs.YtgogbpkcceadbaaGreatDoor.Wd Go.Proofs.YtgogbpkcceadbaaGreatDoor.VintW
set_option linter.unusedVariables false

theorem is_slice {w : World} {B : Nat} {v : Value} {bs : List Nat} (h : OwnB w B v bs) : ∃ A m c, v = .slice A m c := by
  obtain ⟨A, c, e, _, _⟩ := h.rd
  exact ⟨A, _, c, e⟩
theorem WrAt.fz {w : World} {B g : Nat} {v : Value} {bs : List Nat} (h : WrAt w B g v bs) (k : Nat) : w.frozen? ⟨g, k, none⟩ = false := by
  simp [World.frozen?, h.row]
theorem grown_setCell (w : World) (b i : Nat) (v : Value) : w.grownBy (w.setCell ⟨b, i, none⟩ v) (some b) :=
  ⟨rfl, rfl, rfl, by simp [World.setCell], fun k _ hk => Below.heap_setCell _ _ _ _ (fun e => hk (by simp [e]))⟩
/-- Behind an append to its bytes, and behind the store of these. -/
theorem WrAt.row2 {w1 w2 : World} {B g : Nat} {v : Value} {bs : List Nat} (h : WrAt w1 B g v bs) (hg : w1.grownBy w2 v.ownBlock) : w2.heap[g]? = some (.cells #[.bool true, .int .i64 0, v] 124 (0, 0)) := by
  rw [hg.block g h.lt (fun e => h.ne e.symm)]
  exact h.row
theorem WrAt.stored {w1 w2 : World} {B g : Nat} {v v' : Value} {bs bs' : List Nat} (h : WrAt w1 B g v bs) (ho : OwnB w2 B v' bs') (hg : w1.grownBy w2 v.ownBlock) (he : v'.ownBlock = v.ownBlock ∨ v'.ownBlock = some w1.heap.size) :
    WrAt (w2.setCell ⟨g, 2, none⟩ v') B g v' bs' := by
  have hr := h.row2 hg
  have hne : v'.ownBlock ≠ some g := by
    rcases he with e | e
    · rw [e]; exact h.ne
    · rw [e]; have := h.lt; intro e2; injection e2 with e2; omega
  refine ⟨h.base, ?_, ho.kept (grown_setCell w2 g 2 v') (.inr hne), hne⟩
  rw [setCell_eq_setRow w2 g 2 _ _ _ _ hr, setRow_heap w2 g _ _ _ _ hr]
  rfl
set_option maxHeartbeats 2000000 in
set_option maxRecDepth 100000 in
theorem lay_any (B g : Nat) (v : Value) (bs : List Nat) (A : Option Addr) (n cap : Nat) (l : List (List Nat)) (w : World) (h : WrAt w B g v bs) (hr : RdL w A n l) (hs : bs.length + l.flatten.length ≤ 65536) :
    Calls Tryz.prog 50 #[.pointer (some ⟨g, 0, none⟩), .slice A n cap] w fun e w' => e = .returned (.int .i64 0) ∧ (∃ v', WrAt w' B g v' (bs ++ l.flatten)) ∧ Below B w w' := by
  have Q := Lib.hid (concat_any n cap A l w hr (by omega))
  have hBw : B ≤ w.heap.size := by have := h.lt; have := h.base; omega
  have c0 := h.c0
  have c1 := h.c1
  have H := Lib.hid h
  have HS := Lib.hid hs
  have HB := Lib.hid hBw
  clear h hr hs hBw
  go_enter Tryz.func50, Tryz.ntmps50
  go_wp2_with fail
  refine Q.out.mono ?_
  rintro e w1 ⟨v2, rfl, ho2, hb2⟩
  have h1 := H.out.below hb2
  have b1 : Below B w w1 := hb2.mono HB.out
  obtain ⟨A2, k2, rfl, hk2, hrd⟩ := ho2.rd
  obtain ⟨A1, k1, rfl, hk1, hrd1⟩ := h1.own.rd
  have HS2 := Lib.hid HS.out
  have hs2 := HS.out
  generalize hm2 : l.flatten.length = m2 at hk2 hrd hs2 HS2 ⊢
  generalize hm1 : bs.length = m1 at hk1 hrd1 hs2 h1 ⊢
  have d0 := h1.c0
  have d1 := h1.c1
  have d2 := h1.c2
  have H1 := Lib.hid h1
  have HRD := Lib.hid hrd
  have B1 := Lib.hid b1
  have HM2 := Lib.hid hm2
  have HM1 := Lib.hid hm1
  have hsI : ¬ ((m1 : Int) + (m2 : Int) > 65536) := by omega
  have hsI2 : ((m1 : Int) + (m2 : Int)) ≤ 65536 := by omega
  clear hb2 ho2 h1 hrd hrd1 b1 hm1 hm2 c0 c1
  have z0 := fun (W : World) (hW : W.heap[g]? = some (.cells #[.bool true, .int .i64 0, .slice A1 m1 k1] 124 (0, 0))) => show W.cell? ⟨g, 2, none⟩ = some (.slice A1 m1 k1) ∧ W.frozen? ⟨g, 2, none⟩ = false from ⟨by rw [cell_of_row W g 2 _ _ _ hW]; rfl, by simp [World.frozen?, hW]⟩
  have Z0 := Lib.hid z0
  clear z0
  go_wp2_with (at_builtin; refine app_list B rfl (.tmp 48) (.tmp 49) rfl rfl rfl H1.out.own HRD.out (by have := HS2.out; omega) (Nat.le_trans HB.out B1.out.size) ?_; intro v3 w3 ho3 hg3 he3; obtain ⟨e2, e3⟩ := Z0.out w3 (H1.out.row2 hg3); obtain ⟨A3, m3, k3, rfl⟩ := is_slice ho3; have HR := Lib.hid (H1.out.stored ho3 hg3 he3); have HB3 := Lib.hid ((H1.out.own.to_below B1.out (Nat.le_trans HB.out B1.out.size) hg3).setCell (p := ⟨g, 2, none⟩) H1.out.base (.slice A3 m3 k3)); clear ho3 hg3 he3)
  go_ret
  exact ⟨rfl, ⟨_, HR.out⟩, HB3.out⟩
end Go.Proofs.YtgogbpkcceadbaaGreatDoor.Pk
