/-
  How dots, spans, operations, and slices of these are opened.
-/
import Derived.Test.YtkhjmegjnglkgaaOpenV
import Derived.Test.YtkhjmegjnglkgaaSize
import Derived.Test.YtkhjmegjnglkgaaPick1
import Derived.Deep.Slices
namespace Go.Proofs.Ytkhjmegjnglkgaa.Opn
open Go.ChangeShapes Go.WideShapes Go.ChangeAt Go.RowKit Go.Proofs.Ytkhjmegjnglkgaa.Wd Go.Proofs.Ytkhjmegjnglkgaa.Vc
set_option linter.unusedVariables false
section
variable {H : Type} {enc : TypeId × Value → H} {w : World} {base : Nat} {spare : Nat → Bool} {held : Bool} {fuel : Nat} {cs : List Value} {x : DataW H × List MemPlace}

theorem int_at {t : TypeId} {k : IntKind} {y : Option (DataW H × List MemPlace)} {z : DataW H × List MemPlace} {o : Nat} (ht : Try.prog.underlying t = some (.int k)) (hc : Try.prog.cellsOf t = 1)
    (h : DataW.trod enc Try.prog w base spare held fuel t ((cs.drop o).take (Try.prog.cellsOf t)) = y) (hy : y = some z) (ho : o < cs.length) : ∃ n, cs[o]? = some (.int k n) ∧ (Lit.int k n).wf = true := by
  subst hy
  rw [hc, List.drop_eq_getElem_cons ho] at h
  obtain ⟨n, hn, _, hw⟩ := DataW.trod_int ht h
  refine ⟨n, ?_, hw⟩
  rw [List.getElem?_eq_getElem ho]
  rw [List.take_succ_cons, List.take_zero] at hn
  injection hn with hn
  rw [hn]
theorem nat_of {k : IntKind} {top : Nat} {o : Option Value} (h : ∃ n, o = some (.int k n) ∧ (Lit.int k n).wf = true) (hb : ∀ n : Int, (Lit.int k n).wf = true → 0 ≤ n ∧ n ≤ (top : Int)) : ∃ n : Nat, o = some (.int k (n : Int)) ∧ n ≤ top := by
  obtain ⟨n, hn, hw⟩ := h
  obtain ⟨h0, h1⟩ := hb n hw
  exact ⟨n.toNat, by rw [hn, Int.toNat_of_nonneg h0], by omega⟩
theorem c5 : Try.prog.cellsOf 5 = 1 := by kernel_rfl
theorem c22 : Try.prog.cellsOf 22 = 1 := by kernel_rfl
theorem c52 : Try.prog.cellsOf 52 = 1 := by kernel_rfl
theorem trod_dot (h : DataW.trod enc Try.prog w base spare held fuel 45 cs = some x) : ∃ r s : Nat, cs = [.int .u8 (r : Int), .int .u32 (s : Int)] ∧ r ≤ 255 ∧ s ≤ 4294967295 := by
  obtain ⟨xs, n, _, _, hl, hx, hi⟩ := DataW.trod_struct Try.underlying45 h
  rw [show Try.prog.cellsOf 45 = 2 by kernel_rfl] at hl
  have hx2 : xs.length = 2 := hx
  obtain ⟨r, hr, br⟩ := nat_of (top := 255) (int_at Try.underlying5 c5 (hi 0 _ rfl) (List.getElem?_eq_getElem (show 0 < xs.length by omega)) (show 0 < cs.length by omega)) (fun n hn => by simpa using bounds_u8 hn)
  obtain ⟨s, hs, bs⟩ := nat_of (top := 4294967295) (int_at Try.underlying22 c22 (hi 1 _ rfl) (List.getElem?_eq_getElem (show 1 < xs.length by omega)) (show 1 < cs.length by omega)) (fun n hn => by simpa using bounds_u32 hn)
  refine ⟨r, s, ?_, br, bs⟩
  match cs, hl with
  | [a, b], _ => simp at hr hs; rw [hr, hs]
theorem trod_rspan (h : DataW.trod enc Try.prog w base spare held fuel 37 cs = some x) : ∃ s : Sp, cs = spA s ∧ SpOk s := by
  obtain ⟨xs, n, _, _, hl, hx, hi⟩ := DataW.trod_struct Try.underlying37 h
  rw [show Try.prog.cellsOf 37 = 3 by kernel_rfl] at hl
  have hx2 : xs.length = 3 := hx
  obtain ⟨r, hr, br⟩ := nat_of (top := 255) (int_at Try.underlying5 c5 (hi 0 _ rfl) (List.getElem?_eq_getElem (show 0 < xs.length by omega)) (show 0 < cs.length by omega)) (fun n hn => by simpa using bounds_u8 hn)
  obtain ⟨s, hs, bs⟩ := nat_of (top := 4294967295) (int_at Try.underlying22 c22 (hi 1 _ rfl) (List.getElem?_eq_getElem (show 1 < xs.length by omega)) (show 1 < cs.length by omega)) (fun n hn => by simpa using bounds_u32 hn)
  obtain ⟨t, ht, bt⟩ := nat_of (top := 4294967295) (int_at Try.underlying22 c22 (hi 2 _ rfl) (List.getElem?_eq_getElem (show 2 < xs.length by omega)) (show 2 < cs.length by omega)) (fun n hn => by simpa using bounds_u32 hn)
  refine ⟨(r, s, t), ?_, br, bs, bt⟩
  match cs, hl with
  | [a, b, c], _ => simp at hr hs ht; rw [hr, hs, ht]; rfl
theorem trod_vec (h : DataW.trod enc Try.prog w base spare held fuel 24 cs = some x) : ∃ xs : List Nat, cs = xs.map (fun x => Value.int .u32 ((x : Nat) : Int)) ∧ IsVec xs := by
  obtain ⟨ys, m, _, _, hl, hlen, hi⟩ := DataW.trod_array Try.underlying24 h
  rw [show Try.prog.cellsOf 24 = 16 by kernel_rfl] at hl
  have key : ∀ i, i < 16 → ∃ n : Nat, cs[i]? = some (.int .u32 (n : Int)) ∧ n ≤ 4294967295 := fun i h16 =>
    nat_of (top := 4294967295) (int_at Try.underlying22 c22 (by have := hi i h16; rw [c22, Nat.mul_one] at this; rw [c22]; exact this) (List.getElem?_eq_getElem (show i < ys.length by omega)) (show i < cs.length by omega)) (fun n hn => by simpa using bounds_u32 hn)
  refine ⟨cs.map natOf, ?_, by simp [hl], ?_⟩
  · apply List.ext_getElem?
    intro i
    by_cases hlt : i < 16
    · obtain ⟨n, hn, hb⟩ := key i hlt
      rw [hn, List.map_map, List.getElem?_map, hn]
      simp [natOf]
    · rw [List.getElem?_eq_none (by omega), List.getElem?_eq_none (by simp; omega)]
  · intro x hx
    obtain ⟨v, hv, rfl⟩ := List.mem_map.1 hx
    obtain ⟨i, hi2, rfl⟩ := List.getElem_of_mem hv
    obtain ⟨n, hn, hb⟩ := key i (by omega)
    rw [List.getElem?_eq_getElem hi2] at hn
    injection hn with hn
    rw [hn]
    show (n : Int).toNat ≤ _
    omega
theorem trod_op (h : DataW.trod enc Try.prog w base spare held fuel 54 cs = some x) : ∃ o : O, cs = opA o ∧ OkO o := by
  obtain ⟨xs, n, _, _, hl, hx, hi⟩ := DataW.trod_struct Try.underlying54 h
  rw [show Try.prog.cellsOf 54 = 23 by kernel_rfl] at hl
  have hx2 : xs.length = 7 := hx
  have g (i : Nat) (hi7 : i < 7) : xs[i]? = some xs[i] := List.getElem?_eq_getElem (by omega)
  have h0 := (hi 0 _ rfl).trans (g 0 (by omega))
  obtain ⟨r, s, hd, br, bs⟩ := trod_dot h0
  obtain ⟨k, hk, bk⟩ := nat_of (top := 255) (int_at Try.underlying5 c5 (hi 1 _ rfl) (g 1 (by omega)) (show 2 < cs.length by omega)) (fun n hn => by simpa using bounds_u8 hn)
  obtain ⟨c, hc, bc⟩ := nat_of (top := 65535) (int_at Try.underlying52 c52 (hi 2 _ rfl) (g 2 (by omega)) (show 3 < cs.length by omega)) (fun n hn => by simpa using bounds_u16 hn)
  obtain ⟨i, hit, bi⟩ := nat_of (top := 65535) (int_at Try.underlying52 c52 (hi 3 _ rfl) (g 3 (by omega)) (show 4 < cs.length by omega)) (fun n hn => by simpa using bounds_u16 hn)
  obtain ⟨q, hq, bq⟩ := nat_of (top := 65535) (int_at Try.underlying52 c52 (hi 4 _ rfl) (g 4 (by omega)) (show 5 < cs.length by omega)) (fun n hn => by simpa using bounds_u16 hn)
  obtain ⟨t, ht, bt⟩ := nat_of (top := 4294967295) (int_at Try.underlying22 c22 (hi 5 _ rfl) (g 5 (by omega)) (show 6 < cs.length by omega)) (fun n hn => by simpa using bounds_u32 hn)
  obtain ⟨v, hv, iv⟩ := trod_vec ((hi 6 _ rfl).trans (g 6 (by omega)))
  refine ⟨⟨r, s, k, c, i, q, t, v⟩, ?_, br, bs, bk, bc, bi, bq, bt, iv⟩
  have hd' : (cs.drop 0).take (Try.prog.cellsOf 45) = [.int .u8 (r : Int), .int .u32 (s : Int)] := hd
  have hv' : (cs.drop 7).take (Try.prog.cellsOf 24) = v.map (fun x => Value.int .u32 ((x : Nat) : Int)) := hv
  rw [show Try.prog.cellsOf 45 = 2 by kernel_rfl] at hd'
  rw [show Try.prog.cellsOf 24 = 16 by kernel_rfl] at hv'
  rw [List.take_of_length_le (by simp; omega)] at hv'
  clear hd hv h0 hi h
  rcases cs with _ | ⟨a0, _ | ⟨a1, _ | ⟨a2, _ | ⟨a3, _ | ⟨a4, _ | ⟨a5, _ | ⟨a6, l⟩⟩⟩⟩⟩⟩⟩
  all_goals try (simp at hl; done)
  simp at hd' hk hc hit hq ht hv'
  obtain ⟨e0, e1⟩ := hd'
  rw [e0, e1, hk, hc, hit, hq, ht, hv']
  rfl
theorem open_dot {W : World} {v : Value} {d : DataW H} {ps : List MemPlace} {r : Reach} (hv : Value.okWide Try.prog W r base 45 v)
    (h : DataW.Trod enc Try.prog W 0 (fun _ => true) true 45 v d ps) : ∃ r s : Nat, r ≤ 255 ∧ s ≤ 4294967295 ∧ v = .agg #[.int .u8 (r : Int), .int .u32 (s : Int)] := by
  obtain ⟨m, hm⟩ := h
  obtain ⟨r, s, hc, br, bs⟩ := trod_dot hm
  simp only [Value.okWide, Try.underlying45] at hv
  obtain ⟨cs, rfl, _, _⟩ := hv
  refine ⟨r, s, br, bs, ?_⟩
  congr 1
  exact Array.toList_inj.1 (by simpa [Value.cells] using hc)

/-- The elements of a slice, each one's cells. -/
theorem slice_cells {t e : TypeId} {n : Nat} (ht : Try.prog.underlying t = some (.slice e)) (hn : Try.prog.cellsOf e = n) {a : Option Addr} {len cap : Nat} {d : DataW H} {ps : List MemPlace} (h : DataW.Trod enc Try.prog w 0 spare true t (.slice a len cap) d ps) :
    (a = none ∧ len = 0 ∧ cap = 0) ∨ ∃ ad m, a = some ad ∧ len ≤ cap ∧ cap ≤ maxLen ∧ ∀ i, i < len → ∃ cs y, DataW.trod enc Try.prog w 0 spare true m e cs = some y ∧ cs.length = n ∧ ∀ j, j < n → w.cell? (ad.add (i * n + j)) = cs[j]? := by
  obtain ⟨fuel, hf⟩ := h
  rcases DataW.trod_slice ht hf with ⟨hcs, _⟩ | ⟨ad, l, c, elems, rest, m, _, hcs, _, _, hl, hm, hlen, hi, _⟩
  · simp [Value.cells] at hcs
    exact .inl hcs
  · simp [Value.cells] at hcs
    obtain ⟨rfl, rfl, rfl⟩ := hcs
    refine .inr ⟨ad, m, rfl, hl, hm, fun i hi2 => ?_⟩
    have h2 := hi i hi2
    rw [List.getElem?_eq_getElem (by omega), Option.bind_eq_some_iff] at h2
    obtain ⟨cs, hc, hy⟩ := h2
    rw [hn] at hc
    have h3 := World.cells?_some hc
    refine ⟨cs, _, hy, h3.2.1, fun j hj => ?_⟩
    rw [← add_of_add]
    exact h3.2.2 j hj
end
theorem open_rspans {H : Type} {enc : TypeId × Value → H} {W : World} {a : Option Addr} {len cap : Nat} {d : DataW H} {ps : List MemPlace}
    (h : DataW.Trod enc Try.prog W 0 (fun _ => true) true 28 (.slice a len cap) d ps) : ∃ l, RdS W a len l ∧ len ≤ cap := by
  rcases slice_cells (n := 3) Try.underlying28 (by kernel_rfl) h with ⟨rfl, rfl, rfl⟩ | ⟨ad, m, rfl, hl, hm, hi⟩
  · exact ⟨[], ⟨rfl, by decide, by simp, fun h => absurd h (by decide)⟩, Nat.le_refl _⟩
  · have key : ∀ i, i < len → ∃ s : Sp, SpOk s ∧ ∀ j, j < 3 → W.cell? (ad.add (i * 3 + j)) = (spA s)[j]? := fun i h1 => by
      obtain ⟨cs, y, hy, _, hc⟩ := hi i h1
      obtain ⟨s, rfl, hs⟩ := trod_rspan hy
      exact ⟨s, hs, hc⟩
    obtain ⟨f, hf⟩ := Go.Deep.choose_lt key
    refine ⟨(List.range len).map f, ⟨by simp, by unfold maxLen at hm; omega, fun s hs => ?_, fun h0 => ⟨ad, rfl, fun j hj => ?_⟩⟩, hl⟩
    · obtain ⟨i, h1, rfl⟩ := List.mem_map.1 hs
      exact (hf i (List.mem_range.1 h1)).1
    · have e : ((List.range len).map f).getD j (0, 0, 0) = f j := by
        rw [List.getD_eq_getElem?_getD, List.getElem?_map, List.getElem?_range hj]
        rfl
      rw [e]
      obtain ⟨_, hc⟩ := hf j hj
      exact ⟨hc 0 (by decide), hc 1 (by decide), hc 2 (by decide)⟩
theorem open_ops {H : Type} {enc : TypeId × Value → H} {W : World} {a : Option Addr} {len cap : Nat} {d : DataW H} {ps : List MemPlace}
    (h : DataW.Trod enc Try.prog W 0 (fun _ => true) true 40 (.slice a len cap) d ps) : ∃ l, RdO W a len l ∧ len ≤ cap := by
  rcases slice_cells (n := 23) Try.underlying40 (by kernel_rfl) h with ⟨rfl, rfl, rfl⟩ | ⟨ad, m, rfl, hl, hm, hi⟩
  · exact ⟨[], ⟨rfl, by decide, fun h => absurd h (by decide)⟩, Nat.le_refl _⟩
  · have key : ∀ i, i < len → ∃ o : OpN, ∀ j, j < 23 → W.cell? (ad.add (i * 23 + j)) = (encO o)[j]? := fun i h1 => by
      obtain ⟨cs, y, hy, _, hc⟩ := hi i h1
      obtain ⟨o, rfl, ho⟩ := trod_op hy
      exact ⟨⟨o, ho⟩, hc⟩
    obtain ⟨f, hf⟩ := Go.Deep.choose_lt key
    refine ⟨(List.range len).map f, ⟨by simp, by unfold maxLen at hm; omega, fun h0 => ⟨ad, rfl, fun t u hu => ?_⟩⟩, hl⟩
    have ht : t < len * 23 := by
      have := (List.getElem?_eq_some_iff.1 hu).1
      rw [flatL_length] at this
      simpa using this
    have h1 := flatL_get ((List.range len).map f) (t / 23) (t % 23) (f (t / 23)) (by rw [List.getElem?_map, List.getElem?_range (by omega)]; rfl) (by omega)
    rw [show t / 23 * 23 + t % 23 = t by omega] at h1
    have h2 := hf (t / 23) (by omega) (t % 23) (by omega)
    rw [show t / 23 * 23 + t % 23 = t by omega] at h2
    rw [h2, ← h1]
    exact hu
end Go.Proofs.Ytkhjmegjnglkgaa.Opn
