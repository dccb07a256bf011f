/-
  How an argument that is a vector is opened.
  How dots, spans, operations, and slices of these are opened.
  How the arguments of this seat's laws are opened: a slice of bytes as a list of numbers; the table that the row lists.
-/
import Derived.Test.YtgogbpkcceadbaaGreatDoorVecM
import Derived.ProofKit
import Derived.OpenShut
import Derived.Test.YtgogbpkcceadbaaGreatDoorRowsM
import Derived.Deep.Slices
import Derived.Test.YtgogbpkcceadbaaGreatDoorWords
import Derived.Test.YtgogbpkcceadbaaGreatDoorCrcM
import Derived.Lib.LaidTab
namespace Go.Proofs.YtgogbpkcceadbaaGreatDoor.Opn
open Go.ChangeShapes Go.WideShapes Go.ChangeAt Go.RowKit Go.Proofs.YtgogbpkcceadbaaGreatDoor.Wd Go.Proofs.YtgogbpkcceadbaaGreatDoor.Vc

set_option maxRecDepth 100000 in
theorem okWide_vec {P : Program} {w : World} {r : Reach} {base : Nat} {t e : TypeId} {n : Nat} {v : Value} (ht : P.underlying t = some (.array n e)) (h : Value.okWide P w r base t v) : ∃ cs, v = .agg cs ∧ cs.size = P.cellsOf t := by
  simp only [Value.okWide, ht] at h
  obtain ⟨cs, h1, h2, _⟩ := h
  exact ⟨cs, h1, h2⟩
def natOf : Value → Nat
  | .int _ n => n.toNat
  | _ => 0
set_option maxRecDepth 100000 in
theorem open_vec {H : Type} {enc : TypeId × Value → H} {W : World} {v : Value} {d : DataW H} {ps : List MemPlace} {r : Reach} {base : Nat} (hv : Value.okWide Tryz.prog W r base 32 v)
    (h : DataW.Trod enc Tryz.prog W 0 (fun _ => true) true 32 v d ps) : ∃ xs, IsVec xs ∧ v = .agg (vecA xs) := by
  obtain ⟨cs, rfl, hsz⟩ := okWide_vec Tryz.underlying32 hv
  have h16 : Tryz.prog.cellsOf 32 = 16 := by kernel_rfl
  have h1 : Tryz.prog.cellsOf 28 = 1 := by kernel_rfl
  rw [h16] at hsz
  obtain ⟨fuel, hf⟩ := h
  obtain ⟨ys, m, _, _, _, hlen, hi⟩ := DataW.trod_array Tryz.underlying32 hf
  have key : ∀ i, i < 16 → ∃ n : Nat, cs[i]? = some (.int .u32 (n : Int)) ∧ n ≤ 4294967295 := by
    intro i hi16
    have h2 := hi i hi16
    rw [h1, List.getElem?_eq_getElem (by omega)] at h2
    obtain ⟨n, hn, _, hw⟩ := DataW.trod_int Tryz.underlying28 h2
    have hb := bounds_u32 hw
    have hlt : i < cs.size := by omega
    have e : ((Value.agg cs).cells.toList.drop (i * 1)).take 1 = [cs[i]] := by
      show (cs.toList.drop (i * 1)).take 1 = [cs[i]]
      rw [Nat.mul_one, List.drop_eq_getElem_cons (by simpa using hlt)]
      simp
    rw [e] at hn
    injection hn with hn
    exact ⟨n.toNat, by rw [Array.getElem?_eq_getElem hlt, hn, Int.toNat_of_nonneg hb.1], by omega⟩
  refine ⟨cs.toList.map natOf, ⟨by simp [hsz], ?_⟩, ?_⟩
  · intro x hx
    obtain ⟨v, hv, rfl⟩ := List.mem_map.1 hx
    obtain ⟨i, hi2, rfl⟩ := List.getElem_of_mem hv
    have hlt : i < cs.size := by simpa using hi2
    obtain ⟨n, hn, hb⟩ := key i (by omega)
    rw [Array.getElem?_eq_getElem hlt] at hn
    injection hn with hn
    rw [Array.getElem_toList, hn]
    show (n : Int).toNat ≤ _
    omega
  · congr 1
    apply Array.ext_getElem?
    intro i
    by_cases hlt : i < cs.size
    · obtain ⟨n, hn, hb⟩ := key i (by omega)
      rw [hn, vecA_get (by simpa using hlt)]
      have e : (cs.toList.map natOf).getD i 0 = n := by
        rw [List.getD_eq_getElem?_getD, List.getElem?_map, List.getElem?_eq_getElem (by simpa using hlt)]
        rw [Array.getElem?_eq_getElem hlt] at hn
        injection hn with hn
        rw [Array.getElem_toList, hn]
        show (n : Int).toNat = n
        omega
      rw [e]
    · rw [Array.getElem?_eq_none (by omega), Array.getElem?_eq_none (by rw [vecA_size]; simp; omega)]
end Go.Proofs.YtgogbpkcceadbaaGreatDoor.Opn
namespace Go.Proofs.YtgogbpkcceadbaaGreatDoor.Opn
open Go.ChangeShapes Go.WideShapes Go.ChangeAt Go.RowKit Go.Proofs.YtgogbpkcceadbaaGreatDoor.Wd Go.Proofs.YtgogbpkcceadbaaGreatDoor.Vc
set_option linter.unusedVariables false
section
variable {H : Type} {enc : TypeId × Value → H} {w : World} {base : Nat} {spare : Nat → Bool} {held : Bool} {fuel : Nat} {cs : List Value} {x : DataW H × List MemPlace}

set_option maxRecDepth 100000 in
theorem int_at {t : TypeId} {k : IntKind} {y : Option (DataW H × List MemPlace)} {z : DataW H × List MemPlace} {o : Nat} (ht : Tryz.prog.underlying t = some (.int k)) (hc : Tryz.prog.cellsOf t = 1)
    (h : DataW.trod enc Tryz.prog w base spare held fuel t ((cs.drop o).take (Tryz.prog.cellsOf t)) = y) (hy : y = some z) (ho : o < cs.length) : ∃ n, cs[o]? = some (.int k n) ∧ (Lit.int k n).wf = true := by
  subst hy
  rw [hc, List.drop_eq_getElem_cons ho] at h
  obtain ⟨n, hn, _, hw⟩ := DataW.trod_int ht h
  refine ⟨n, ?_, hw⟩
  rw [List.getElem?_eq_getElem ho]
  rw [List.take_succ_cons, List.take_zero] at hn
  injection hn with hn
  rw [hn]
set_option maxRecDepth 100000 in
theorem nat_of {k : IntKind} {top : Nat} {o : Option Value} (h : ∃ n, o = some (.int k n) ∧ (Lit.int k n).wf = true) (hb : ∀ n : Int, (Lit.int k n).wf = true → 0 ≤ n ∧ n ≤ (top : Int)) : ∃ n : Nat, o = some (.int k (n : Int)) ∧ n ≤ top := by
  obtain ⟨n, hn, hw⟩ := h
  obtain ⟨h0, h1⟩ := hb n hw
  exact ⟨n.toNat, by rw [hn, Int.toNat_of_nonneg h0], by omega⟩
set_option maxRecDepth 100000 in
theorem c5 : Tryz.prog.cellsOf 5 = 1 := by kernel_rfl
set_option maxRecDepth 100000 in
theorem c22 : Tryz.prog.cellsOf 28 = 1 := by kernel_rfl
set_option maxRecDepth 100000 in
theorem c52 : Tryz.prog.cellsOf 23 = 1 := by kernel_rfl
set_option maxRecDepth 100000 in
theorem trod_dot (h : DataW.trod enc Tryz.prog w base spare held fuel 30 cs = some x) : ∃ r s : Nat, cs = [.int .u8 (r : Int), .int .u32 (s : Int)] ∧ r ≤ 255 ∧ s ≤ 4294967295 := by
  obtain ⟨xs, n, _, _, hl, hx, hi⟩ := DataW.trod_struct Tryz.underlying30 h
  rw [show Tryz.prog.cellsOf 30 = 2 by kernel_rfl] at hl
  have hx2 : xs.length = 2 := hx
  obtain ⟨r, hr, br⟩ := nat_of (top := 255) (int_at Tryz.underlying5 c5 (hi 0 _ rfl) (List.getElem?_eq_getElem (show 0 < xs.length by omega)) (show 0 < cs.length by omega)) (fun n hn => by simpa using bounds_u8 hn)
  obtain ⟨s, hs, bs⟩ := nat_of (top := 4294967295) (int_at Tryz.underlying28 c22 (hi 1 _ rfl) (List.getElem?_eq_getElem (show 1 < xs.length by omega)) (show 1 < cs.length by omega)) (fun n hn => by simpa using bounds_u32 hn)
  refine ⟨r, s, ?_, br, bs⟩
  match cs, hl with
  | [a, b], _ => simp at hr hs; rw [hr, hs]
set_option maxRecDepth 100000 in
theorem trod_vec (h : DataW.trod enc Tryz.prog w base spare held fuel 32 cs = some x) : ∃ xs : List Nat, cs = xs.map (fun x => Value.int .u32 ((x : Nat) : Int)) ∧ IsVec xs := by
  obtain ⟨ys, m, _, _, hl, hlen, hi⟩ := DataW.trod_array Tryz.underlying32 h
  rw [show Tryz.prog.cellsOf 32 = 16 by kernel_rfl] at hl
  have key : ∀ i, i < 16 → ∃ n : Nat, cs[i]? = some (.int .u32 (n : Int)) ∧ n ≤ 4294967295 := fun i h16 =>
    nat_of (top := 4294967295) (int_at Tryz.underlying28 c22 (by have := hi i h16; rw [c22, Nat.mul_one] at this; rw [c22]; exact this) (List.getElem?_eq_getElem (show i < ys.length by omega)) (show i < cs.length by omega)) (fun n hn => by simpa using bounds_u32 hn)
  refine ⟨cs.map natOf, ?_, by simp [hl], ?_⟩
  · apply List.ext_getElem?
    intro i
    by_cases hlt : i < 16
    · obtain ⟨n, hn, hb⟩ := key i hlt
      rw [hn, List.map_map, List.getElem?_map, hn]
      simp [natOf]
    · rw [List.getElem?_eq_none (by omega), List.getElem?_eq_none (by simp; omega)]
  · intro x hx
    obtain ⟨v, hv, rfl⟩ := List.mem_map.1 hx
    obtain ⟨i, hi2, rfl⟩ := List.getElem_of_mem hv
    obtain ⟨n, hn, hb⟩ := key i (by omega)
    rw [List.getElem?_eq_getElem hi2] at hn
    injection hn with hn
    rw [hn]
    show (n : Int).toNat ≤ _
    omega
set_option maxRecDepth 100000 in
theorem trod_op (h : DataW.trod enc Tryz.prog w base spare held fuel 34 cs = some x) : ∃ o : O, cs = opA o ∧ OkO o := by
  obtain ⟨xs, n, _, _, hl, hx, hi⟩ := DataW.trod_struct Tryz.underlying34 h
  rw [show Tryz.prog.cellsOf 34 = 23 by kernel_rfl] at hl
  have hx2 : xs.length = 7 := hx
  have g (i : Nat) (hi7 : i < 7) : xs[i]? = some xs[i] := List.getElem?_eq_getElem (by omega)
  have h0 := (hi 0 _ rfl).trans (g 0 (by omega))
  obtain ⟨r, s, hd, br, bs⟩ := trod_dot h0
  obtain ⟨k, hk, bk⟩ := nat_of (top := 255) (int_at Tryz.underlying5 c5 (hi 1 _ rfl) (g 1 (by omega)) (show 2 < cs.length by omega)) (fun n hn => by simpa using bounds_u8 hn)
  obtain ⟨c, hc, bc⟩ := nat_of (top := 65535) (int_at Tryz.underlying23 c52 (hi 2 _ rfl) (g 2 (by omega)) (show 3 < cs.length by omega)) (fun n hn => by simpa using bounds_u16 hn)
  obtain ⟨i, hit, bi⟩ := nat_of (top := 65535) (int_at Tryz.underlying23 c52 (hi 3 _ rfl) (g 3 (by omega)) (show 4 < cs.length by omega)) (fun n hn => by simpa using bounds_u16 hn)
  obtain ⟨q, hq, bq⟩ := nat_of (top := 65535) (int_at Tryz.underlying23 c52 (hi 4 _ rfl) (g 4 (by omega)) (show 5 < cs.length by omega)) (fun n hn => by simpa using bounds_u16 hn)
  obtain ⟨t, ht, bt⟩ := nat_of (top := 4294967295) (int_at Tryz.underlying28 c22 (hi 5 _ rfl) (g 5 (by omega)) (show 6 < cs.length by omega)) (fun n hn => by simpa using bounds_u32 hn)
  obtain ⟨v, hv, iv⟩ := trod_vec ((hi 6 _ rfl).trans (g 6 (by omega)))
  refine ⟨⟨r, s, k, c, i, q, t, v⟩, ?_, br, bs, bk, bc, bi, bq, bt, iv⟩
  have hd' : (cs.drop 0).take (Tryz.prog.cellsOf 30) = [.int .u8 (r : Int), .int .u32 (s : Int)] := hd
  have hv' : (cs.drop 7).take (Tryz.prog.cellsOf 32) = v.map (fun x => Value.int .u32 ((x : Nat) : Int)) := hv
  rw [show Tryz.prog.cellsOf 30 = 2 by kernel_rfl] at hd'
  rw [show Tryz.prog.cellsOf 32 = 16 by kernel_rfl] at hv'
  rw [List.take_of_length_le (by simp; omega)] at hv'
  clear hd hv h0 hi h
  rcases cs with _ | ⟨a0, _ | ⟨a1, _ | ⟨a2, _ | ⟨a3, _ | ⟨a4, _ | ⟨a5, _ | ⟨a6, l⟩⟩⟩⟩⟩⟩⟩
  all_goals try (simp at hl; done)
  simp at hd' hk hc hit hq ht hv'
  obtain ⟨e0, e1⟩ := hd'
  rw [e0, e1, hk, hc, hit, hq, ht, hv']
  rfl
set_option maxRecDepth 100000 in
theorem open_dot {W : World} {v : Value} {d : DataW H} {ps : List MemPlace} {r : Reach} (hv : Value.okWide Tryz.prog W r base 30 v)
    (h : DataW.Trod enc Tryz.prog W 0 (fun _ => true) true 30 v d ps) : ∃ r s : Nat, r ≤ 255 ∧ s ≤ 4294967295 ∧ v = .agg #[.int .u8 (r : Int), .int .u32 (s : Int)] := by
  obtain ⟨m, hm⟩ := h
  obtain ⟨r, s, hc, br, bs⟩ := trod_dot hm
  simp only [Value.okWide, Tryz.underlying30] at hv
  obtain ⟨cs, rfl, _, _⟩ := hv
  refine ⟨r, s, br, bs, ?_⟩
  congr 1
  exact Array.toList_inj.1 (by simpa [Value.cells] using hc)

set_option maxRecDepth 100000 in
/-- The elements of a slice, each one's cells. -/
theorem slice_cells {t e : TypeId} {n : Nat} (ht : Tryz.prog.underlying t = some (.slice e)) (hn : Tryz.prog.cellsOf e = n) {a : Option Addr} {len cap : Nat} {d : DataW H} {ps : List MemPlace} (h : DataW.Trod enc Tryz.prog w 0 spare true t (.slice a len cap) d ps) :
    (a = none ∧ len = 0 ∧ cap = 0) ∨ ∃ ad m, a = some ad ∧ len ≤ cap ∧ cap ≤ maxLen ∧ ∀ i, i < len → ∃ cs y, DataW.trod enc Tryz.prog w 0 spare true m e cs = some y ∧ cs.length = n ∧ ∀ j, j < n → w.cell? (ad.add (i * n + j)) = cs[j]? := by
  obtain ⟨fuel, hf⟩ := h
  rcases DataW.trod_slice ht hf with ⟨hcs, _⟩ | ⟨ad, l, c, elems, rest, m, _, hcs, _, _, hl, hm, hlen, hi, _⟩
  · simp [Value.cells] at hcs
    exact .inl hcs
  · simp [Value.cells] at hcs
    obtain ⟨rfl, rfl, rfl⟩ := hcs
    refine .inr ⟨ad, m, rfl, hl, hm, fun i hi2 => ?_⟩
    have h2 := hi i hi2
    rw [List.getElem?_eq_getElem (by omega), Option.bind_eq_some_iff] at h2
    obtain ⟨cs, hc, hy⟩ := h2
    rw [hn] at hc
    have h3 := World.cells?_some hc
    refine ⟨cs, _, hy, h3.2.1, fun j hj => ?_⟩
    rw [← add_of_add]
    exact h3.2.2 j hj
end
set_option maxRecDepth 100000 in
theorem open_ops {H : Type} {enc : TypeId × Value → H} {W : World} {a : Option Addr} {len cap : Nat} {d : DataW H} {ps : List MemPlace}
    (h : DataW.Trod enc Tryz.prog W 0 (fun _ => true) true 22 (.slice a len cap) d ps) : ∃ l, RdO W a len l ∧ len ≤ cap := by
  rcases slice_cells (n := 23) Tryz.underlying22 (by kernel_rfl) h with ⟨rfl, rfl, rfl⟩ | ⟨ad, m, rfl, hl, hm, hi⟩
  · exact ⟨[], ⟨rfl, by decide, fun h => absurd h (by decide)⟩, Nat.le_refl _⟩
  · have key : ∀ i, i < len → ∃ o : OpN, ∀ j, j < 23 → W.cell? (ad.add (i * 23 + j)) = (encO o)[j]? := fun i h1 => by
      obtain ⟨cs, y, hy, _, hc⟩ := hi i h1
      obtain ⟨o, rfl, ho⟩ := trod_op hy
      exact ⟨⟨o, ho⟩, hc⟩
    obtain ⟨f, hf⟩ := Go.Deep.choose_lt key
    refine ⟨(List.range len).map f, ⟨by simp, by unfold maxLen at hm; omega, fun h0 => ⟨ad, rfl, fun t u hu => ?_⟩⟩, hl⟩
    have ht : t < len * 23 := by
      have := (List.getElem?_eq_some_iff.1 hu).1
      rw [flatL_length] at this
      simpa using this
    have h1 := flatL_get ((List.range len).map f) (t / 23) (t % 23) (f (t / 23)) (by rw [List.getElem?_map, List.getElem?_range (by omega)]; rfl) (by omega)
    rw [show t / 23 * 23 + t % 23 = t by omega] at h1
    have h2 := hf (t / 23) (by omega) (t % 23) (by omega)
    rw [show t / 23 * 23 + t % 23 = t by omega] at h2
    rw [h2, ← h1]
    exact hu
end Go.Proofs.YtgogbpkcceadbaaGreatDoor.Opn
namespace Go.Proofs.YtgogbpkcceadbaaGreatDoor.Opn
open Go.ChangeShapes Go.WideShapes Go.ChangeAt Go.RowKit Go.Proofs.YtgogbpkcceadbaaGreatDoor.Wd

theorem rdB_of {w : World} {x : Addr} {len cap : Nat} {zs : List Int} (hl : len ≤ cap) (hm : cap ≤ maxLen) (hz : zs.length = cap)
    (hc : ∀ i, i < zs.length → w.cell? (x.add i) = some (.int .u8 (zs.getD i 0))) (hw : ∀ n ∈ zs, (Lit.int .u8 n).wf = true) : RdB w (some x) len ((zs.take len).map Int.toNat) := by
  refine ⟨by simp; omega, by unfold maxLen at hm; omega, ?_, fun _ => ⟨x, rfl, fun j hj => ?_⟩⟩
  · intro y hy
    obtain ⟨n, hn, rfl⟩ := List.mem_map.1 hy
    have := bounds_u8 (hw n (List.mem_of_mem_take hn))
    omega
  · have hjz : j < zs.length := by omega
    rw [hc j hjz]
    have hb := bounds_u8 (hw zs[j] (List.getElem_mem hjz))
    have h1 : zs.getD j 0 = zs[j] := by rw [List.getD_eq_getElem?_getD, List.getElem?_eq_getElem hjz]; rfl
    have h2 : ((zs.take len).map Int.toNat).getD j 0 = zs[j].toNat := by
      rw [List.getD_eq_getElem?_getD, List.getElem?_map, List.getElem?_take_of_lt hj, List.getElem?_eq_getElem hjz]; rfl
    rw [h1, h2, Int.toNat_of_nonneg hb.1]
theorem open_bytes {H : Type} {enc : TypeId × Value → H} {W : World} {a : Option Addr} {len cap : Nat} {d : DataW H} {ps : List MemPlace}
    (h : DataW.Trod enc Tryz.prog W 0 (fun _ => true) true 41 (.slice a len cap) d ps) : ∃ xs, RdB W a len xs ∧ len ≤ cap := by
  obtain ⟨fuel, hf⟩ := h
  rcases open_ints Tryz.underlying41 Tryz.underlying5 (by kernel_rfl) hf with ⟨hcs, _⟩ | ⟨x, l, c, zs, hcs, _, hl, hm, hz, _, hcell, hwz⟩
  · simp [Value.cells] at hcs
    obtain ⟨rfl, rfl, rfl⟩ := hcs
    exact ⟨[], RdB.nil_ _, Nat.le_refl _⟩
  · simp [Value.cells] at hcs
    obtain ⟨rfl, rfl, rfl⟩ := hcs
    exact ⟨_, rdB_of hl hm (by simpa using hz) hcell hwz, hl⟩
theorem rdN_of {kd : IntKind} {top : Nat} (hk : ∀ n : Int, (Lit.int kd n).wf = true → 0 ≤ n ∧ n ≤ (top : Int)) {w : World} {x : Addr} {len cap : Nat} {zs : List Int} (hl : len ≤ cap) (hm : cap ≤ maxLen) (hz : zs.length = cap)
    (hc : ∀ i, i < zs.length → w.cell? (x.add i) = some (.int kd (zs.getD i 0))) (hw : ∀ n ∈ zs, (Lit.int kd n).wf = true) : RdN kd top w (some x) len ((zs.take len).map Int.toNat) := by
  refine ⟨by simp; omega, by unfold maxLen at hm; omega, ?_, fun _ => ⟨x, rfl, fun j hj => ?_⟩⟩
  · intro y hy
    obtain ⟨n, hn, rfl⟩ := List.mem_map.1 hy
    have := hk n (hw n (List.mem_of_mem_take hn))
    omega
  · have hjz : j < zs.length := by omega
    rw [hc j hjz]
    have hb := hk zs[j] (hw zs[j] (List.getElem_mem hjz))
    have h1 : zs.getD j 0 = zs[j] := by rw [List.getD_eq_getElem?_getD, List.getElem?_eq_getElem hjz]; rfl
    have h2 : ((zs.take len).map Int.toNat).getD j 0 = zs[j].toNat := by
      rw [List.getD_eq_getElem?_getD, List.getElem?_map, List.getElem?_take_of_lt hj, List.getElem?_eq_getElem hjz]; rfl
    rw [h1, h2, Int.toNat_of_nonneg hb.1]

/-- The world in which the table lies as the program's text lays it: the witness. -/
noncomputable def laidWorld (os : Os) : World :=
  { World.holding Tryz.prog os ⟨#[], #[], []⟩ with heap := (World.holding Tryz.prog os ⟨#[], #[], []⟩).heap.modify 0 fun
      | .cells _ t frozen => .cells #[.int .u32 0, .int .u32 498536548, .int .u32 997073096, .int .u32 651767980, .int .u32 1994146192, .int .u32 1802195444, .int .u32 1303535960, .int .u32 1342533948, .int .u32 3988292384, .int .u32 4027552580, .int .u32 3604390888, .int .u32 3412177804, .int .u32 2607071920, .int .u32 2262029012, .int .u32 2685067896, .int .u32 3183342108] t frozen
      | o => o }
theorem gTab : Tryz.prog.globalNamed "trug/crc.half" = some 0 := by kernel_rfl
theorem gTabType : (Tryz.prog.globals[0]?).map (·.type) = some 31 := by kernel_rfl
theorem tab_of_laid {W : World} (h : laidMetH Tryz.prog [("trug/crc.half", Rows.laid_trug_crc_half)] W) : CrcW.Tab W := by
  have ht : Lib.TabIs Tryz.prog W "trug/crc.half" .u32 [0, 498536548, 997073096, 651767980, 1994146192, 1802195444, 1303535960, 1342533948, 3988292384, 4027552580, 3604390888, 3412177804, 2607071920, 2262029012, 2685067896, 3183342108] :=
    Lib.tabIs_of_head (rest := []) gTab gTabType Tryz.underlying31 Tryz.underlying28 (by kernel_rfl) (by kernel_rfl) h
  intro i hi
  have hc := ht.cell gTab i hi
  rw [hc]
  have : ∀ j : Fin 16, ([0, 498536548, 997073096, 651767980, 1994146192, 1802195444, 1303535960, 1342533948, 3988292384, 4027552580, 3604390888, 3412177804, 2607071920, 2262029012, 2685067896, 3183342108] : List Int).getD j.val 0 = ((CrcP.tab.getD j.val 0 : Nat) : Int) := by decide
  rw [this ⟨i, hi⟩]
end Go.Proofs.YtgogbpkcceadbaaGreatDoor.Opn
