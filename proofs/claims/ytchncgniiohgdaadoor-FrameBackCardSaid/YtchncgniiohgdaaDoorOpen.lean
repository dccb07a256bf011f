/-
  How the arguments of this seat's laws are opened: a slice of bytes as a list of numbers; the table that the row lists.
-/
import Derived.Test.YtchncgniiohgdaaDoorWords
import Derived.Test.YtchncgniiohgdaaDoorCrcWalk
import Derived.Lib.LaidTab
import Derived.ProofKit
import Derived.OpenShut
namespace Go.Proofs.YtchncgniiohgdaaDoor.Opn
open Go.ChangeShapes Go.WideShapes Go.ChangeAt Go.RowKit Go.Proofs.YtchncgniiohgdaaDoor.Wd

theorem rdB_of {w : World} {x : Addr} {len cap : Nat} {zs : List Int} (hl : len ≤ cap) (hm : cap ≤ maxLen) (hz : zs.length = cap)
    (hc : ∀ i, i < zs.length → w.cell? (x.add i) = some (.int .u8 (zs.getD i 0))) (hw : ∀ n ∈ zs, (Lit.int .u8 n).wf = true) : RdB w (some x) len ((zs.take len).map Int.toNat) := by
  refine ⟨by simp; omega, by unfold maxLen at hm; omega, ?_, fun _ => ⟨x, rfl, fun j hj => ?_⟩⟩
  · intro y hy
    obtain ⟨n, hn, rfl⟩ := List.mem_map.1 hy
    have := bounds_u8 (hw n (List.mem_of_mem_take hn))
    omega
  · have hjz : j < zs.length := by omega
    rw [hc j hjz]
    have hb := bounds_u8 (hw zs[j] (List.getElem_mem hjz))
    have h1 : zs.getD j 0 = zs[j] := by rw [List.getD_eq_getElem?_getD, List.getElem?_eq_getElem hjz]; rfl
    have h2 : ((zs.take len).map Int.toNat).getD j 0 = zs[j].toNat := by
      rw [List.getD_eq_getElem?_getD, List.getElem?_map, List.getElem?_take_of_lt hj, List.getElem?_eq_getElem hjz]; rfl
    rw [h1, h2, Int.toNat_of_nonneg hb.1]
theorem open_bytes {H : Type} {enc : TypeId × Value → H} {W : World} {a : Option Addr} {len cap : Nat} {d : DataW H} {ps : List MemPlace}
    (h : DataW.Trod enc Tryd.prog W 0 (fun _ => true) true 22 (.slice a len cap) d ps) : ∃ xs, RdB W a len xs ∧ len ≤ cap := by
  obtain ⟨fuel, hf⟩ := h
  rcases open_ints Tryd.underlying22 Tryd.underlying5 (by kernel_rfl) hf with ⟨hcs, _⟩ | ⟨x, l, c, zs, hcs, _, hl, hm, hz, _, hcell, hwz⟩
  · simp [Value.cells] at hcs
    obtain ⟨rfl, rfl, rfl⟩ := hcs
    exact ⟨[], RdB.nil_ _, Nat.le_refl _⟩
  · simp [Value.cells] at hcs
    obtain ⟨rfl, rfl, rfl⟩ := hcs
    exact ⟨_, rdB_of hl hm (by simpa using hz) hcell hwz, hl⟩
theorem rdN_of {kd : IntKind} {top : Nat} (hk : ∀ n : Int, (Lit.int kd n).wf = true → 0 ≤ n ∧ n ≤ (top : Int)) {w : World} {x : Addr} {len cap : Nat} {zs : List Int} (hl : len ≤ cap) (hm : cap ≤ maxLen) (hz : zs.length = cap)
    (hc : ∀ i, i < zs.length → w.cell? (x.add i) = some (.int kd (zs.getD i 0))) (hw : ∀ n ∈ zs, (Lit.int kd n).wf = true) : RdN kd top w (some x) len ((zs.take len).map Int.toNat) := by
  refine ⟨by simp; omega, by unfold maxLen at hm; omega, ?_, fun _ => ⟨x, rfl, fun j hj => ?_⟩⟩
  · intro y hy
    obtain ⟨n, hn, rfl⟩ := List.mem_map.1 hy
    have := hk n (hw n (List.mem_of_mem_take hn))
    omega
  · have hjz : j < zs.length := by omega
    rw [hc j hjz]
    have hb := hk zs[j] (hw zs[j] (List.getElem_mem hjz))
    have h1 : zs.getD j 0 = zs[j] := by rw [List.getD_eq_getElem?_getD, List.getElem?_eq_getElem hjz]; rfl
    have h2 : ((zs.take len).map Int.toNat).getD j 0 = zs[j].toNat := by
      rw [List.getD_eq_getElem?_getD, List.getElem?_map, List.getElem?_take_of_lt hj, List.getElem?_eq_getElem hjz]; rfl
    rw [h1, h2, Int.toNat_of_nonneg hb.1]

/-- The world in which the table lies as the program's text lays it: the witness. -/
noncomputable def laidWorld (os : Os) : World :=
  { World.holding Tryd.prog os ⟨#[], #[], []⟩ with heap := (World.holding Tryd.prog os ⟨#[], #[], []⟩).heap.modify 0 fun
      | .cells _ t frozen => .cells #[.int .u32 0, .int .u32 498536548, .int .u32 997073096, .int .u32 651767980, .int .u32 1994146192, .int .u32 1802195444, .int .u32 1303535960, .int .u32 1342533948, .int .u32 3988292384, .int .u32 4027552580, .int .u32 3604390888, .int .u32 3412177804, .int .u32 2607071920, .int .u32 2262029012, .int .u32 2685067896, .int .u32 3183342108] t frozen
      | o => o }
theorem gTab : Tryd.prog.globalNamed "trug/crc.half" = some 0 := by kernel_rfl
theorem gTabType : (Tryd.prog.globals[0]?).map (·.type) = some 57 := by kernel_rfl
theorem tab_of_laid {W : World} (h : laidMetH Tryd.prog [("trug/crc.half", Rows.laid_trug_crc_half)] W) : CrcW.Tab W := by
  have ht : Lib.TabIs Tryd.prog W "trug/crc.half" .u32 [0, 498536548, 997073096, 651767980, 1994146192, 1802195444, 1303535960, 1342533948, 3988292384, 4027552580, 3604390888, 3412177804, 2607071920, 2262029012, 2685067896, 3183342108] :=
    Lib.tabIs_of_head (rest := []) gTab gTabType Tryd.underlying57 Tryd.underlying47 (by kernel_rfl) (by kernel_rfl) h
  intro i hi
  have hc := ht.cell gTab i hi
  rw [hc]
  have : ∀ j : Fin 16, ([0, 498536548, 997073096, 651767980, 1994146192, 1802195444, 1303535960, 1342533948, 3988292384, 4027552580, 3604390888, 3412177804, 2607071920, 2262029012, 2685067896, 3183342108] : List Int).getD j.val 0 = ((CrcP.tab.getD j.val 0 : Nat) : Int) := by decide
  rw [this ⟨i, hi⟩]
end Go.Proofs.YtchncgniiohgdaaDoor.Opn
