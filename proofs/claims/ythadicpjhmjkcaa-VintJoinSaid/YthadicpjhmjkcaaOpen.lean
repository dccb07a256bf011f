/-
  How the arguments of this seat's laws are opened: a slice of bytes as a list of numbers; the table that the row lists.
-/
import Derived.Test.YthadicpjhmjkcaaWords
import Derived.ProofKit
import Derived.OpenShut
namespace Go.Proofs.Ythadicpjhmjkcaa.Opn
open Go.ChangeShapes Go.WideShapes Go.ChangeAt Go.RowKit Go.Proofs.Ythadicpjhmjkcaa.Wd

theorem rdB_of {w : World} {x : Addr} {len cap : Nat} {zs : List Int} (hl : len ≤ cap) (hm : cap ≤ maxLen) (hz : zs.length = cap)
    (hc : ∀ i, i < zs.length → w.cell? (x.add i) = some (.int .u8 (zs.getD i 0))) (hw : ∀ n ∈ zs, (Lit.int .u8 n).wf = true) : RdB w (some x) len ((zs.take len).map Int.toNat) := by
  refine ⟨by simp; omega, by unfold maxLen at hm; omega, ?_, fun _ => ⟨x, rfl, fun j hj => ?_⟩⟩
  · intro y hy
    obtain ⟨n, hn, rfl⟩ := List.mem_map.1 hy
    have := bounds_u8 (hw n (List.mem_of_mem_take hn))
    omega
  · have hjz : j < zs.length := by omega
    rw [hc j hjz]
    have hb := bounds_u8 (hw zs[j] (List.getElem_mem hjz))
    have h1 : zs.getD j 0 = zs[j] := by rw [List.getD_eq_getElem?_getD, List.getElem?_eq_getElem hjz]; rfl
    have h2 : ((zs.take len).map Int.toNat).getD j 0 = zs[j].toNat := by
      rw [List.getD_eq_getElem?_getD, List.getElem?_map, List.getElem?_take_of_lt hj, List.getElem?_eq_getElem hjz]; rfl
    rw [h1, h2, Int.toNat_of_nonneg hb.1]
theorem open_bytes {H : Type} {enc : TypeId × Value → H} {W : World} {a : Option Addr} {len cap : Nat} {d : DataW H} {ps : List MemPlace}
    (h : DataW.Trod enc Try.prog W 0 (fun _ => true) true 24 (.slice a len cap) d ps) : ∃ xs, RdB W a len xs ∧ len ≤ cap := by
  obtain ⟨fuel, hf⟩ := h
  rcases open_ints Try.underlying24 Try.underlying5 (by kernel_rfl) hf with ⟨hcs, _⟩ | ⟨x, l, c, zs, hcs, _, hl, hm, hz, _, hcell, hwz⟩
  · simp [Value.cells] at hcs
    obtain ⟨rfl, rfl, rfl⟩ := hcs
    exact ⟨[], RdB.nil_ _, Nat.le_refl _⟩
  · simp [Value.cells] at hcs
    obtain ⟨rfl, rfl, rfl⟩ := hcs
    exact ⟨_, rdB_of hl hm (by simpa using hz) hcell hwz, hl⟩
theorem rdN_of {kd : IntKind} {top : Nat} (hk : ∀ n : Int, (Lit.int kd n).wf = true → 0 ≤ n ∧ n ≤ (top : Int)) {w : World} {x : Addr} {len cap : Nat} {zs : List Int} (hl : len ≤ cap) (hm : cap ≤ maxLen) (hz : zs.length = cap)
    (hc : ∀ i, i < zs.length → w.cell? (x.add i) = some (.int kd (zs.getD i 0))) (hw : ∀ n ∈ zs, (Lit.int kd n).wf = true) : RdN kd top w (some x) len ((zs.take len).map Int.toNat) := by
  refine ⟨by simp; omega, by unfold maxLen at hm; omega, ?_, fun _ => ⟨x, rfl, fun j hj => ?_⟩⟩
  · intro y hy
    obtain ⟨n, hn, rfl⟩ := List.mem_map.1 hy
    have := hk n (hw n (List.mem_of_mem_take hn))
    omega
  · have hjz : j < zs.length := by omega
    rw [hc j hjz]
    have hb := hk zs[j] (hw zs[j] (List.getElem_mem hjz))
    have h1 : zs.getD j 0 = zs[j] := by rw [List.getD_eq_getElem?_getD, List.getElem?_eq_getElem hjz]; rfl
    have h2 : ((zs.take len).map Int.toNat).getD j 0 = zs[j].toNat := by
      rw [List.getD_eq_getElem?_getD, List.getElem?_map, List.getElem?_take_of_lt hj, List.getElem?_eq_getElem hjz]; rfl
    rw [h1, h2, Int.toNat_of_nonneg hb.1]
theorem open_u64s {H : Type} {enc : TypeId × Value → H} {W : World} {a : Option Addr} {len cap : Nat} {d : DataW H} {ps : List MemPlace}
    (h : DataW.Trod enc Try.prog W 0 (fun _ => true) true 39 (.slice a len cap) d ps) : ∃ xs, RdN .u64 18446744073709551615 W a len xs ∧ len ≤ cap := by
  obtain ⟨fuel, hf⟩ := h
  rcases open_ints Try.underlying39 Try.underlying22 (by kernel_rfl) hf with ⟨hcs, _⟩ | ⟨x, l, c, zs, hcs, _, hl, hm, hz, _, hcell, hwz⟩
  · simp [Value.cells] at hcs
    obtain ⟨rfl, rfl, rfl⟩ := hcs
    exact ⟨[], RdN.nil_ _ _ _, Nat.le_refl _⟩
  · simp [Value.cells] at hcs
    obtain ⟨rfl, rfl, rfl⟩ := hcs
    exact ⟨_, rdN_of (fun n h => by have := bounds_u64 h; omega) hl hm (by simpa using hz) hcell hwz, hl⟩
end Go.Proofs.Ythadicpjhmjkcaa.Opn
