/-
  How an argument that is a vector is opened.
-/
import Derived.Test.YtkhjmegjnglkgaaVec
import Derived.ProofKit
import Derived.OpenShut
namespace Go.Proofs.Ytkhjmegjnglkgaa.Opn
open Go.ChangeShapes Go.WideShapes Go.ChangeAt Go.RowKit Go.Proofs.Ytkhjmegjnglkgaa.Wd Go.Proofs.Ytkhjmegjnglkgaa.Vc

theorem okWide_vec {P : Program} {w : World} {r : Reach} {base : Nat} {t e : TypeId} {n : Nat} {v : Value} (ht : P.underlying t = some (.array n e)) (h : Value.okWide P w r base t v) : ∃ cs, v = .agg cs ∧ cs.size = P.cellsOf t := by
  simp only [Value.okWide, ht] at h
  obtain ⟨cs, h1, h2, _⟩ := h
  exact ⟨cs, h1, h2⟩
def natOf : Value → Nat
  | .int _ n => n.toNat
  | _ => 0
theorem open_vec {H : Type} {enc : TypeId × Value → H} {W : World} {v : Value} {d : DataW H} {ps : List MemPlace} {r : Reach} {base : Nat} (hv : Value.okWide Try.prog W r base 24 v)
    (h : DataW.Trod enc Try.prog W 0 (fun _ => true) true 24 v d ps) : ∃ xs, IsVec xs ∧ v = .agg (vecA xs) := by
  obtain ⟨cs, rfl, hsz⟩ := okWide_vec Try.underlying24 hv
  have h16 : Try.prog.cellsOf 24 = 16 := by kernel_rfl
  have h1 : Try.prog.cellsOf 22 = 1 := by kernel_rfl
  rw [h16] at hsz
  obtain ⟨fuel, hf⟩ := h
  obtain ⟨ys, m, _, _, _, hlen, hi⟩ := DataW.trod_array Try.underlying24 hf
  have key : ∀ i, i < 16 → ∃ n : Nat, cs[i]? = some (.int .u32 (n : Int)) ∧ n ≤ 4294967295 := by
    intro i hi16
    have h2 := hi i hi16
    rw [h1, List.getElem?_eq_getElem (by omega)] at h2
    obtain ⟨n, hn, _, hw⟩ := DataW.trod_int Try.underlying22 h2
    have hb := bounds_u32 hw
    have hlt : i < cs.size := by omega
    have e : ((Value.agg cs).cells.toList.drop (i * 1)).take 1 = [cs[i]] := by
      show (cs.toList.drop (i * 1)).take 1 = [cs[i]]
      rw [Nat.mul_one, List.drop_eq_getElem_cons (by simpa using hlt)]
      simp
    rw [e] at hn
    injection hn with hn
    exact ⟨n.toNat, by rw [Array.getElem?_eq_getElem hlt, hn, Int.toNat_of_nonneg hb.1], by omega⟩
  refine ⟨cs.toList.map natOf, ⟨by simp [hsz], ?_⟩, ?_⟩
  · intro x hx
    obtain ⟨v, hv, rfl⟩ := List.mem_map.1 hx
    obtain ⟨i, hi2, rfl⟩ := List.getElem_of_mem hv
    have hlt : i < cs.size := by simpa using hi2
    obtain ⟨n, hn, hb⟩ := key i (by omega)
    rw [Array.getElem?_eq_getElem hlt] at hn
    injection hn with hn
    rw [Array.getElem_toList, hn]
    show (n : Int).toNat ≤ _
    omega
  · congr 1
    apply Array.ext_getElem?
    intro i
    by_cases hlt : i < cs.size
    · obtain ⟨n, hn, hb⟩ := key i (by omega)
      rw [hn, vecA_get (by simpa using hlt)]
      have e : (cs.toList.map natOf).getD i 0 = n := by
        rw [List.getD_eq_getElem?_getD, List.getElem?_map, List.getElem?_eq_getElem (by simpa using hlt)]
        rw [Array.getElem?_eq_getElem hlt] at hn
        injection hn with hn
        rw [Array.getElem_toList, hn]
        show (n : Int).toNat = n
        omega
      rw [e]
    · rw [Array.getElem?_eq_none (by omega), Array.getElem?_eq_none (by rw [vecA_size]; simp; omega)]
end Go.Proofs.Ytkhjmegjnglkgaa.Opn
