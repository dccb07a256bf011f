/-
  DigestAll's plain law: what is had, or missing, is what the join has.
-/
import Derived.Test.YtkhjmegjnglkgaaJoin
import Derived.Test.YtkhjmegjnglkgaaHas
import Derived.Test.YtkhjmegjnglkgaaSize
namespace Go.Proofs.Ytkhjmegjnglkgaa.Vc
open Go.RowKit Go.Proofs.Ytkhjmegjnglkgaa.Wd
set_option linter.unusedVariables false

/-- Is an operation among a span? -/
def spHas (r s : Nat) (p : Sp) : Bool := dotB r s && decide (p.1 = r) && decide (p.2.1 ≤ s) && decide (s ≤ p.2.2)
def gotB (a : List Nat) (r s : Nat) (l : List Sp) : Bool := hasB a r s || l.any (spHas r s)
theorem gotB_snoc {a : List Nat} {r s : Nat} {l : List Sp} {k : Nat} (h : k < l.length) : gotB a r s (l.take (k + 1)) = (gotB a r s (l.take k) || spHas r s (l.getD k (0, 0, 0))) := by
  unfold gotB
  rw [takeS_snoc h, List.any_append]
  simp [Bool.or_assoc]
theorem need_mem {a b : List Nat} {p : Sp} : p ∈ needTo a b 16 ↔ p.1 < 16 ∧ a.getD p.1 0 < b.getD p.1 0 ∧ p.2.1 = a.getD p.1 0 + 1 ∧ p.2.2 = b.getD p.1 0 := by
  unfold needTo
  rw [List.mem_filterMap]
  constructor
  · rintro ⟨i, hi, h⟩
    have hi2 := List.mem_range.1 hi
    split at h
    · injection h with h
      subst h
      exact ⟨hi2, by assumption, rfl, rfl⟩
    · cases h
  · rintro ⟨h1, h2, h3, h4⟩
    refine ⟨p.1, List.mem_range.2 h1, ?_⟩
    rw [if_pos h2, ← h3, ← h4]
theorem need_self (a : List Nat) : needTo a a 16 = [] := by
  rw [List.eq_nil_iff_forall_not_mem]
  intro p hp
  have := (need_mem.1 hp).2.1
  omega
theorem all_law (a b : List Nat) (r s : Nat) : gotB a r s (needTo a b 16) = hasB (joinTo a b 16) r s := by
  rw [Bool.eq_iff_iff]
  unfold gotB hasB
  simp only [Bool.or_eq_true, decide_eq_true_eq, List.any_eq_true]
  constructor
  · rintro (⟨hd, h⟩ | ⟨p, hp, hs⟩)
    · refine ⟨hd, ?_⟩
      rw [joinTo_get hd.1, if_pos hd.1]
      omega
    · simp only [spHas, dotB, Bool.and_eq_true, decide_eq_true_eq] at hs
      obtain ⟨⟨⟨hd, rfl⟩, h1⟩, h2⟩ := hs
      obtain ⟨_, _, h3, h4⟩ := need_mem.1 hp
      refine ⟨hd, ?_⟩
      rw [joinTo_get hd.1, if_pos hd.1]
      omega
  · rintro ⟨hd, h⟩
    rw [joinTo_get hd.1, if_pos hd.1] at h
    by_cases hc : s ≤ a.getD r 0
    · exact .inl ⟨hd, hc⟩
    · refine .inr ⟨(r, a.getD r 0 + 1, b.getD r 0), need_mem.2 ⟨hd.1, ?_, rfl, rfl⟩, ?_⟩
      · show a.getD r 0 < b.getD r 0
        omega
      · simp only [spHas, dotB, Bool.and_eq_true, decide_eq_true_eq]
        refine ⟨⟨⟨hd, trivial⟩, ?_⟩, ?_⟩ <;> omega
theorem got_cases (a : List Nat) (r s : Nat) (l : List Sp) (k : Nat) (h : k < l.length) (q f t : Nat) (hq : l.getD k (0, 0, 0) = (q, f, t)) :
    (gotB a r s (l.take k) = true ∧ gotB a r s (l.take (k + 1)) = true) ∨
    (gotB a r s (l.take k) = false ∧ dotB r s = false ∧ gotB a r s (l.take (k + 1)) = false) ∨
    (gotB a r s (l.take k) = false ∧ dotB r s = true ∧ q ≠ r ∧ gotB a r s (l.take (k + 1)) = false) ∨
    (gotB a r s (l.take k) = false ∧ dotB r s = true ∧ q = r ∧ ¬ f ≤ s ∧ gotB a r s (l.take (k + 1)) = false) ∨
    (gotB a r s (l.take k) = false ∧ dotB r s = true ∧ q = r ∧ f ≤ s ∧ ¬ s ≤ t ∧ gotB a r s (l.take (k + 1)) = false) ∨
    (gotB a r s (l.take k) = false ∧ dotB r s = true ∧ q = r ∧ f ≤ s ∧ s ≤ t ∧ gotB a r s (l.take (k + 1)) = true) := by
  rw [gotB_snoc h, hq]
  cases h1 : gotB a r s (l.take k) <;> cases h2 : dotB r s <;> simp [spHas, h2]
  by_cases h3 : q = r <;> by_cases h4 : f ≤ s <;> by_cases h5 : s ≤ t <;> simp [h3, h4, h5] <;> omega
end Go.Proofs.Ytkhjmegjnglkgaa.Vc
