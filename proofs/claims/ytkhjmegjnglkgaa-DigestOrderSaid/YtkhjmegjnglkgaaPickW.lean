/-
  The walk of digest.Pick.
-/
import Derived.Test.YtkhjmegjnglkgaaPickG
namespace Go.Proofs.Ytkhjmegjnglkgaa.Vc
open Go.RowKit Go.Proofs.Ytkhjmegjnglkgaa.Wd Go.Sort Go.Proofs Go.Lib Go.Proofs.Ytkhjmegjnglkgaa.Sym
set_option linter.unusedVariables false

/-- What is picked: so many of what is not had, in the stable order. -/
def picked (v : List Nat) (l : List OpN) (K : Nat) : List OpN := selN (ltOf cf) K (kept v l)
/-- How many are picked. -/
def pickK (v : List Nat) (l : List OpN) (m : Int) : Nat := min m.toNat (kept v l).length
theorem picked_length (v : List Nat) (l : List OpN) (m : Int) : (picked v l (pickK v l m)).length = pickK v l m := by
  unfold picked
  rw [selN_length]
  unfold pickK
  omega
/-- The call returns what is picked, in new memory. -/
def GivesPk (w : World) (v : List Nat) (l : List OpN) (m : Int) (e : Ending) (w' : World) : Prop :=
  ∃ A c, e = .returned (.slice A (pickK v l m) c) ∧ RdO w' A (pickK v l m) (picked v l (pickK v l m)) ∧ Below w.heap.size w w'
theorem RdO.take {w : World} {A : Option Addr} {n k : Nat} {l : List OpN} (h : RdO w A n l) (hk : k ≤ n) : RdO w A k (l.take k) := by
  refine ⟨by rw [List.length_take, h.len]; omega, by have := h.fits; omega, fun h0 => ?_⟩
  obtain ⟨ad, e, hc⟩ := h.cell (by omega)
  refine ⟨ad, e, fun t u hu => hc t u ?_⟩
  have ht : t < k * 23 := by
    have := (List.getElem?_eq_some_iff.1 hu).1
    rw [flatL_length, List.length_take, h.len] at this
    omega
  have hl : flatL l = flatL (l.take k) ++ flatL (l.drop k) := by rw [show flatL (l.take k) ++ flatL (l.drop k) = flatL (l.take k ++ l.drop k) by simp only [flatL, List.flatMap_append], List.take_append_drop]
  rw [hl, List.getElem?_append_left (by rw [flatL_length, List.length_take, h.len]; omega)]
  exact hu

set_option maxHeartbeats 2000000 in
set_option maxRecDepth 100000 in
theorem pick_any (l : List OpN) (n cap : Nat) (A : Option Addr) (v : List Nat) (m : Int) (hm0 : -9223372036854775808 ≤ m) (hm1 : m ≤ 9223372036854775807) (w : World) (hr : RdO w A n l) (hn : n ≤ 60) (hv : IsVec v) :
    Calls Try.prog 18 #[.slice A n cap, .agg (vecA v), .int .i64 m] w (GivesPk w v l m) := by
  have H0 := Lib.hid ((Gr.refl w).alloc (.cells (vecA v) 24))
  have H1 := Lib.hid (VecAt.new w hv)
  have HR := Lib.hid (hr.below ((Below.refl _ _).alloc (Nat.le_refl _) (.cells (vecA v) 24)))
  have hmf : ∀ (fn : Fn) (first cap : Array Value) (w : World), (Instr.makeFunc fn first cap).run Try.prog w = .ok (.func fn first cap) w := fun _ _ _ _ => rfl
  have HLEN := Lib.hid hr.len
  obtain ⟨K, hK⟩ : ∃ K, K = pickK v l m := ⟨_, rfl⟩
  have HKK := Lib.hid hK
  have hgz : w.heap.size < (w.alloc (.cells (vecA v) 24)).heap.size := by simp
  by_cases h0 : 0 < n
  · obtain ⟨ad, hA, _⟩ := hr.cell h0
    subst hA
    have Q1 := Lib.hid (fun W (h : RdO W (some ad) n l) => cloneO_any l n cap ad W h h0 (by omega))
    clear hr hv hK
    go_enter Try.func18, Try.ntmps18
    go_wp2_with fail
    refine (Q1.out _ HR.out).mono ?_
    generalize w.alloc (.cells (vecA v) 24) = w2 at *
    rintro e w3 ⟨v3, rfl, ho3, hb3⟩
    obtain ⟨g3, c3, hv3, hc3, hbase3, hlt3, hr3, hf3⟩ := ho3.form (by rw [HLEN.out]; exact h0)
    subst hv3
    rw [HLEN.out] at hr3 hc3
    have HB3 := Lib.hid (H0.out.below.trans (hb3.mono H0.out.below.size))
    have hH := holds_of (w := w3) (g := g3) (l := l) (by rw [HLEN.out]; exact hr3) hf3 (by rw [HLEN.out]; exact h0)
    have q2 := delete_any v l n c3 g3 w.heap.size w3 hH hlt3 (H1.out.below hb3) (by omega) HLEN.out (by omega) hc3
    have hkl : (kept v l).length ≤ n := by rw [← HLEN.out]; exact List.length_filter_le _ _
    have hKm : K = min m.toNat (kept v l).length := HKK.out
    obtain ⟨L, hL⟩ : ∃ L, L = kept v l := ⟨_, rfl⟩
    rw [← hL] at q2 hkl hKm
    obtain ⟨N, hN⟩ : ∃ N, N = L.length := ⟨_, rfl⟩
    have Q2 := Lib.hid q2
    have HL := Lib.hid hL
    have HN := Lib.hid hN
    have hN60 : N ≤ 60 := by omega
    have hNc : N ≤ c3 := by omega
    have eK : max 0 (min m (N : Int)) = (K : Int) := by omega
    have hKN : K ≤ N := by omega
    have HG3 := Lib.hid hbase3
    clear ho3 hb3 hr3 hf3 q2 hH hL hKm hkl hN
    rw [HLEN.out]
    go_wp2_with fail
    refine Q2.out.mono ?_
    rintro e w4 ⟨rfl, hH4, hg4, hz4⟩
    rw [← HN.out]
    have hlt4 : g3 < w4.heap.size := by omega
    have q5 := sortS_any g3 c3 N (by omega) L.toArray w4 hH4 hlt4 (by simp [HN.out])
    have Q5 := Lib.hid q5
    have HH4 := Lib.hid hH4
    have HG4 := Lib.hid hg4
    clear hH4 hg4 q5
    go_wp2_with (go_at_call 29; ((with_reducible refine Q5.out.mono ?_)); rintro e w5 ⟨rfl, d, hM, hS, hSW⟩)
    have i0 : (0 : Int) ≤ (K : Int) := by omega
    have i1 : (K : Int) ≤ (c3 : Int) := by omega
    have HM := Lib.hid hM
    have HS := Lib.hid hS
    have HSW := Lib.hid hSW
    clear hM hS hSW
    go_wp2_with fail
    go_ret
    have hds : d.size = N := HM.out.size.trans (by simp [HN.out])
    have hrd := rd_of (HSW.out.holds (by exact hlt4) HH4.out HM.out.size) (by rw [hds]; omega)
    rw [hds] at hrd
    have hsel : d.toList = selN (ltOf cf) N L := sel_uniq swoO N L d.toList (by rw [HN.out]; exact Nat.le_refl _) (sorted_pairwise HS.out hds) (fun x => by have := HM.out.stab x; simpa using this)
    have hpk : picked v l (pickK v l m) = d.toList.take K := by
      unfold picked
      rw [← HKK.out, ← HL.out, hsel, selN_take K N L hKN]
    refine ⟨_, c3, ?_, by rw [hpk, ← HKK.out]; exact hrd.take hKN, ?_⟩
    · rw [← HKK.out]
      rfl
    · have hg5 := grownBy_trans HG4.out (grown_swk HSW.out)
      refine HB3.out.grown hg5 HB3.out.size (fun k hk => ?_)
      injection hk with hk
      have := HG3.out
      have := H0.out.below.size
      omega
  · have hn0 : n = 0 := by omega
    subst hn0
    have hl0 : l = [] := List.eq_nil_of_length_eq_zero hr.len
    subst hl0
    have hk0 : K = 0 := by rw [hK]; unfold pickK kept; simp
    subst hk0
    have eK : max 0 (min m 0) = (0 : Int) := by omega
    have Q1 := Lib.hid (fun W => clone_empty A cap W)
    have Q3 := Lib.hid (fun B c W => sort_empty B c (.func (.func 30) #[] #[]) W)
    clear hr hv hK
    go_enter Try.func18, Try.ntmps18
    go_wp2_with fail
    refine (Q1.out _).mono ?_
    generalize w.alloc (.cells (vecA v) 24) = w2 at *
    rintro e w3 ⟨B, c3, rfl, hb3⟩
    have HB3 := Lib.hid (H0.out.below.trans (hb3.mono H0.out.below.size))
    have Q2 := Lib.hid (delete_none [] 0 c3 B w.heap.size v w3 ⟨rfl, by decide, fun h => absurd h (by decide)⟩ (H1.out.below hb3) (by simp))
    clear hb3
    go_wp2_with fail
    refine Q2.out.mono ?_
    rintro e w4 ⟨rfl, hg4⟩
    have HB4 := Lib.hid (HB3.out.trans (hg4.below.mono HB3.out.size))
    clear hg4
    go_wp2_with fail
    refine (Q3.out _ _ _).mono ?_
    rintro e w5 ⟨rfl, rfl⟩
    go_wp2_with fail
    have hp0 : pickK v [] m = 0 := HKK.out.symm
    cases B with
    | none =>
      go_wp2_with fail
      all_goals go_ret
      all_goals exact ⟨none, _, by rw [hp0]; rfl, ⟨by rw [picked_length], by rw [hp0]; decide, fun h => by rw [hp0] at h; exact absurd h (by decide)⟩, HB4.out⟩
    | some ad =>
      go_wp2_with fail
      all_goals go_ret
      all_goals exact ⟨_, _, by rw [hp0]; rfl, ⟨by rw [picked_length], by rw [hp0]; decide, fun h => by rw [hp0] at h; exact absurd h (by decide)⟩, HB4.out⟩
end Go.Proofs.Ytkhjmegjnglkgaa.Vc
