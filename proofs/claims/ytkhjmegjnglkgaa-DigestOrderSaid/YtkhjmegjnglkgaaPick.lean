/-
  digest.Pick where nothing is had and there are fewer than twenty.
-/
import Derived.Test.YtkhjmegjnglkgaaIndexF
namespace Go.Proofs.Ytkhjmegjnglkgaa.Vc
open Go.RowKit Go.Proofs.Ytkhjmegjnglkgaa.Wd Go.Sort Go.Proofs
set_option linter.unusedVariables false

theorem size_inner (lt : OpN → OpN → Bool) (a : Nat) : ∀ (j : Nat) (d : Array OpN), (insInner lt a j d).size = d.size
  | 0, d => rfl
  | j + 1, d => by
    unfold insInner
    split
    · rw [size_inner lt a j]
      simp [swp]
    · rfl
theorem size_outer (lt : OpN → OpN → Bool) (a b : Nat) : ∀ (m i : Nat) (d : Array OpN), b - i ≤ m → (insOuter lt a b i d).size = d.size
  | 0, i, d, h => by
    unfold insOuter
    rw [if_neg (by omega)]
  | m + 1, i, d, h => by
    unfold insOuter
    split
    · rw [size_outer lt a b m (i + 1) _ (by omega), size_inner]
    · rfl
theorem size_ins (lt : OpN → OpN → Bool) (d : Array OpN) (a b : Nat) : (Sort.insertionSort lt d a b).size = d.size := size_outer lt a b _ _ d (Nat.le_refl _)
theorem grown_sort (w : World) (blk m : Nat) (d : Array OpN) (os : Array Obj) : w.grownBy (sortWorldK encO 23 w blk 0 m d os) (some blk) := by
  unfold sortWorldK putRowK putRow mapBlock grow Go.Sort.ahead
  refine ⟨rfl, rfl, rfl, by simp, fun k hk hne => ?_⟩
  have hne' : k ≠ blk := fun e => hne (by rw [e])
  show ((w.heap.modify blk _) ++ os)[k]? = w.heap[k]?
  rw [Array.getElem?_append_left (by simpa using hk), Array.getElem?_modify, if_neg (Ne.symm hne')]
theorem flatK_get (l : List OpN) (t : Nat) : (flatK encO 23 l.toArray)[t]? = (flatL l)[t]? := by
  by_cases ht : t < l.length * 23
  · have hj : t / 23 < l.length := by omega
    have h1 := flatL_get l (t / 23) (t % 23) _ (List.getElem?_eq_getElem hj) (by omega)
    rw [show t / 23 * 23 + t % 23 = t by omega] at h1
    rw [h1]
    have hs : t < (flatK encO 23 l.toArray).size := by simpa using ht
    have h2 := get_flatK encO 23 l.toArray t (by simpa using ht)
    rw [getElem!_pos _ t hs] at h2
    rw [Array.getElem?_eq_getElem hs, h2]
    have h3 : l.toArray[t / 23]! = l[t / 23] := by rw [getElem!_pos _ _ (by simpa using hj)]; simp
    rw [h3, List.getElem?_eq_getElem (by rw [encO_length]; omega), getElem!_pos _ _ (by rw [encO_length]; omega)]
  · rw [Array.getElem?_eq_none (by simpa using ht), List.getElem?_eq_none (by rw [flatL_length]; omega)]
theorem holds_of {w : World} {g : Nat} {l : List OpN} (h : RdO w (some ⟨g, 0, none⟩) l.length l) (hf : ∀ j, w.frozen? ⟨g, j, none⟩ = false) (h0 : 0 < l.length) : HoldsK encO 23 w g 0 l.toArray := by
  intro t ht
  obtain ⟨ad, e, hc⟩ := h.cell h0
  injection e with e
  subst e
  refine ⟨?_, hf _⟩
  have hadd : (⟨g, 0, none⟩ : Addr).add t = ⟨g, 0 + t, none⟩ := by unfold Addr.add; split <;> simp_all
  rw [← hadd]
  refine hc t _ ?_
  rw [← flatK_get, getElem!_pos _ t ht, Array.getElem?_eq_getElem ht]
  rfl
theorem rd_of {w : World} {g : Nat} {d : Array OpN} (h : HoldsK encO 23 w g 0 d) (hs : d.size ≤ 9223372036854775807) : RdO w (some ⟨g, 0, none⟩) d.size d.toList := by
  refine ⟨by simp, hs, fun _ => ⟨_, rfl, fun t u hu => ?_⟩⟩
  rw [← flatK_get] at hu
  have ht : t < (flatK encO 23 d).size := by simpa using (Array.getElem?_eq_some_iff.1 hu).1
  have h1 := (h t ht).1
  have hadd : (⟨g, 0, none⟩ : Addr).add t = ⟨g, 0 + t, none⟩ := by unfold Addr.add; split <;> simp_all
  rw [hadd, h1, getElem!_pos _ t ht]
  have : (flatK encO 23 d.toList.toArray)[t]? = some (flatK encO 23 d)[t] := by simp [Array.getElem?_eq_getElem ht]
  rw [this] at hu
  exact hu
/-- The call returns some of the operations, from the first one on, in new memory. -/
def GivesP (w : World) (d : List OpN) (K : Nat) (e : Ending) (w' : World) : Prop :=
  ∃ g c, e = .returned (.slice (some ⟨g, 0, none⟩) K c) ∧ RdO w' (some ⟨g, 0, none⟩) d.length d ∧ Below w.heap.size w w'

set_option maxHeartbeats 1000000 in
set_option maxRecDepth 100000 in
theorem pick_small (l : List OpN) (n cap : Nat) (ad : Addr) (v : List Nat) (most : Nat) (w : World) (hr : RdO w (some ad) n l) (h0 : 0 < n) (hn : n < 20) (hv : IsVec v) (hm : most ≤ n) (hnone : ∀ x ∈ l, hasB v x.1.rep x.1.seq = false) :
    Calls Try.prog 18 #[.slice (some ad) n cap, .agg (vecA v), .int .i64 (most : Int)] w (GivesP w (Sort.insertionSort (ltOf cf) l.toArray 0 n).toList most) := by
  have H0 := Lib.hid ((Gr.refl w).alloc (.cells (vecA v) 24))
  have H1 := Lib.hid (VecAt.new w hv)
  have HR := Lib.hid (hr.below ((Below.refl _ _).alloc (Nat.le_refl _) (.cells (vecA v) 24)))
  have hmf : ∀ (fn : Fn) (first cap : Array Value) (w : World), (Instr.makeFunc fn first cap).run Try.prog w = .ok (.func fn first cap) w := fun _ _ _ _ => rfl
  have hls : (Sort.insertionSort (ltOf cf) l.toArray 0 n).size = n := by rw [size_ins]; simpa using hr.len
  have HLEN := Lib.hid hr.len
  have HNO := Lib.hid hnone
  have Q1 := Lib.hid (fun W (h : RdO W (some ad) n l) => cloneO_any l n cap ad W h h0 (by omega))
  clear hr hv hnone
  go_enter Try.func18, Try.ntmps18
  go_wp2_with fail
  refine (Q1.out _ HR.out).mono ?_
  generalize w.alloc (.cells (vecA v) 24) = w2 at *
  rintro e w3 ⟨v3, rfl, ho3, hb3⟩
  obtain ⟨g3, c3, hv3, hc3, hbase3, hlt3, hr3, hf3⟩ := ho3.form (by rw [HLEN.out]; exact h0)
  subst hv3
  rw [HLEN.out] at hr3 hc3
  have HB3 := Lib.hid (H0.out.below.trans (hb3.mono H0.out.below.size))
  have HR3 := Lib.hid hr3
  have HF3 := Lib.hid hf3
  have q2 := delete_none l n c3 (some ⟨g3, 0, none⟩) w.heap.size v w3 hr3 (H1.out.below hb3) HNO.out
  have Q2 := Lib.hid q2
  clear ho3 hb3 hr3 hf3 q2
  rw [HLEN.out]
  go_wp2_with fail
  refine Q2.out.mono ?_
  rintro e w4 ⟨rfl, hg4⟩
  have HB4 := Lib.hid (HB3.out.trans (hg4.below.mono HB3.out.size))
  have hlt4 : g3 < w4.heap.size := Nat.lt_of_lt_of_le hlt3 hg4.below.size
  have hH := holds_of (w := w4) (g := g3) (l := l) (by rw [HLEN.out]; exact HR3.out.below hg4.below) (fun j => (hg4.below.frozen (p := ⟨g3, j, none⟩) hlt3).trans (HF3.out j)) (by rw [HLEN.out]; exact h0)
  have q5 := sort_small g3 c3 l.toArray w4 hH hlt4 (by simp [HLEN.out]; exact hn)
  rw [show l.toArray.size = n by simp [HLEN.out]] at q5
  have hrd := fun m os => holdsK_sortWorldK_c encO 23 w4 g3 0 l.toArray (Sort.insertionSort (ltOf cf) l.toArray 0 n) m os hH hlt4 (by rw [hls]; simp [HLEN.out])
  have HH := Lib.hid hrd
  generalize Sort.insertionSort (ltOf cf) l.toArray 0 n = d' at *
  have Q5 := Lib.hid q5
  have HLS := Lib.hid hls
  clear hg4 hH q5 hrd hls
  go_wp2_with (go_at_call 29; refine Q5.out.mono ?_; rintro e w5 ⟨rfl, m, os, rfl⟩)
  go_ret
  refine ⟨g3, c3, ?_, ?_, HB4.out.grown (grown_sort w4 g3 m d' os) HB4.out.size (fun k hk => ?_)⟩
  · have e : (max 0 (min (most : Int) (n : Int))).toNat = most := by omega
    show Ending.returned (Value.slice _ (max 0 (min (most : Int) (n : Int))).toNat c3) = _
    rw [e]
  · have h := rd_of (HH.out m os) (by rw [HLS.out]; omega)
    rw [Array.length_toList]
    exact h
  · injection hk with hk
    have := H0.out.below.size
    omega
end Go.Proofs.Ytkhjmegjnglkgaa.Vc
