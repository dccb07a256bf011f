/-
  Plain laws of the merge in place.
-/
import Derived.Test.YtkhjmegjnglkgaaSymP
namespace Go.Proofs.Ytkhjmegjnglkgaa.Sym
open Go.Sort
set_option linter.unusedVariables false
variable {α : Type} [Inhabited α] {lt : α → α → Bool}

omit [Inhabited α] in
theorem asym (hS : SWO lt) {x y : α} (h : lt x y = true) : lt y x = false := by
  cases h2 : lt y x with
  | false => rfl
  | true =>
    have := hS.trans _ _ _ h h2
    rw [hS.irrefl] at this
    cases this
omit [Inhabited α] in
/-- x ≤ y < z. -/
theorem le_lt (hS : SWO lt) {x y z : α} (h1 : lt y x = false) (h2 : lt y z = true) : lt x z = true := by
  cases h : lt x z with
  | true => rfl
  | false => rw [hS.ntrans _ _ _ h1 h] at h2; cases h2
omit [Inhabited α] in
/-- x < y ≤ z. -/
theorem lt_le (hS : SWO lt) {x y z : α} (h1 : lt x y = true) (h2 : lt z y = false) : lt x z = true := by
  cases h : lt x z with
  | true => rfl
  | false => rw [hS.ntrans _ _ _ h h2] at h1; cases h1

theorem SortedIn.sub {a b a' b' : Nat} {d : Array α} (h : SortedIn lt a b d) (ha : a ≤ a') (hb : b' ≤ b) : SortedIn lt a' b' d := fun i j h1 h2 h3 => h i j (by omega) h2 (by omega)
theorem SortedIn.le (hS : SWO lt) {a b : Nat} {d : Array α} (h : SortedIn lt a b d) {i j : Nat} (h1 : a ≤ i) (h2 : i ≤ j) (h3 : j < b) : lt d[j]! d[i]! = false := by
  by_cases e : i = j
  · subst e; exact hS.irrefl _
  · exact h i j h1 (by omega) h3
theorem SortedIn.same {a b : Nat} {d e : Array α} (h : SortedIn lt a b d) (he : ∀ i, a ≤ i → i < b → e[i]! = d[i]!) : SortedIn lt a b e := fun i j h1 h2 h3 => by
  rw [he i h1 (by omega), he j (by omega) h3]
  exact h i j h1 h2 h3

/-! ### One element to the left of the others -/
/-- The first element has gone as far as place k. -/
structure Sh (d dk : Array α) (a k : Nat) : Prop where
  lo : ∀ t, a ≤ t → t < k → dk[t]! = d[t + 1]!
  at_ : dk[k]! = d[a]!
  hi : ∀ t, k < t → dk[t]! = d[t]!
theorem Sh.start (d : Array α) (a : Nat) : Sh d d a a := ⟨fun t h1 h2 => absurd h2 (by omega), rfl, fun _ _ => rfl⟩
theorem Sh.step {d dk : Array α} {a k : Nat} (h : Sh d dk a k) (hak : a ≤ k) (hk : k + 1 < dk.size) : Sh d (swp dk k (k + 1)) a (k + 1) := by
  refine ⟨fun t h1 h2 => ?_, ?_, fun t h1 => ?_⟩
  · by_cases e : t = k
    · subst e
      rw [swp_left _ _ _ (by omega) (by omega), h.hi _ (by omega)]
    · rw [swp_other _ _ _ _ e (by omega), h.lo t h1 (by omega)]
  · rw [swp_right _ _ _ hk, h.at_]
  · rw [swp_other _ _ _ _ (by omega) (by omega), h.hi t (by omega)]
theorem Sh.mrg (hS : SWO lt) {d dk : Array α} {a b k i : Nat} (h : Sh d dk a k) (hM : Mrg lt a b d dk) (hak : a ≤ k) (hki : k + 1 < i) (hib : i ≤ b) (hb : b ≤ d.size) (hl : ∀ t, a + 1 ≤ t → t < i → lt d[t]! d[a]! = true) : Mrg lt a b d (swp dk k (k + 1)) := by
  have hs := hM.size
  have h1 := Mrg.adj hS dk k (by omega) (by rw [h.hi _ (by omega), h.at_]; exact hl _ (by omega) hki)
  exact hM.trans (h1.mono hak (by omega) (by omega))
theorem Sh.done (hS : SWO lt) {d dk : Array α} {a b i : Nat} (h : Sh d dk a (i - 1)) (hs : SortedIn lt (a + 1) b d) (hai : a + 1 ≤ i) (hib : i ≤ b) (hlo : ∀ t, a + 1 ≤ t → t < i → lt d[t]! d[a]! = true) (hhi : ∀ t, i ≤ t → t < b → lt d[t]! d[a]! = false) : SortedIn lt a b dk := by
  have hg : ∀ t, i ≤ t → dk[t]! = d[t]! := fun t ht => h.hi t (by omega)
  intro p q h1 h2 h3
  rcases Nat.lt_trichotomy q (i - 1) with hq | hq | hq
  · rw [h.lo q (by omega) hq, h.lo p h1 (by omega)]
    exact hs _ _ (by omega) (by omega) (by omega)
  · subst hq
    rw [h.at_, h.lo p h1 (by omega)]
    exact asym hS (hlo _ (by omega) (by omega))
  · rw [h.hi q hq]
    rcases Nat.lt_trichotomy p (i - 1) with hp | hp | hp
    · rw [h.lo p h1 hp]
      exact hs _ _ (by omega) (by omega) h3
    · subst hp
      rw [h.at_]
      exact hhi _ (by omega) h3
    · rw [h.hi p hp]
      exact hs _ _ (by omega) h2 h3
/-! ### One element to the right of the others -/
structure ShR (d dk : Array α) (m k : Nat) : Prop where
  hi : ∀ t, k < t → t ≤ m → dk[t]! = d[t - 1]!
  at_ : dk[k]! = d[m]!
  lo : ∀ t, t < k → dk[t]! = d[t]!
theorem ShR.start (d : Array α) (m : Nat) : ShR d d m m := ⟨fun t h1 h2 => absurd h2 (by omega), rfl, fun _ _ => rfl⟩
theorem ShR.step {d dk : Array α} {m k : Nat} (h : ShR d dk m (k + 1)) (hkm : k + 1 ≤ m) (hm : m < dk.size) : ShR d (swp dk (k + 1) k) m k := by
  refine ⟨fun t h1 h2 => ?_, ?_, fun t h1 => ?_⟩
  · by_cases e : t = k + 1
    · subst e
      rw [swp_left _ _ _ (by omega) (by omega), h.lo _ (by omega)]
      rfl
    · rw [swp_other _ _ _ _ e (by omega), h.hi t (by omega) h2]
  · rw [swp_right _ _ _ (by omega), h.at_]
  · rw [swp_other _ _ _ _ (by omega) (by omega), h.lo t (by omega)]
theorem ShR.mrg (hS : SWO lt) {d dk : Array α} {a m k i : Nat} (h : ShR d dk m (k + 1)) (hM : Mrg lt a (m + 1) d dk) (hai : a ≤ i) (hik : i ≤ k) (hkm : k + 1 ≤ m) (hm : m < d.size) (hl : ∀ t, i ≤ t → t < m → lt d[m]! d[t]! = true) : Mrg lt a (m + 1) d (swp dk (k + 1) k) := by
  have hs := hM.size
  have h1 := Mrg.adj' hS dk k (by omega) (by rw [h.at_, h.lo _ (Nat.lt_succ_self _)]; exact hl _ hik (by omega))
  exact hM.trans (h1.mono (by omega) (by omega) (by omega))
theorem ShR.done (hS : SWO lt) {d dk : Array α} {a m i : Nat} (h : ShR d dk m i) (hs : SortedIn lt a m d) (hai : a ≤ i) (him : i ≤ m) (hlo : ∀ t, a ≤ t → t < i → lt d[m]! d[t]! = false) (hhi : ∀ t, i ≤ t → t < m → lt d[m]! d[t]! = true) : SortedIn lt a (m + 1) dk := by
  intro p q h1 h2 h3
  rcases Nat.lt_trichotomy q i with hq | hq | hq
  · rw [h.lo q hq, h.lo p (by omega)]
    exact hs _ _ h1 h2 (by omega)
  · subst hq
    rw [h.at_, h.lo p h2]
    exact hlo _ h1 h2
  · rw [h.hi q hq (by omega)]
    rcases Nat.lt_trichotomy p i with hp | hp | hp
    · rw [h.lo p hp]
      exact SortedIn.le hS hs h1 (by omega) (by omega)
    · subst hp
      rw [h.at_]
      exact asym hS (hhi _ (by omega) (by omega))
    · rw [h.hi p hp (by omega)]
      exact hs _ _ (by omega) (by omega) (by omega)

/-! ### The great step -/
/-- What the search has found. -/
structure Srch (lt : α → α → Bool) (d : Array α) (n s0 r0 s r : Nat) : Prop where
  o1 : s0 ≤ s
  o2 : s ≤ r
  o3 : r ≤ r0
  lo : ∀ c, s0 ≤ c → c < s → lt d[n - 1 - c]! d[c]! = false
  hi : ∀ c, r ≤ c → c < r0 → lt d[n - 1 - c]! d[c]! = true
theorem Srch.start (lt : α → α → Bool) (d : Array α) {n s0 r0 : Nat} (h : s0 ≤ r0) : Srch lt d n s0 r0 s0 r0 := ⟨Nat.le_refl _, h, Nat.le_refl _, fun c h1 h2 => absurd h2 (by omega), fun c h1 h2 => absurd h2 (by omega)⟩
/-- Where the search goes on: the first part in order up to m, the second from m on. -/
structure Grd (lt : α → α → Bool) (d : Array α) (a m b n s0 r0 : Nat) : Prop where
  sl : SortedIn lt a m d
  sr : SortedIn lt m b d
  g1 : a ≤ s0
  g2 : r0 ≤ m
  g3 : ∀ c, s0 ≤ c → c < r0 → m ≤ n - 1 - c ∧ n - 1 - c < b ∧ c < n
theorem Srch.no (hS : SWO lt) {d : Array α} {a m b n s0 r0 s r c : Nat} (h : Srch lt d n s0 r0 s r) (G : Grd lt d a m b n s0 r0) (h1 : s ≤ c) (h2 : c < r) (hc : lt d[n - 1 - c]! d[c]! = false) : Srch lt d n s0 r0 (c + 1) r := by
  have o1 := h.o1; have o3 := h.o3; have g1 := G.g1; have g2 := G.g2
  refine ⟨by omega, by omega, h.o3, fun t ht1 ht2 => ?_, h.hi⟩
  obtain ⟨p1, p2, p3⟩ := G.g3 t ht1 (by omega)
  obtain ⟨q1, q2, q3⟩ := G.g3 c (by omega) (by omega)
  have e1 := SortedIn.le hS G.sl (i := t) (j := c) (by omega) (by omega) (by omega)
  have e2 := SortedIn.le hS G.sr (i := n - 1 - c) (j := n - 1 - t) q1 (by omega) p2
  exact hS.ntrans _ _ _ e2 (hS.ntrans _ _ _ hc e1)
theorem Srch.yes (hS : SWO lt) {d : Array α} {a m b n s0 r0 s r c : Nat} (h : Srch lt d n s0 r0 s r) (G : Grd lt d a m b n s0 r0) (h1 : s ≤ c) (h2 : c < r) (hc : lt d[n - 1 - c]! d[c]! = true) : Srch lt d n s0 r0 s c := by
  have o1 := h.o1; have o3 := h.o3; have g1 := G.g1; have g2 := G.g2
  refine ⟨h.o1, by omega, by omega, h.lo, fun t ht1 ht2 => ?_⟩
  obtain ⟨p1, p2, p3⟩ := G.g3 t (by omega) ht2
  obtain ⟨q1, q2, q3⟩ := G.g3 c (by omega) (by omega)
  have e1 := SortedIn.le hS G.sl (i := c) (j := t) (by omega) (by omega) (by omega)
  have e2 := SortedIn.le hS G.sr (i := n - 1 - t) (j := n - 1 - c) p1 (by omega) q2
  exact lt_le hS (le_lt hS e2 hc) e1
/-- The ends of the search, as the code picks them. -/
def s0Of (m mid b : Nat) (a : Nat) : Nat := if mid < m then mid + m - b else a
def r0Of (m mid : Nat) : Nat := if mid < m then mid else m
theorem grd (d : Array α) {a m b mid : Nat} (h1 : a < m) (h2 : m < b) (hmid : mid = (a + b) / 2) (sl : SortedIn lt a m d) (sr : SortedIn lt m b d) : Grd lt d a m b (mid + m) (s0Of m mid b a) (r0Of m mid) := by
  unfold s0Of r0Of
  refine ⟨sl, sr, ?_, ?_, fun c => ?_⟩
  · split <;> omega
  · split <;> omega
  · split <;> omega
/-- What the search comes to. -/
structure Fnd (lt : α → α → Bool) (d : Array α) (a m b mid s e : Nat) : Prop where
  f1 : a ≤ s
  f2 : s ≤ m
  f3 : s ≤ mid
  f4 : mid ≤ e
  f5 : m ≤ e
  f6 : e ≤ b
  f7 : s + e = mid + m
  lt_ : ∀ i j, s ≤ i → i < m → m ≤ j → j < e → lt d[j]! d[i]! = true
  le_ : ∀ i j, a ≤ i → i < s → e ≤ j → j < b → lt d[j]! d[i]! = false
theorem found (hS : SWO lt) {d : Array α} {a m b mid s : Nat} (h1 : a < m) (h2 : m < b) (hmid : mid = (a + b) / 2) (h : Srch lt d (mid + m) (s0Of m mid b a) (r0Of m mid) s s) (G : Grd lt d a m b (mid + m) (s0Of m mid b a) (r0Of m mid)) : Fnd lt d a m b mid s (mid + m - s) := by
  have o1 := h.o1; have o3 := h.o3
  have hr : r0Of m mid ≤ mid ∧ r0Of m mid ≤ m := by unfold r0Of; split <;> omega
  have hs : a ≤ s0Of m mid b a ∧ mid + m - b ≤ s0Of m mid b a := by unfold s0Of; split <;> omega
  refine ⟨by omega, by omega, by omega, by omega, by omega, by omega, by omega, fun i j i1 i2 j1 j2 => ?_, fun i j i1 i2 j1 j2 => ?_⟩
  · have hlt : s < r0Of m mid := by
      by_cases hh : s < r0Of m mid
      · exact hh
      · exfalso
        have : s = r0Of m mid := by omega
        unfold r0Of at this
        split at this <;> omega
    obtain ⟨p1, p2, p3⟩ := G.g3 s o1 hlt
    have e0 := h.hi s (Nat.le_refl _) hlt
    have e1 := SortedIn.le hS G.sl (i := s) (j := i) (by omega) i1 i2
    have e2 := SortedIn.le hS G.sr (i := j) (j := mid + m - 1 - s) j1 (by omega) p2
    exact lt_le hS (le_lt hS e2 e0) e1
  · have hlt : s0Of m mid b a < s := by
      by_cases hh : s0Of m mid b a < s
      · exact hh
      · exfalso
        have : s = s0Of m mid b a := by omega
        unfold s0Of at this
        split at this <;> omega
    obtain ⟨p1, p2, p3⟩ := G.g3 (s - 1) (by omega) (by omega)
    have e0 := h.lo (s - 1) (by omega) (by omega)
    have e1 := SortedIn.le hS G.sl (i := i) (j := s - 1) i1 (by omega) (by omega)
    have e2 := SortedIn.le hS G.sr (i := mid + m - 1 - (s - 1)) (j := j) p1 (by omega) j2
    exact hS.ntrans _ _ _ e2 (hS.ntrans _ _ _ e0 e1)
/-- Behind the rotation. -/
structure Rtd (d d1 : Array α) (m mid s e : Nat) : Prop where
  out : ∀ t, t < s ∨ e ≤ t → d1[t]! = d[t]!
  left : ∀ t, t < e - m → d1[s + t]! = d[m + t]!
  right : ∀ t, t < m - s → d1[mid + t]! = d[s + t]!
theorem Rtd.none_ {d : Array α} {a m b mid s e : Nat} (F : Fnd lt d a m b mid s e) (h : ¬ (s < m ∧ m < e)) : Rtd d d m mid s e := by
  obtain ⟨f1, f2, f3, f4, f5, f6, f7, _, _⟩ := F
  refine ⟨fun _ _ => rfl, fun t ht => ?_, fun t ht => ?_⟩
  · have : s = m := by omega
    rw [this]
  · have : mid = s := by omega
    rw [this]
theorem Rtd.of_lists {d d1 : Array α} {A U V B : List α} {m mid s e : Nat} (h : d.toList = A ++ (U ++ (V ++ B))) (h1 : d1.toList = A ++ (V ++ (U ++ B))) (hA : A.length = s) (hU : U.length = m - s) (hV : V.length = e - m) (f2 : s ≤ m) (f5 : m ≤ e) (f7 : s + e = mid + m) (hM : Mrg lt s e d d1) : Rtd d d1 m mid s e := by
  refine ⟨fun t ht => hM.out ht, fun t ht => ?_, fun t ht => ?_⟩
  · have e1 := get_at (U := V) h1 (i := t) (by omega)
    have e2 := get_after h (i := t) (by omega)
    rw [hA] at e1
    rw [hA, hU, show s + (m - s) + t = m + t by omega] at e2
    rw [e1, e2]
  · have e1 := get_after h1 (i := t) (by omega)
    have e2 := get_at h (i := t) (by omega)
    rw [hA, hV, show s + (e - m) + t = mid + t by omega] at e1
    rw [hA] at e2
    rw [e1, e2]
/-- The two halves, each of two runs in order, the left one all at most the right one. -/
structure Hlv (lt : α → α → Bool) (d : Array α) (a mid b s e : Nat) : Prop where
  s1 : SortedIn lt a s d
  s2 : SortedIn lt s mid d
  s3 : SortedIn lt mid e d
  s4 : SortedIn lt e b d
  le_ : ∀ i j, a ≤ i → i < mid → mid ≤ j → j < b → lt d[j]! d[i]! = false
theorem halves (hS : SWO lt) {d d1 : Array α} {a m b mid s e : Nat} (sl : SortedIn lt a m d) (sr : SortedIn lt m b d) (F : Fnd lt d a m b mid s e) (R : Rtd d d1 m mid s e) : Hlv lt d1 a mid b s e := by
  obtain ⟨f1, f2, f3, f4, f5, f6, f7, hlt, hle⟩ := F
  have gl : ∀ i, s ≤ i → i < mid → d1[i]! = d[m + (i - s)]! := fun i h1 h2 => by
    have := R.left (i - s) (by omega)
    rwa [show s + (i - s) = i by omega] at this
  have gr : ∀ i, mid ≤ i → i < e → d1[i]! = d[s + (i - mid)]! := fun i h1 h2 => by
    have := R.right (i - mid) (by omega)
    rwa [show mid + (i - mid) = i by omega] at this
  refine ⟨SortedIn.same (SortedIn.sub sl (Nat.le_refl _) f2) (fun i _ h => R.out i (.inl h)), fun i j h1 h2 h3 => ?_, fun i j h1 h2 h3 => ?_, SortedIn.same (SortedIn.sub sr f5 (Nat.le_refl _)) (fun i h _ => R.out i (.inr h)), fun i j h1 h2 h3 h4 => ?_⟩
  · rw [gl i h1 (by omega), gl j (by omega) h3]
    exact sr _ _ (by omega) (by omega) (by omega)
  · rw [gr i h1 (by omega), gr j (by omega) h3]
    exact sl _ _ (by omega) (by omega) (by omega)
  · by_cases hi : i < s
    · rw [R.out i (.inl hi)]
      by_cases hj : j < e
      · rw [gr j h3 hj]
        exact SortedIn.le hS sl h1 (by omega) (by omega)
      · rw [R.out j (.inr (by omega))]
        exact hle _ _ h1 hi (by omega) h4
    · rw [gl i (by omega) h2]
      by_cases hj : j < e
      · rw [gr j h3 hj]
        exact asym hS (hlt _ _ (by omega) (by omega) (by omega) (by omega))
      · rw [R.out j (.inr (by omega))]
        exact SortedIn.le hS sr (by omega) (by omega) h4
/-- The end. -/
theorem whole (hS : SWO lt) {d1 d2 d3 : Array α} {a mid b s e : Nat} (H : Hlv lt d1 a mid b s e) (h1 : a ≤ mid) (h2 : mid ≤ b) (hb : b ≤ d1.size) (M2 : Mrg lt a mid d1 d2) (S2 : SortedIn lt a mid d2) (M3 : Mrg lt mid b d2 d3) (S3 : SortedIn lt mid b d3) : Mrg lt a b d1 d3 ∧ SortedIn lt a b d3 := by
  have z2 := M2.size
  refine ⟨(M2.mono (Nat.le_refl _) h2 hb).trans (M3.mono h1 (Nat.le_refl _) (by omega)), ?_⟩
  have e2 : ∀ i j, a ≤ i → i < mid → mid ≤ j → j < b → lt d2[j]! d2[i]! = false := fun i j i1 i2 j1 j2 => by
    rw [M2.out (.inr j1)]
    exact M2.all (by omega) (p := fun x => lt d1[j]! x = false) (fun i i1 i2 => H.le_ i j i1 i2 j1 j2) i i1 i2
  have e3 : ∀ i j, a ≤ i → i < mid → mid ≤ j → j < b → lt d3[j]! d3[i]! = false := fun i j i1 i2 j1 j2 => by
    rw [M3.out (.inl i2)]
    exact M3.all (by omega) (p := fun x => lt x d2[i]! = false) (fun j j1 j2 => e2 i j i1 i2 j1 j2) j j1 j2
  intro i j i1 ij j2
  by_cases hj : j < mid
  · rw [M3.out (.inl hj), M3.out (.inl (by omega))]
    exact S2 _ _ i1 ij hj
  · by_cases hi : i < mid
    · exact e3 i j i1 hi (by omega) j2
    · exact S3 _ _ (by omega) ij j2
end Go.Proofs.Ytkhjmegjnglkgaa.Sym
