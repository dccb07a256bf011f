/-
  What digest.Size and the reference's Size come to.
-/
import Derived.Test.YtkhjmegjnglkgaaVec
import Derived.Test.YtkhjmegjnglkgaaNeedR
namespace Go.Proofs.Ytkhjmegjnglkgaa.Vc
open Go.RowKit Go.Proofs.Ytkhjmegjnglkgaa.Wd
set_option linter.unusedVariables false

def sz (s : Sp) : Nat := if s.2.1 ≤ s.2.2 then s.2.2 - s.2.1 + 1 else 0
def size : List Sp → Nat
  | [] => 0
  | s :: l => sz s + size l
theorem size_append (l m : List Sp) : size (l ++ m) = size l + size m := by
  induction l with
  | nil => simp [size]
  | cons s l ih => simp only [List.cons_append, size, ih]; omega
theorem takeS_snoc {l : List Sp} {k : Nat} (h : k < l.length) : l.take (k + 1) = l.take k ++ [l.getD k (0, 0, 0)] := by
  rw [List.take_add_one, List.getElem?_eq_getElem h, List.getD_eq_getElem?_getD, List.getElem?_eq_getElem h]
  rfl
theorem size_snoc {l : List Sp} {k : Nat} (h : k < l.length) : size (l.take (k + 1)) = size (l.take k) + sz (l.getD k (0, 0, 0)) := by
  rw [takeS_snoc h, size_append]
  simp [size]
/-- Numbers that have room. -/
def SpOk (s : Sp) : Prop := s.1 ≤ 255 ∧ s.2.1 ≤ 4294967295 ∧ s.2.2 ≤ 4294967295
theorem sz_le {s : Sp} (h : SpOk s) : sz s ≤ 4294967296 := by
  unfold SpOk at h
  unfold sz
  split <;> omega
theorem size_le : ∀ {l : List Sp}, (∀ s ∈ l, SpOk s) → size l ≤ 4294967296 * l.length
  | [], _ => by simp [size]
  | s :: l, h => by
    have ih := size_le (l := l) fun c hc => h c (List.mem_cons_of_mem s hc)
    have hb := sz_le (h s (by simp))
    rw [size, List.length_cons]
    omega
/-- The slice value '.slice A n c' reads as spans. -/
structure RdS (w : World) (A : Option Addr) (n : Nat) (l : List Sp) : Prop where
  len : l.length = n
  fits : n ≤ 9223372036854775807
  small : ∀ s ∈ l, SpOk s
  cell : 0 < n → ∃ ad, A = some ad ∧ ∀ j, j < n → w.cell? (ad.add (j * 3)) = some (.int .u8 (((l.getD j (0, 0, 0)).1 : Nat) : Int)) ∧
    w.cell? (ad.add (j * 3 + 1)) = some (.int .u32 (((l.getD j (0, 0, 0)).2.1 : Nat) : Int)) ∧ w.cell? (ad.add (j * 3 + 2)) = some (.int .u32 (((l.getD j (0, 0, 0)).2.2 : Nat) : Int))
theorem RdS.below {w w1 : World} {A : Option Addr} {n : Nat} {l : List Sp} (h : RdS w A n l) (hb : Below w.heap.size w w1) : RdS w1 A n l :=
  ⟨h.len, h.fits, h.small, fun h0 => by
    obtain ⟨ad, e, hc⟩ := h.cell h0
    refine ⟨ad, e, fun j hj => ?_⟩
    obtain ⟨h1, h2, h3⟩ := hc j hj
    rw [hb.cell (World.block_lt_of_cell? w _ h1), hb.cell (World.block_lt_of_cell? w _ h2), hb.cell (World.block_lt_of_cell? w _ h3)]
    exact ⟨h1, h2, h3⟩⟩
theorem RdS.ok {w : World} {A : Option Addr} {n : Nat} {l : List Sp} (h : RdS w A n l) {j : Nat} (hj : j < n) : SpOk (l.getD j (0, 0, 0)) := by
  rw [List.getD_eq_getElem?_getD, List.getElem?_eq_getElem (by rw [h.len]; exact hj)]
  exact h.small _ (List.getElem_mem _)

set_option maxHeartbeats 1000000 in
set_option maxRecDepth 100000 in
theorem size_any (n cap : Nat) (A : Option Addr) (l : List Sp) (w : World) (hl : RdS w A n l) (hn : n ≤ 100) :
    Calls Try.prog 13 #[.slice A n cap] w fun e w' => e = .returned (.int .u64 ((size l : Nat) : Int)) ∧ Below w.heap.size w w' := by
  have HL := Lib.hid hl
  clear hl
  go_enter Try.func13, Try.ntmps13
  go_wp2_with fail
  go_loopw [3, 8] (fun d i wr => ∃ k S : Nat, k ≤ n ∧ i = .int .i64 (k : Int) ∧ d = .int .u64 (S : Int) ∧ S ≤ 4294967296 * k ∧ Hid (S = size (l.take k)) ∧ Hid (Below w.heap.size w wr)) (fun _ i _ => n - (intOf i).toNat)
  case atStart => exact ⟨0, 0, Nat.zero_le _, rfl, rfl, Nat.le_refl _, rfl, Below.refl _ _⟩
  case round =>
    obtain ⟨k, S, hk, rfl, rfl, hS, HS, HW⟩ := hrel
    have hsz := HW.out.size
    by_cases hlt : k < n
    · obtain ⟨ad, rfl, hcl⟩ := (HL.out.below HW.out).cell (by omega)
      obtain ⟨h1, h2, h3⟩ := hcl k hlt
      have hok := HL.out.ok hlt
      have hsn := size_snoc (l := l) (k := k) (by rw [HL.out.len]; exact hlt)
      rw [← HS.out] at hsn
      obtain ⟨s, hs⟩ : ∃ s, s = l.getD k (0, 0, 0) := ⟨_, rfl⟩
      rw [← hs] at h1 h2 h3 hok hsn
      obtain ⟨r, f, t⟩ := s
      unfold SpOk at hok
      dsimp only at h1 h2 h3 hok
      have i0 : (0 : Int) ≤ (k : Int) := by omega
      have i1 : (k : Int) < (n : Int) := by omega
      rw [← add_of_add] at h2 h3
      have h2' : wr.cell? { block := (ad.add (k * 3)).block, off := (ad.add (k * 3)).off + 1 } = some (.int .u32 (f : Int)) := h2
      have h3' : wr.cell? { block := (ad.add (k * 3)).block, off := (ad.add (k * 3)).off + 2 } = some (.int .u32 (t : Int)) := h3
      clear hcl hs h2 h3
      have HSN := Lib.hid hsn
      clear hsn
      by_cases hc : f ≤ t
      · have e : S + sz (r, f, t) = S + (t - f + 1) := by simp [sz, hc]
        have HE := Lib.hid e
        clear e
        go_wp2_with fail
        exact ⟨⟨k + 1, S + (t - f + 1), by omega, by go_num, by go_num, by omega, by unfold Hid; rw [HSN.out, HE.out], HW.out.alloc hsz _⟩, by simp [intOf]; omega⟩
      · have e : S + sz (r, f, t) = S := by simp [sz, hc]
        have HE := Lib.hid e
        clear e
        go_wp2_with fail
        exact ⟨⟨k + 1, S, by omega, by go_num, rfl, by omega, by unfold Hid; rw [HSN.out, HE.out], HW.out.alloc hsz _⟩, by simp [intOf]; omega⟩
    · have hkn : l.take k = l := List.take_of_length_le (by rw [HL.out.len]; omega)
      have hq := HS.out
      rw [hkn] at hq
      have HQ := Lib.hid hq
      clear hkn hq
      go_wp2_with fail
      go_ret
      exact ⟨by rw [← HQ.out]; rfl, HW.out⟩

set_option maxHeartbeats 1000000 in
set_option maxRecDepth 100000 in
theorem sizeR_any (n cap : Nat) (A : Option Addr) (l : List Sp) (w : World) (hl : RdS w A n l) (hn : n ≤ 100) :
    Calls Try.prog 14 #[.slice A n cap] w fun e w' => e = .returned (.int .u64 ((size l : Nat) : Int)) ∧ Below w.heap.size w w' := by
  have HL := Lib.hid hl
  clear hl
  go_enter Try.func14, Try.ntmps14
  go_wp2_with fail
  go_loopw [3, 4] (fun d i wr => ∃ k S : Nat, k ≤ n ∧ i = .int .i64 (k : Int) ∧ d = .int .u64 (S : Int) ∧ S ≤ 4294967296 * k ∧ Hid (S = size (l.take k)) ∧ Hid (Below w.heap.size w wr)) (fun _ i _ => n - (intOf i).toNat)
  case atStart => exact ⟨0, 0, Nat.zero_le _, rfl, rfl, Nat.le_refl _, rfl, Below.refl _ _⟩
  case round =>
    obtain ⟨k, S, hk, rfl, rfl, hS, HS, HW⟩ := hrel
    have hsz := HW.out.size
    by_cases hlt : k < n
    · obtain ⟨ad, rfl, hcl⟩ := (HL.out.below HW.out).cell (by omega)
      obtain ⟨h1, h2, h3⟩ := hcl k hlt
      have hok := HL.out.ok hlt
      have hsn := size_snoc (l := l) (k := k) (by rw [HL.out.len]; exact hlt)
      rw [← HS.out] at hsn
      obtain ⟨s, hs⟩ : ∃ s, s = l.getD k (0, 0, 0) := ⟨_, rfl⟩
      rw [← hs] at h1 h2 h3 hok hsn
      obtain ⟨r, f, t⟩ := s
      unfold SpOk at hok
      dsimp only at h1 h2 h3 hok
      have i0 : (0 : Int) ≤ (k : Int) := by omega
      have i1 : (k : Int) < (n : Int) := by omega
      rw [← add_of_add] at h2 h3
      have h2' : ∀ j, (wr.drewN j).cell? { block := (ad.add (k * 3)).block, off := (ad.add (k * 3)).off + 1 } = some (.int .u32 (f : Int)) := fun j => h2
      have h3' : ∀ j, (wr.drewN j).cell? { block := (ad.add (k * 3)).block, off := (ad.add (k * 3)).off + 2 } = some (.int .u32 (t : Int)) := fun j => h3
      have HSN := Lib.hid hsn
      clear hcl hs hsn h1 h2 h3
      by_cases hc : f ≤ t
      · have e : S + sz (r, f, t) = S + (t - f + 1) := by simp [sz, hc]
        have HE := Lib.hid e
        have wt : IntKind.u64.wrap (t : Int) = (t : Int) := by rw [IntKind.wrap_u64]; omega
        have wf : IntKind.u64.wrap (f : Int) = (f : Int) := by rw [IntKind.wrap_u64]; omega
        clear e
        go_wp2_with fail
        go_quiet (fail)
        go_wp2_with fail
        have h4' := fun i j => h2' (i + j)
        have h5' := fun i j => h3' (i + j)
        go_quiet (fail)
        go_wp2_with fail
        exact ⟨⟨k + 1, S + (t - f + 1), by omega, by go_num, by go_num, by omega, by unfold Hid; rw [HSN.out, HE.out], drewN_below HW.out _⟩, by simp [intOf]; omega⟩
      · have e : S + sz (r, f, t) = S := by simp [sz, hc]
        have HE := Lib.hid e
        clear e
        go_wp2_with fail
        go_quiet (fail)
        go_wp2_with fail
        exact ⟨⟨k + 1, S, by omega, by go_num, rfl, by omega, by unfold Hid; rw [HSN.out, HE.out], drewN_below HW.out _⟩, by simp [intOf]; omega⟩
    · have hkn : l.take k = l := List.take_of_length_le (by rw [HL.out.len]; omega)
      have hq := HS.out
      rw [hkn] at hq
      have HQ := Lib.hid hq
      clear hkn hq
      go_wp2_with fail
      go_ret
      exact ⟨by rw [← HQ.out]; rfl, HW.out⟩

/-! ### Spans of one's own, read -/
theorem spsA_get : ∀ (l : List Sp) (j i : Nat), j < l.length → i < 3 → (spsA l)[j * 3 + i]? = (spA (l.getD j (0, 0, 0)))[i]?
  | [], j, i, hj, _ => by simp at hj
  | s :: l, 0, i, _, hi => by
    unfold spsA
    rw [List.flatMap_cons, List.getElem?_append_left (by show 0 * 3 + i < 3; omega)]
    simp
  | s :: l, j + 1, i, hj, hi => by
    have ih := spsA_get l j i (by simpa using hj) hi
    unfold spsA at ih ⊢
    rw [List.flatMap_cons, List.getElem?_append_right (by show 3 ≤ (j + 1) * 3 + i; omega), show (j + 1) * 3 + i - (spA s).length = j * 3 + i by show (j + 1) * 3 + i - 3 = _; omega, ih]
    simp
theorem OwnS.rd {ty : TypeId} {w : World} {base : Nat} {v : Value} {l : List Sp} (h : OwnS ty w base v l) (hs : ∀ s ∈ l, SpOk s) : ∃ A c, v = .slice A l.length c ∧ l.length ≤ c ∧ RdS w A l.length l := by
  rcases h.row.2 with ⟨rfl, h0⟩ | ⟨g, cap, cur, rfl, _, _, hnc, hcm, _⟩
  · have : l = [] := List.eq_nil_of_length_eq_zero h0
    subst this
    exact ⟨none, 0, rfl, Nat.le_refl _, rfl, by decide, by simp, fun h => absurd h (by decide)⟩
  · unfold maxLen at hcm
    have hg : ∀ j i, j < l.length → i < 3 → ∀ u, (spA (l.getD j (0, 0, 0)))[i]? = some u → w.cell? ((⟨g, 0, none⟩ : Addr).add (j * 3 + i)) = some u := fun j i hj hi u hu =>
      h.row.cells (g := g) rfl (j * 3 + i) u (by rw [spsA_get l j i hj hi]; exact hu)
    refine ⟨_, cap, rfl, hnc, rfl, by omega, hs, fun _ => ⟨_, rfl, fun j hj => ⟨?_, ?_, ?_⟩⟩⟩
    · exact hg j 0 hj (by decide) _ rfl
    · exact hg j 1 hj (by decide) _ rfl
    · exact hg j 2 hj (by decide) _ rfl
theorem needTo_ok {a b : List Nat} (ha : IsVec a) (hb : IsVec b) {k : Nat} (hk : k ≤ 16) : ∀ s ∈ needTo a b k, SpOk s := by
  intro s hs
  unfold needTo at hs
  obtain ⟨i, hi, h⟩ := List.mem_filterMap.1 hs
  have h1 := List.mem_range.1 hi
  have h2 := hb.at_ i
  split at h
  · injection h with h
    subst h
    exact ⟨by show i ≤ 255; omega, by show a.getD i 0 + 1 ≤ _; omega, h2⟩
  · cases h
end Go.Proofs.Ytkhjmegjnglkgaa.Vc
