/-
  cmp.Compare, cmp.Or, op.Less, the closure that compares, and the reference's Less.
  op.Less, the closure that compares, and the reference's Less.
-/
import Derived.Test.YtgogbpkcceadbaaGreatDoorOpW
namespace Go.Proofs.YtgogbpkcceadbaaGreatDoor.Vc
open Go.RowKit Go.Proofs.YtgogbpkcceadbaaGreatDoor.Wd
set_option linter.unusedVariables false

def cmpN (x y : Nat) : Int := if x < y then -1 else if y < x then 1 else 0

theorem nan64 (x : Nat) (w : World) : Calls Tryz.prog 81 #[.int .u64 (x : Int)] w fun e w' => e = .returned (.bool false) ∧ w = w' := by
  go_enter Tryz.func81, Tryz.ntmps81
  go_wp2
  go_ret
  exact ⟨rfl, rfl⟩
theorem nan8 (x : Nat) (w : World) : Calls Tryz.prog 83 #[.int .u8 (x : Int)] w fun e w' => e = .returned (.bool false) ∧ w = w' := by
  go_enter Tryz.func83, Tryz.ntmps83
  go_wp2
  go_ret
  exact ⟨rfl, rfl⟩
theorem nan32 (x : Nat) (w : World) : Calls Tryz.prog 84 #[.int .u32 (x : Int)] w fun e w' => e = .returned (.bool false) ∧ w = w' := by
  go_enter Tryz.func84, Tryz.ntmps84
  go_wp2
  go_ret
  exact ⟨rfl, rfl⟩
theorem cmp64 (x y : Nat) (w : World) : Calls Tryz.prog 66 #[.int .u64 (x : Int), .int .u64 (y : Int)] w fun e w' => e = .returned (.int .i64 (cmpN x y)) ∧ w = w' := by
  have H1 := Lib.hid (nan64 x w)
  have H2 := Lib.hid (nan64 y w)
  have hc : x < y ∨ y < x ∨ x = y := by omega
  rcases hc with hc | hc | hc
  all_goals
    have hr : cmpN x y = cmpN x y := rfl
    conv at hr => rhs; unfold cmpN
    first
      | rw [if_pos hc] at hr
      | rw [if_neg (by omega), if_pos hc] at hr
      | rw [if_neg (by omega), if_neg (by omega)] at hr
    rw [hr]
    clear hr
    try subst hc
    go_enter Tryz.func66, Tryz.ntmps66
    go_wp2_with fail
    refine H1.out.mono ?_
    rintro e w' ⟨rfl, rfl⟩
    go_wp2_with fail
    refine H2.out.mono ?_
    rintro e w' ⟨rfl, rfl⟩
    go_wp2_with fail
    go_ret
    exact ⟨rfl, rfl⟩
theorem cmp8 (x y : Nat) (w : World) : Calls Tryz.prog 68 #[.int .u8 (x : Int), .int .u8 (y : Int)] w fun e w' => e = .returned (.int .i64 (cmpN x y)) ∧ w = w' := by
  have H1 := Lib.hid (nan8 x w)
  have H2 := Lib.hid (nan8 y w)
  have hc : x < y ∨ y < x ∨ x = y := by omega
  rcases hc with hc | hc | hc
  all_goals
    have hr : cmpN x y = cmpN x y := rfl
    conv at hr => rhs; unfold cmpN
    first
      | rw [if_pos hc] at hr
      | rw [if_neg (by omega), if_pos hc] at hr
      | rw [if_neg (by omega), if_neg (by omega)] at hr
    rw [hr]
    clear hr
    try subst hc
    go_enter Tryz.func68, Tryz.ntmps68
    go_wp2_with fail
    refine H1.out.mono ?_
    rintro e w' ⟨rfl, rfl⟩
    go_wp2_with fail
    refine H2.out.mono ?_
    rintro e w' ⟨rfl, rfl⟩
    go_wp2_with fail
    go_ret
    exact ⟨rfl, rfl⟩
theorem cmp32 (x y : Nat) (w : World) : Calls Tryz.prog 69 #[.int .u32 (x : Int), .int .u32 (y : Int)] w fun e w' => e = .returned (.int .i64 (cmpN x y)) ∧ w = w' := by
  have H1 := Lib.hid (nan32 x w)
  have H2 := Lib.hid (nan32 y w)
  have hc : x < y ∨ y < x ∨ x = y := by omega
  rcases hc with hc | hc | hc
  all_goals
    have hr : cmpN x y = cmpN x y := rfl
    conv at hr => rhs; unfold cmpN
    first
      | rw [if_pos hc] at hr
      | rw [if_neg (by omega), if_pos hc] at hr
      | rw [if_neg (by omega), if_neg (by omega)] at hr
    rw [hr]
    clear hr
    try subst hc
    go_enter Tryz.func69, Tryz.ntmps69
    go_wp2_with fail
    refine H1.out.mono ?_
    rintro e w' ⟨rfl, rfl⟩
    go_wp2_with fail
    refine H2.out.mono ?_
    rintro e w' ⟨rfl, rfl⟩
    go_wp2_with fail
    go_ret
    exact ⟨rfl, rfl⟩
def or3 (p q r : Int) : Int := if p ≠ 0 then p else if q ≠ 0 then q else r
set_option maxHeartbeats 1000000 in
theorem or_any (p q r : Int) (g : Nat) (w : World) (h0 : w.cell? ⟨g, 0, none⟩ = some (.int .i64 p)) (h1 : w.cell? ⟨g, 1, none⟩ = some (.int .i64 q)) (h2 : w.cell? ⟨g, 2, none⟩ = some (.int .i64 r)) :
    Calls Tryz.prog 65 #[.slice (some ⟨g, 0, none⟩) 3 3] w fun e w' => e = .returned (.int .i64 (or3 p q r)) ∧ w = w' := by
  have hcell : ∀ k : Nat, k < 3 → ∃ x, w.cell? ⟨g, k, none⟩ = some (.int .i64 x) ∧ x = [p, q, r].getD k 0 := by
    intro k hk
    have : k = 0 ∨ k = 1 ∨ k = 2 := by omega
    rcases this with rfl | rfl | rfl
    · exact ⟨p, h0, rfl⟩
    · exact ⟨q, h1, rfl⟩
    · exact ⟨r, h2, rfl⟩
  have HC := Lib.hid hcell
  clear h0 h1 h2 hcell
  go_enter Tryz.func65, Tryz.ntmps65
  go_wp2_with fail
  go_loop [8] (fun i => ∃ k : Nat, k ≤ 3 ∧ i = .int .i64 (k : Int) ∧ Hid (∀ j, j < k → [p, q, r].getD j 0 = 0)) (fun i => 3 - (intOf i).toNat)
  case atStart => exact ⟨0, Nat.zero_le _, rfl, fun j hj => absurd hj (Nat.not_lt_zero _)⟩
  case round =>
    obtain ⟨k, hk, rfl, HZ⟩ := hrel
    by_cases hlt : k < 3
    · obtain ⟨x, hx, hxe⟩ := HC.out k hlt
      have i0 : (0 : Int) ≤ (k : Int) := by omega
      have i1 : (k : Int) < 3 := by omega
      have HX := Lib.hid hxe
      clear hxe
      by_cases hz : x = 0
      · subst hz
        go_wp2_with fail
        exact ⟨⟨k + 1, by omega, by go_num, fun j hj => by
          by_cases h : j < k
          · exact HZ.out j h
          · rw [show j = k by omega]; exact HX.out.symm⟩, by simp [intOf]; omega⟩
      · have hr : or3 p q r = x := by
          rw [HX.out] at hz ⊢
          have hzz := HZ.out
          have : k = 0 ∨ k = 1 ∨ k = 2 := by omega
          rcases this with rfl | rfl | rfl
          · have e : p ≠ 0 := hz
            simp [or3, e]
          · have e0 : p = 0 := hzz 0 (by omega)
            have e : q ≠ 0 := hz
            simp [or3, e0, e]
          · have e0 : p = 0 := hzz 0 (by omega)
            have e1 : q = 0 := hzz 1 (by omega)
            simp [or3, e0, e1]
        have HR := Lib.hid hr
        have t0 : (x != 0) = true := by rw [bne_iff_ne]; exact hz
        clear hr hz
        go_wp2_with fail
        go_ret
        exact ⟨by rw [HR.out]; rfl, rfl⟩
    · have hr : or3 p q r = 0 := by
        have hzz := HZ.out
        have e0 : p = 0 := hzz 0 (by omega)
        have e1 : q = 0 := hzz 1 (by omega)
        have e2 : r = 0 := hzz 2 (by omega)
        simp [or3, e0, e1, e2]
      have HR := Lib.hid hr
      clear hr
      go_wp2_with fail
      go_ret
      exact ⟨by rw [HR.out]; rfl, rfl⟩
/-- What 'less' says of two operations, as a number. -/
def key3 (a b : O) : Int := or3 (cmpN (cnt a) (cnt b)) (cmpN a.rep b.rep) (cmpN a.seq b.seq)
end Go.Proofs.YtgogbpkcceadbaaGreatDoor.Vc
namespace Go.Proofs.YtgogbpkcceadbaaGreatDoor.Vc
open Go.RowKit Go.Proofs.YtgogbpkcceadbaaGreatDoor.Wd
set_option linter.unusedVariables false

theorem load8 {W : World} {a : Addr} {v : Value} (h : W.cell? a = some v) : (ldK 5 a).run Tryz.prog W = .ok v W := by simp [ldK, go_sem, h]
theorem load32 {W : World} {a : Addr} {v : Value} (h : W.cell? a = some v) : (ldK 28 a).run Tryz.prog W = .ok v W := by simp [ldK, go_sem, h]
theorem OpAt.load {w : World} {g : Nat} {x : O} (h : OpAt w g x) : (ldK 34 ⟨g, 0, none⟩).run Tryz.prog w = .ok (.agg (opA x).toArray) w :=
  run_loadVar_row w g _ 34 _ _ _ h.row Tryz.underlying34 rfl (by rw [List.size_toArray, opA_length h.ok]; kernel_rfl)
attribute [local go_sem ↓] ldKx stKx
def lessB (a b : O) : Bool := decide (key3 a b < 0)

set_option maxHeartbeats 4000000 in
set_option maxRecDepth 100000 in
theorem less_any (a b : O) (ha : OkO a) (hb : OkO b) (w : World) :
    Calls Tryz.prog 41 #[.agg (opA a).toArray, .agg (opA b).toArray] w fun e w' => e = .returned (.bool (lessB a b)) ∧ Gr w w' := by
  have h2 : OpAt ((w.alloc (.cells (opA a).toArray 34)).alloc (.cells (opA b).toArray 34)) (w.heap.size + 1) b := by simpa using OpAt.new (w.alloc (.cells (opA a).toArray 34)) hb
  have h1 : OpAt ((w.alloc (.cells (opA a).toArray 34)).alloc (.cells (opA b).toArray 34)) w.heap.size a := (OpAt.new w ha).below ((Below.refl _ _).alloc (Nat.le_refl _) _)
  have H0 := Lib.hid (((Gr.refl w).alloc (.cells (opA a).toArray 34)).alloc (.cells (opA b).toArray 34))
  have H1 := Lib.hid h1
  have H2 := Lib.hid h2
  have Q1 := Lib.hid (fun W => count_any a ha W)
  have Q2 := Lib.hid (fun W => count_any b hb W)
  obtain ⟨r, hr⟩ : ∃ r, r = key3 a b := ⟨_, rfl⟩
  have hl : lessB a b = decide (r < 0) := by rw [hr]; rfl
  rw [hl]
  unfold key3 at hr
  have HR := Lib.hid hr
  clear ha hb h1 h2 hr hl
  go_enter Tryz.func41, Tryz.ntmps41
  go_wp2_with fail
  generalize (w.alloc (.cells (opA a).toArray 34)).alloc (.cells (opA b).toArray 34) = w2 at *
  have c0 : ∀ W, Gr w2 W → (ldK 5 ⟨w.heap.size, 0, none⟩).run Tryz.prog W = .ok (.int .u8 ((a.rep : Nat) : Int)) W := fun W hW => load8 ((H1.out.below hW.below).cell 0)
  have c1 : ∀ W, Gr w2 W → (ldK 28 ⟨w.heap.size, 1, none⟩).run Tryz.prog W = .ok (.int .u32 ((a.seq : Nat) : Int)) W := fun W hW => load32 ((H1.out.below hW.below).cell 1)
  have d0 : ∀ W, Gr w2 W → (ldK 5 ⟨w.heap.size + 1, 0, none⟩).run Tryz.prog W = .ok (.int .u8 ((b.rep : Nat) : Int)) W := fun W hW => load8 ((H2.out.below hW.below).cell 0)
  have d1 : ∀ W, Gr w2 W → (ldK 28 ⟨w.heap.size + 1, 1, none⟩).run Tryz.prog W = .ok (.int .u32 ((b.seq : Nat) : Int)) W := fun W hW => load32 ((H2.out.below hW.below).cell 1)
  have l1 : ∀ W, Gr w2 W → (ldK 34 ⟨w.heap.size, 0, none⟩).run Tryz.prog W = .ok (.agg (opA a).toArray) W := fun W hW => (H1.out.below hW.below).load
  have l2 : ∀ W, Gr w2 W → (ldK 34 ⟨w.heap.size + 1, 0, none⟩).run Tryz.prog W = .ok (.agg (opA b).toArray) W := fun W hW => (H2.out.below hW.below).load
  have R1 := Q1.out
  have R2 := Q2.out
  clear Q1 Q2 H1 H2
  have hr := HR.out
  clear HR
  generalize cnt a = na at *
  generalize cnt b = nb at *
  generalize a.rep = ra at *
  generalize b.rep = rb at *
  generalize a.seq = sa at *
  generalize b.seq = sb at *
  have q64 := fun W => cmp64 na nb W
  have q8 := fun W => cmp8 ra rb W
  have q32 := fun W => cmp32 sa sb W
  generalize cmpN na nb = x at *
  generalize cmpN ra rb = y at *
  generalize cmpN sa sb = z at *
  have Q1 := Lib.hid R1
  have Q2 := Lib.hid R2
  clear R1 R2
  have Q64 := Lib.hid q64
  have Q8 := Lib.hid q8
  have Q32 := Lib.hid q32
  have qo := fun g W => or_any x y z g W
  rw [← hr] at qo
  have QO := Lib.hid qo
  clear q64 q8 q32 qo hr
  go_region_held3 (fun w' => Gr w2 w') (first | assumption | exact (Gr.refl _).drew | exact Gr.alloc (by assumption) _)
    (first
      | (go_at_call 67; ((with_reducible refine (Q1.out _).mono ?_)); rintro e w3 ⟨rfl, hg3⟩; have hg4 := Gr.trans ‹Gr w2 _› hg3)
      | (go_at_call 67; ((with_reducible refine (Q2.out _).mono ?_)); rintro e w3 ⟨rfl, hg3⟩; have hg4 := Gr.trans ‹Gr w2 _› hg3)
      | (go_at_call 66; ((with_reducible refine (Q64.out _).mono ?_)); rintro e w3 ⟨rfl, rfl⟩)
      | (go_at_call 68; ((with_reducible refine (Q8.out _).mono ?_)); rintro e w3 ⟨rfl, rfl⟩)
      | (go_at_call 69; ((with_reducible refine (Q32.out _).mono ?_)); rintro e w3 ⟨rfl, rfl⟩)
      | (go_at_call 65; refine (QO.out _ _ (by simp) (by simp) (by simp)).mono ?_; rintro e w3 ⟨rfl, rfl⟩))
  all_goals
    have hgf := Gr.alloc ‹Gr w2 w3› (.cells #[.int .i64 x, .int .i64 y, .int .i64 z] 3)
    have HGF := Lib.hid (H0.out.trans hgf)
    clear hgf
    go_wp2
    go_ret
    exact ⟨rfl, HGF.out⟩

/-- What the closure says of two operations. -/
def cmpO (a b : O) : Int := if lessB a b = true then -1 else if lessB b a = true then 1 else 0
end Go.Proofs.YtgogbpkcceadbaaGreatDoor.Vc
