/-
  The walk of truglaw19.same, where both are the very same spans.
-/
import Derived.Test.YtkhjmegjnglkgaaEqSO
namespace Go.Proofs.Ytkhjmegjnglkgaa.Vc
open Go.RowKit Go.Proofs.Ytkhjmegjnglkgaa.Wd
set_option linter.unusedVariables false

set_option maxHeartbeats 4000000 in
set_option maxRecDepth 100000 in
theorem same_any (n c1 c2 : Nat) (A1 A2 : Option Addr) (l : List Sp) (w : World) (hr1 : RdS w A1 n l) (hr2 : RdS w A2 n l) (hn : n ≤ 100) :
    Calls Try.prog 12 #[.slice A1 n c1, .slice A2 n c2] w fun e w' => e = .returned (.bool true) ∧ Below w.heap.size w w' := by
  have HL1 := Lib.hid hr1
  have HL2 := Lib.hid hr2
  clear hr1 hr2
  go_enter Try.func12, Try.ntmps12
  go_wp2_with fail
  go_loopw [14] (fun i wr => ∃ k : Nat, k ≤ n ∧ i = .int .i64 (k : Int) ∧ Hid (Below w.heap.size w wr)) (fun i _ => n - (intOf i).toNat)
  case atStart => exact ⟨0, Nat.zero_le _, rfl, Below.refl _ _⟩
  case round =>
    obtain ⟨k, hk, rfl, HW⟩ := hrel
    have hsz := HW.out.size
    by_cases hlt : k < n
    · obtain ⟨a1, hA1, hc1⟩ := (HL1.out.below HW.out).cell (by omega)
      obtain ⟨a2, hA2, hc2⟩ := (HL2.out.below HW.out).cell (by omega)
      subst hA1 hA2
      obtain ⟨g1, g2, g3⟩ := hc1 k hlt
      obtain ⟨p1, p2, p3⟩ := hc2 k hlt
      have hok := HL1.out.ok hlt
      obtain ⟨s, hs⟩ : ∃ s, s = l.getD k (0, 0, 0) := ⟨_, rfl⟩
      rw [← hs] at g1 g2 g3 p1 p2 p3 hok
      have heq := fun W => eqSpan s s hok hok W
      simp only [decide_true] at heq
      obtain ⟨r, f, t⟩ := s
      dsimp only at g1 g2 g3 p1 p2 p3
      have heq' : ∀ W, (Op.equalIn 10000 37 (.agg #[.int .u8 (r : Int), .int .u32 (f : Int), .int .u32 (t : Int)]) (.agg #[.int .u8 (r : Int), .int .u32 (f : Int), .int .u32 (t : Int)])).run Try.prog W = .ok true W := heq
      have i0 : (0 : Int) ≤ (k : Int) := by omega
      have i1 : (k : Int) < (n : Int) := by omega
      rw [← add_of_add] at g2 g3 p2 p3
      have g2' : wr.cell? { block := (a1.add (k * 3)).block, off := (a1.add (k * 3)).off + 1 } = some (.int .u32 (f : Int)) := g2
      have g3' : wr.cell? { block := (a1.add (k * 3)).block, off := (a1.add (k * 3)).off + 2 } = some (.int .u32 (t : Int)) := g3
      have hal := Below.alloc (Below.refl wr.heap.size wr) (Nat.le_refl _) (.cells #[.int .u8 (r : Int), .int .u32 (f : Int), .int .u32 (t : Int)] 38)
      have q1 := (hal.cell (p := a2.add (k * 3)) (World.block_lt_of_cell? wr _ p1)).trans p1
      have q2 := (hal.cell (p := (a2.add (k * 3)).add 1) (World.block_lt_of_cell? wr _ p2)).trans p2
      have q3 := (hal.cell (p := (a2.add (k * 3)).add 2) (World.block_lt_of_cell? wr _ p3)).trans p3
      have z1 : ∀ j, ((wr.alloc (.cells #[.int .u8 (r : Int), .int .u32 (f : Int), .int .u32 (t : Int)] 38)).drewN j).cell? (a2.add (k * 3)) = some (.int .u8 (r : Int)) := fun j => q1
      have z2 : ∀ j, ((wr.alloc (.cells #[.int .u8 (r : Int), .int .u32 (f : Int), .int .u32 (t : Int)] 38)).drewN j).cell? { block := (a2.add (k * 3)).block, off := (a2.add (k * 3)).off + 1 } = some (.int .u32 (f : Int)) := fun j => q2
      have z3 : ∀ j, ((wr.alloc (.cells #[.int .u8 (r : Int), .int .u32 (f : Int), .int .u32 (t : Int)] 38)).drewN j).cell? { block := (a2.add (k * 3)).block, off := (a2.add (k * 3)).off + 2 } = some (.int .u32 (t : Int)) := fun j => q3
      clear hc1 hc2 hs g2 g3 p1 p2 p3 hok heq q1 q2 q3 hal
      go_wp2_with fail
      go_quiet (fail)
      go_wp2_with fail
      go_roundw
      case rel => exact ⟨k + 1, by omega, by go_num, drewN_below (HW.out.alloc hsz _) _⟩
      case measure => simp [intOf]; omega
    · go_wp2_with fail
      go_ret
      exact ⟨rfl, HW.out⟩
end Go.Proofs.Ytkhjmegjnglkgaa.Vc
