/-
  The stable sort of operations, where there are fewer than twenty.
-/
import Derived.Test.YtkhjmegjnglkgaaLess2
import Derived.Test.YtkhjmegjnglkgaaIns
namespace Go.Proofs.Ytkhjmegjnglkgaa.Vc
open Go.RowKit Go.Proofs.Ytkhjmegjnglkgaa.Wd Go.Sort Go.Proofs
set_option linter.unusedVariables false

abbrev OpN := {o : O // OkO o}
theorem okZero : OkO ⟨0, 0, 0, 0, 0, 0, 0, List.replicate 16 0⟩ :=
  ⟨by decide, by decide, by decide, by decide, by decide, by decide, by decide, ⟨by decide, by decide⟩⟩
instance : Inhabited OpN := ⟨⟨_, okZero⟩⟩
def encO (x : OpN) : List Value := opA x.1
def cf (x y : OpN) : Int := cmpO x.1 y.1
theorem encO_length (x : OpN) : (encO x).length = 23 := opA_length x.2
theorem encO_one (x : OpN) : ∀ v ∈ encO x, v.oneCell' = true := by
  intro v hv
  unfold encO opA at hv
  simp only [List.mem_append, List.mem_cons, List.not_mem_nil, or_false, List.mem_map] at hv
  rcases hv with (rfl | rfl | rfl | rfl | rfl | rfl | rfl) | ⟨x, _, rfl⟩ <;> rfl
theorem cmpLays (blk off size : Nat) (w : World) : CmpLays Try.prog 30 #[] encO 23 cf blk off size w :=
  fun _ _ _ _ x y => (cmp_any x.1 y.1 x.2 y.2 _).mono fun _ _ ⟨he, hg⟩ => ⟨he, hg.grown⟩
def fnV : Value := .func (.func 30) #[] #[]
theorem ins_any (blk cap a b : Nat) (d : Array OpN) (w : World) (hH : HoldsK encO 23 w blk 0 d) (hblk : blk < w.heap.size) (hab : a ≤ b) (hb : b ≤ d.size) (hsz : d.size < 4611686018427387904) :
    Calls Try.prog 41 #[.slice (some ⟨blk, 0, none⟩) d.size cap, .int .i64 a, .int .i64 b, .func (.func 30) #[] #[]] w fun e w' =>
      e = .returned (.tuple #[]) ∧ ∃ n os, w' = sortWorldK encO 23 w blk 0 n (Sort.insertionSort (ltOf cf) d a b) os := by
  have eg : ∀ args w, (callFunc 30 args).run Try.prog w = .ok (.enter 30 args) w := enters_of Try.func30 (by kernel_rfl) rfl
  have h := AnyQ.insertionSortCmpFunc Ins.insL 23 Try.isAgg54 Try.sizeOf54 encO encO_length encO_one cf 30 #[] blk 0 cap a b d w eg (cmpLays blk 0 d.size w) hH hblk hab hb hsz
  exact h

set_option maxHeartbeats 1000000 in
theorem stable_small (blk cap : Nat) (d : Array OpN) (w : World) (hH : HoldsK encO 23 w blk 0 d) (hblk : blk < w.heap.size) (hsz : d.size < 20) :
    Calls Try.prog 35 #[.slice (some ⟨blk, 0, none⟩) d.size cap, .int .i64 (d.size : Int), .func (.func 30) #[] #[]] w fun e w' =>
      e = .returned (.tuple #[]) ∧ ∃ n os, w' = sortWorldK encO 23 w blk 0 n (Sort.insertionSort (ltOf cf) d 0 d.size) os := by
  have q := ins_any blk cap 0 d.size d w hH hblk (Nat.zero_le _) (Nat.le_refl _) (by omega)
  generalize Sort.insertionSort (ltOf cf) d 0 d.size = d' at *
  generalize d.size = n at *
  have Q := Lib.hid q
  clear q hH
  go_enter Try.func35, Try.ntmps35
  go_wp2_with fail
  go_loop [7, 8] (fun a b => a = .int .i64 0 ∧ b = .int .i64 20) (fun _ _ => 0)
  case atStart => exact ⟨rfl, rfl⟩
  case round =>
    obtain ⟨rfl, rfl⟩ := hrel
    have t0 : ¬ (20 : Int) ≤ (n : Int) := by omega
    go_wp2_with (go_at_call 41; refine Q.out.mono ?_; rintro e w3 ⟨rfl, m, os, rfl⟩)
    go_loop [6, 7, 8, 9] (fun a _ _ _ => a = .int .i64 20) (fun _ _ _ _ => 0)
    case atStart => rfl
    case round =>
      subst hrel
      have t1 : ¬ (20 : Int) < (n : Int) := by omega
      go_wp2_with fail
      go_end0
      exact ⟨rfl, m, os, rfl⟩

set_option maxHeartbeats 1000000 in
theorem sort_small (blk cap : Nat) (d : Array OpN) (w : World) (hH : HoldsK encO 23 w blk 0 d) (hblk : blk < w.heap.size) (hsz : d.size < 20) :
    Calls Try.prog 29 #[.slice (some ⟨blk, 0, none⟩) d.size cap, .func (.func 30) #[] #[]] w fun e w' =>
      e = .returned (.tuple #[]) ∧ ∃ n os, w' = sortWorldK encO 23 w blk 0 n (Sort.insertionSort (ltOf cf) d 0 d.size) os := by
  have q := stable_small blk cap d w hH hblk hsz
  generalize Sort.insertionSort (ltOf cf) d 0 d.size = d' at *
  generalize d.size = n at *
  have Q := Lib.hid q
  clear q hH
  go_enter Try.func29, Try.ntmps29
  go_wp2_with (go_at_call 35; refine Q.out.mono ?_; rintro e w3 ⟨rfl, m, os, rfl⟩)
  go_end0
  exact ⟨rfl, m, os, rfl⟩
end Go.Proofs.Ytkhjmegjnglkgaa.Vc
