/-
  Steps of a region that draws its order, taken by hand: the load of a vector, a call, the rest.
-/
import Derived.Test.YtkhjmegjnglkgaaVec
import Derived.Deep.RegionHeld3
namespace Go.Proofs.Ytkhjmegjnglkgaa.Vc
open Go.RowKit Go.Proofs.Ytkhjmegjnglkgaa.Wd
set_option linter.unusedVariables false

theorem yields_vec {ops : Array Oper} {S : World → Prop} {op : Oper} {a : Act} (hgd : op.guard = none) (x : Operand) (ho : op.op = .load 24 x) (g : Nat) (hx : a.eval x = .pointer (some ⟨g, 0, none⟩)) (xs : List Nat)
    (hS : ∀ w, S w → VecAt w g xs) : YieldsIf Try.prog ops S op (.agg (vecA xs)) a := by
  refine .inl ⟨by simp [Region.wanted, hgd], fun w hw => ?_⟩
  unfold execOp
  simp only [ho, hx, Instr.loadAt, Instr.sureAddr, Sem.run_bind, Sem.run_pure, Result.andThen_ok, (hS w hw).load]
end Go.Proofs.Ytkhjmegjnglkgaa.Vc
