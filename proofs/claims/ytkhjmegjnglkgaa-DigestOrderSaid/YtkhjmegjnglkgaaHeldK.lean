/-
  Steps of a region that draws its order, taken by hand: the load of a vector, a call, the rest.
-/
import Derived.Test.YtkhjmegjnglkgaaVec
import Derived.Deep.RegionHeld3
namespace Go.Proofs.Ytkhjmegjnglkgaa.Vc
open Go.RowKit Go.Proofs.Ytkhjmegjnglkgaa.Wd
set_option linter.unusedVariables false

theorem yields_vec {ops : Array Oper} {S : World → Prop} {op : Oper} {a : Act} (hgd : op.guard = none) (x : Operand) (ho : op.op = .load 24 x) (g : Nat) (hx : a.eval x = .pointer (some ⟨g, 0, none⟩)) (xs : List Nat)
    (hS : ∀ w, S w → VecAt w g xs) : YieldsIf Try.prog ops S op (.agg (vecA xs)) a := by
  refine .inl ⟨by simp [Region.wanted, hgd], fun w hw => ?_⟩
  unfold execOp
  simp only [ho, hx, Instr.loadAt, Instr.sureAddr, Sem.run_bind, Sem.run_pure, Result.andThen_ok, ldKx, (hS w hw).load]
theorem yields_vecG {ops : Array Oper} {S : World → Prop} {op : Oper} {a : Act} (hw : Region.wanted op (yielded ops a.tmps) = true) (x : Operand) (ho : op.op = .load 24 x) (g : Nat) (hx : a.eval x = .pointer (some ⟨g, 0, none⟩)) (xs : List Nat)
    (hS : ∀ w, S w → VecAt w g xs) : YieldsIf Try.prog ops S op (.agg (vecA xs)) a := by
  refine .inl ⟨hw, fun w hw => ?_⟩
  unfold execOp
  simp only [ho, hx, Instr.loadAt, Instr.sureAddr, Sem.run_bind, Sem.run_pure, Result.andThen_ok, ldKx, (hS w hw).load]
theorem yields_load {ops : Array Oper} {S : World → Prop} {op : Oper} {a : Act} (ty : TypeId) (hw : Region.wanted op (yielded ops a.tmps) = true) (x : Operand) (ho : op.op = .load ty x) (ad : Addr) (hx : a.eval x = .pointer (some ad)) (v : Value)
    (hl : ∀ w, S w → (ldK ty ad).run Try.prog w = .ok v w) : YieldsIf Try.prog ops S op v a := by
  refine .inl ⟨hw, fun w hw => ?_⟩
  unfold execOp
  simp only [ho, hx, Instr.loadAt, Instr.sureAddr, Sem.run_bind, Sem.run_pure, Result.andThen_ok, ldKx, hl w hw]
theorem held_take {md : Region.Mode} {ops : Array Oper} {Q : Exit → Act → World → Prop} {S : World → Prop} {i fuel : Nat} {listed : Array Bool} {a : Act} {w : World} {oi : Oper} (d : Option Tmp) (v : Value) (hi : ops[i]? = some oi) (hd : oi.dst = d)
    (hs : Region.noSelect ops = true) (hf : Region.free md ops listed i = true) (hr : (Region.ready md ops listed).contains i = true) (hQ : ∀ c a w, Q (.panic c) (a.put d v) w → Q (.panic c) a w) (hy : YieldsIf Try.prog ops S oi v a) (hS : S w)
    (h : wpAnyH Try.prog md ops Q S fuel (listed.setIfInBounds i true) (a.put d v) w) : wpAnyH Try.prog md ops Q S (fuel + 1) listed a w := by
  subst hd
  exact wpAnyH_take hi hs hf hr hQ hy hS h
end Go.Proofs.Ytkhjmegjnglkgaa.Vc
