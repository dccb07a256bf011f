/-
  No cell of these rows narrows 'for every input' (looked for: loops, veiled, ifaces, maps, wideKeys, modest, calm, conditions, laid).
  DERIVED. THE GIVEN ROWS OF THIS SEAT. 7 by the template 'for every input the law returns true; each argument reads behind the call as it read before'; 0 by the template 'total and deterministic' (their statements: YthadicpjhmjkcaaTotals.lean).
  GIVEN WITH THE SEED: the statements are not yours to turn. If you find one false, say at which input.
  Laid BY PROGRAM, IN A SANDBOX (cutbox-rows.mjs): the forced cells as the released guide's own fill.sh prints them over the translation 213ce1ec2e41ba27… (all of the seat's roots in one cut). By AI agents, Wed Nov 11 2026. No macro, syntax, notation, axiom, sorry.
-/
import Derived.Test.YthadicpjhmjkcaaChecked
import GoSem.Claim
import GoSem.ClaimJoined
import GoSem.ClaimMapViews
import Derived.JoinedTies
import Derived.KernelRfl
namespace Go.Proofs.Ythadicpjhmjkcaa
/- THE CELL 'sum', in the pinned program and in every row, IS THE sha256 OF THE DUMP (.gsa) THAT YthadicpjhmjkcaaProg.lean LOADS. Nothing in Lean hashes anything: it is a label: what it is worth is what the hold of that sum in a sandbox is worth. -/
noncomputable def Try.pinned : Pinned := { name := "ythadicpjhmjkcaa", sum := "213ce1ec2e41ba275b611ec8f774d73671d5028f062c466abeb8a1ddf4fe4e09", checked := Try.checked }
namespace Rows
def none {H : Type} : Left H := { results := [], args := [] }

/-- 'truglaw02.VintPuts': WHATEVER THE INPUT: true; the input reads as it did. -/
def vintPutsSpec : ChangeSpec := { name := "vintPuts", fn := fun _ => fun
  | [d] => { results := [.lit (.bool true)], args := [d] }
  | _ => none }
def vintPutsRow : OpenClaim := { program := "ythadicpjhmjkcaa", sum := "213ce1ec2e41ba275b611ec8f774d73671d5028f062c466abeb8a1ddf4fe4e09", func := "trug/truglaw02.VintPuts", spec := "vintPuts", apart := false }
def VintPutsSaid : Prop := vintPutsRow.holds Try.pinned (OpenSpec.ofChange vintPutsSpec)

/-- ITS FALSE NEIGHBOUR: 'it returns false'. Refute it at one input. -/
def vintPutsWrong : ChangeSpec := { name := "vintPuts", fn := fun _ => fun
  | [d] => { results := [.lit (.bool false)], args := [d] }
  | _ => none }
def VintPutsWrongFalsely : Prop := vintPutsRow.holds Try.pinned (OpenSpec.ofChange vintPutsWrong)

/-- 'truglaw02.VintGets': WHATEVER THE INPUT: true; the input reads as it did. -/
def vintGetsSpec : ChangeSpec := { name := "vintGets", fn := fun _ => fun
  | [d] => { results := [.lit (.bool true)], args := [d] }
  | _ => none }
def vintGetsRow : OpenClaim := { program := "ythadicpjhmjkcaa", sum := "213ce1ec2e41ba275b611ec8f774d73671d5028f062c466abeb8a1ddf4fe4e09", func := "trug/truglaw02.VintGets", spec := "vintGets", apart := false }
def VintGetsSaid : Prop := vintGetsRow.holds Try.pinned (OpenSpec.ofChange vintGetsSpec)

/-- ITS FALSE NEIGHBOUR: 'it returns false'. Refute it at one input. -/
def vintGetsWrong : ChangeSpec := { name := "vintGets", fn := fun _ => fun
  | [d] => { results := [.lit (.bool false)], args := [d] }
  | _ => none }
def VintGetsWrongFalsely : Prop := vintGetsRow.holds Try.pinned (OpenSpec.ofChange vintGetsWrong)

/-- 'truglaw02.VintFolds': WHATEVER THE INPUT: true; the input reads as it did. -/
def vintFoldsSpec : ChangeSpec := { name := "vintFolds", fn := fun _ => fun
  | [d1, d2] => { results := [.lit (.bool true)], args := [d1, d2] }
  | _ => none }
def vintFoldsRow : OpenClaim := { program := "ythadicpjhmjkcaa", sum := "213ce1ec2e41ba275b611ec8f774d73671d5028f062c466abeb8a1ddf4fe4e09", func := "trug/truglaw02.VintFolds", spec := "vintFolds", apart := false }
def VintFoldsSaid : Prop := vintFoldsRow.holds Try.pinned (OpenSpec.ofChange vintFoldsSpec)

/-- ITS FALSE NEIGHBOUR: 'it returns false'. Refute it at one input. -/
def vintFoldsWrong : ChangeSpec := { name := "vintFolds", fn := fun _ => fun
  | [d1, d2] => { results := [.lit (.bool false)], args := [d1, d2] }
  | _ => none }
def VintFoldsWrongFalsely : Prop := vintFoldsRow.holds Try.pinned (OpenSpec.ofChange vintFoldsWrong)

/-- 'truglaw02.VintBack': WHATEVER THE INPUT: true; the input reads as it did. -/
def vintBackSpec : ChangeSpec := { name := "vintBack", fn := fun _ => fun
  | [d1, d2] => { results := [.lit (.bool true)], args := [d1, d2] }
  | _ => none }
def vintBackRow : OpenClaim := { program := "ythadicpjhmjkcaa", sum := "213ce1ec2e41ba275b611ec8f774d73671d5028f062c466abeb8a1ddf4fe4e09", func := "trug/truglaw02.VintBack", spec := "vintBack", apart := false }
def VintBackSaid : Prop := vintBackRow.holds Try.pinned (OpenSpec.ofChange vintBackSpec)

/-- ITS FALSE NEIGHBOUR: 'it returns false'. Refute it at one input. -/
def vintBackWrong : ChangeSpec := { name := "vintBack", fn := fun _ => fun
  | [d1, d2] => { results := [.lit (.bool false)], args := [d1, d2] }
  | _ => none }
def VintBackWrongFalsely : Prop := vintBackRow.holds Try.pinned (OpenSpec.ofChange vintBackWrong)

/-- 'truglaw02.VintOrder': WHATEVER THE INPUT: true; the input reads as it did. -/
def vintOrderSpec : ChangeSpec := { name := "vintOrder", fn := fun _ => fun
  | [d1, d2, d3] => { results := [.lit (.bool true)], args := [d1, d2, d3] }
  | _ => none }
def vintOrderRow : OpenClaim := { program := "ythadicpjhmjkcaa", sum := "213ce1ec2e41ba275b611ec8f774d73671d5028f062c466abeb8a1ddf4fe4e09", func := "trug/truglaw02.VintOrder", spec := "vintOrder", apart := false }
def VintOrderSaid : Prop := vintOrderRow.holds Try.pinned (OpenSpec.ofChange vintOrderSpec)

/-- ITS FALSE NEIGHBOUR: 'it returns false'. Refute it at one input. -/
def vintOrderWrong : ChangeSpec := { name := "vintOrder", fn := fun _ => fun
  | [d1, d2, d3] => { results := [.lit (.bool false)], args := [d1, d2, d3] }
  | _ => none }
def VintOrderWrongFalsely : Prop := vintOrderRow.holds Try.pinned (OpenSpec.ofChange vintOrderWrong)

/-- 'truglaw02.VintShape': WHATEVER THE INPUT: true; the input reads as it did. -/
def vintShapeSpec : ChangeSpec := { name := "vintShape", fn := fun _ => fun
  | [d] => { results := [.lit (.bool true)], args := [d] }
  | _ => none }
def vintShapeRow : OpenClaim := { program := "ythadicpjhmjkcaa", sum := "213ce1ec2e41ba275b611ec8f774d73671d5028f062c466abeb8a1ddf4fe4e09", func := "trug/truglaw02.VintShape", spec := "vintShape", apart := false }
def VintShapeSaid : Prop := vintShapeRow.holds Try.pinned (OpenSpec.ofChange vintShapeSpec)

/-- ITS FALSE NEIGHBOUR: 'it returns false'. Refute it at one input. -/
def vintShapeWrong : ChangeSpec := { name := "vintShape", fn := fun _ => fun
  | [d] => { results := [.lit (.bool false)], args := [d] }
  | _ => none }
def VintShapeWrongFalsely : Prop := vintShapeRow.holds Try.pinned (OpenSpec.ofChange vintShapeWrong)

/-- 'truglaw02.VintJoin': WHATEVER THE INPUT: true; the input reads as it did. -/
def vintJoinSpec : ChangeSpec := { name := "vintJoin", fn := fun _ => fun
  | [d] => { results := [.lit (.bool true)], args := [d] }
  | _ => none }
def vintJoinRow : OpenClaim := { program := "ythadicpjhmjkcaa", sum := "213ce1ec2e41ba275b611ec8f774d73671d5028f062c466abeb8a1ddf4fe4e09", func := "trug/truglaw02.VintJoin", spec := "vintJoin", apart := false }
def VintJoinSaid : Prop := vintJoinRow.holds Try.pinned (OpenSpec.ofChange vintJoinSpec)

/-- ITS FALSE NEIGHBOUR: 'it returns false'. Refute it at one input. -/
def vintJoinWrong : ChangeSpec := { name := "vintJoin", fn := fun _ => fun
  | [d] => { results := [.lit (.bool false)], args := [d] }
  | _ => none }
def VintJoinWrongFalsely : Prop := vintJoinRow.holds Try.pinned (OpenSpec.ofChange vintJoinWrong)

/- THE SECOND FORM. 'bulk': how many values and letters a reading holds, each counted each time it is reached (what is shared counts as often as it is met; a slice's spare places count too). A statement '..UptoSaid' is the law's where the arguments, and the package variables that the reading takes, are together of bulk at most 1048576: NARROWER than '..Said'. Prove '..Said' where nothing that the law and all that it calls make is longer than what came in: it says more and counts as full. Else prove '..UptoSaid'. A law counts once. -/
mutual
def uptoBulk {H : Type} : DataW H → Nat
  | .lit (.string bytes) => bytes.length + 1
  | .lit _ => 1
  | .nil => 1
  | .ptr d => uptoBulk d + 1
  | .slice elems spare => uptoBulkAll elems + uptoBulkAll spare + 1
  | .agg parts => uptoBulkAll parts + 1
  | .iface _ d => uptoBulk d + 1
  | .map entries => uptoBulkEntries entries + 1
  | .held _ => 1
def uptoBulkAll {H : Type} : List (DataW H) → Nat
  | [] => 0
  | d :: r => uptoBulk d + uptoBulkAll r
def uptoBulkEntries {H : Type} : List (Lit × DataW H) → Nat
  | [] => 0
  | x :: r => uptoBulkEntry x + uptoBulkEntries r
def uptoBulkEntry {H : Type} : Lit × DataW H → Nat
  | (.string bytes, d) => bytes.length + uptoBulk d + 1
  | (_, d) => uptoBulk d + 1
 end
def uptoSmall : (H : Type) → List (DataW H) → Bool := fun _ ds => decide (uptoBulkAll ds ≤ 1048576)
def OpenSpec.upto (s : _root_.Go.ChangeSpec) : _root_.Go.OpenSpec := { _root_.Go.OpenSpec.ofChange s with cond := some uptoSmall }

/-- 'truglaw02.VintPuts', WHERE WHAT IT READS IS OF BULK AT MOST 1048576: true; the input reads as it did. -/
def vintPutsUptoRow : OpenClaim := { program := "ythadicpjhmjkcaa", sum := "213ce1ec2e41ba275b611ec8f774d73671d5028f062c466abeb8a1ddf4fe4e09", func := "trug/truglaw02.VintPuts", spec := "vintPuts", apart := false, narrowed := true }
def VintPutsUptoSaid : Prop := vintPutsUptoRow.holds Try.pinned (OpenSpec.upto vintPutsSpec)

/-- 'truglaw02.VintGets', WHERE WHAT IT READS IS OF BULK AT MOST 1048576: true; the input reads as it did. -/
def vintGetsUptoRow : OpenClaim := { program := "ythadicpjhmjkcaa", sum := "213ce1ec2e41ba275b611ec8f774d73671d5028f062c466abeb8a1ddf4fe4e09", func := "trug/truglaw02.VintGets", spec := "vintGets", apart := false, narrowed := true }
def VintGetsUptoSaid : Prop := vintGetsUptoRow.holds Try.pinned (OpenSpec.upto vintGetsSpec)

/-- 'truglaw02.VintFolds', WHERE WHAT IT READS IS OF BULK AT MOST 1048576: true; the input reads as it did. -/
def vintFoldsUptoRow : OpenClaim := { program := "ythadicpjhmjkcaa", sum := "213ce1ec2e41ba275b611ec8f774d73671d5028f062c466abeb8a1ddf4fe4e09", func := "trug/truglaw02.VintFolds", spec := "vintFolds", apart := false, narrowed := true }
def VintFoldsUptoSaid : Prop := vintFoldsUptoRow.holds Try.pinned (OpenSpec.upto vintFoldsSpec)

/-- 'truglaw02.VintBack', WHERE WHAT IT READS IS OF BULK AT MOST 1048576: true; the input reads as it did. -/
def vintBackUptoRow : OpenClaim := { program := "ythadicpjhmjkcaa", sum := "213ce1ec2e41ba275b611ec8f774d73671d5028f062c466abeb8a1ddf4fe4e09", func := "trug/truglaw02.VintBack", spec := "vintBack", apart := false, narrowed := true }
def VintBackUptoSaid : Prop := vintBackUptoRow.holds Try.pinned (OpenSpec.upto vintBackSpec)

/-- 'truglaw02.VintOrder', WHERE WHAT IT READS IS OF BULK AT MOST 1048576: true; the input reads as it did. -/
def vintOrderUptoRow : OpenClaim := { program := "ythadicpjhmjkcaa", sum := "213ce1ec2e41ba275b611ec8f774d73671d5028f062c466abeb8a1ddf4fe4e09", func := "trug/truglaw02.VintOrder", spec := "vintOrder", apart := false, narrowed := true }
def VintOrderUptoSaid : Prop := vintOrderUptoRow.holds Try.pinned (OpenSpec.upto vintOrderSpec)

/-- 'truglaw02.VintShape', WHERE WHAT IT READS IS OF BULK AT MOST 1048576: true; the input reads as it did. -/
def vintShapeUptoRow : OpenClaim := { program := "ythadicpjhmjkcaa", sum := "213ce1ec2e41ba275b611ec8f774d73671d5028f062c466abeb8a1ddf4fe4e09", func := "trug/truglaw02.VintShape", spec := "vintShape", apart := false, narrowed := true }
def VintShapeUptoSaid : Prop := vintShapeUptoRow.holds Try.pinned (OpenSpec.upto vintShapeSpec)

/-- 'truglaw02.VintJoin', WHERE WHAT IT READS IS OF BULK AT MOST 1048576: true; the input reads as it did. -/
def vintJoinUptoRow : OpenClaim := { program := "ythadicpjhmjkcaa", sum := "213ce1ec2e41ba275b611ec8f774d73671d5028f062c466abeb8a1ddf4fe4e09", func := "trug/truglaw02.VintJoin", spec := "vintJoin", apart := false, narrowed := true }
def VintJoinUptoSaid : Prop := vintJoinUptoRow.holds Try.pinned (OpenSpec.upto vintJoinSpec)

end Rows
end Go.Proofs.Ythadicpjhmjkcaa
