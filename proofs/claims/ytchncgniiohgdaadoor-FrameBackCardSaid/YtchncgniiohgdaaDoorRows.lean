/-
  NARROWER THAN 'FOR EVERY INPUT', by the rows' own cells (each row's printed sentence says how): FrameWraps: laid · FrameFirst: laid · FrameBack: laid · FrameSizes: laid · FrameJoin: laid.
  DERIVED. THE GIVEN ROWS OF THIS SEAT. 5 by the template 'for every input the law returns true; each argument reads behind the call as it read before'; 0 by the template 'total and deterministic' (their statements: YtchncgniiohgdaaDoorTotals.lean).
  GIVEN WITH THE SEED: the statements are not yours to turn. If you find one false, say at which input.
  Laid BY PROGRAM, IN A SANDBOX (cutbox-rows.mjs): the forced cells as the released guide's own fill.sh prints them over the translation eae018100e2b5baa… (all of the seat's roots in one cut). By AI agents, Wed Nov 11 2026. No macro, syntax, notation, axiom, sorry.
-/
import Derived.Test.YtchncgniiohgdaaDoorChecked
import GoSem.Claim
import GoSem.ClaimJoined
import GoSem.ClaimMapViews
import Derived.JoinedTies
import Derived.KernelRfl
namespace Go.Proofs.YtchncgniiohgdaaDoor
/- THE CELL 'sum', in the pinned program and in every row, IS THE sha256 OF THE DUMP (.gsa) THAT YtchncgniiohgdaaDoorProg.lean LOADS. Nothing in Lean hashes anything: it is a label: what it is worth is what the hold of that sum in a sandbox is worth. -/
noncomputable def Tryd.pinned : Pinned := { name := "ytchncgniiohgdaadoor", sum := "eae018100e2b5baaf748a83b4ae993e275eea7f15eea7dd867ecd0ebac420493", checked := Tryd.checked }
namespace Rows
def none {H : Type} : Left H := { results := [], args := [] }

/- WHAT THE LISTED PACKAGE-LEVEL VARIABLES READ AS WHEN THE CALL BEGINS. Each datum BY PROGRAM (the guide's laid-datum.mjs) off the statement by which the dump's own 'gosem.cut.vars' lays the variable. In a bare row this is a premise. The card (YtchncgniiohgdaaDoorCards.lean) ties it to the program's text. -/
def laid_trug_crc_half {H : Type} : DataW H := .agg [.lit (.int .u32 0), .lit (.int .u32 498536548), .lit (.int .u32 997073096), .lit (.int .u32 651767980), .lit (.int .u32 1994146192), .lit (.int .u32 1802195444), .lit (.int .u32 1303535960), .lit (.int .u32 1342533948), .lit (.int .u32 3988292384), .lit (.int .u32 4027552580), .lit (.int .u32 3604390888), .lit (.int .u32 3412177804), .lit (.int .u32 2607071920), .lit (.int .u32 2262029012), .lit (.int .u32 2685067896), .lit (.int .u32 3183342108)]

/-- 'truglaw10.FrameWraps': WHATEVER THE INPUT: true; the input reads as it did. -/
def frameWrapsSpec : ChangeSpec := { name := "frameWraps", fn := fun _ => fun
  | [d] => { results := [.lit (.bool true)], args := [d] }
  | _ => none }
def frameWrapsRow : OpenClaim := { program := "ytchncgniiohgdaadoor", sum := "eae018100e2b5baaf748a83b4ae993e275eea7f15eea7dd867ecd0ebac420493", func := "trug/truglaw10.FrameWraps", spec := "frameWraps", named := ["trug/crc.half"], apart := false, laid := [("trug/crc.half", laid_trug_crc_half)] }
def FrameWrapsSaid : Prop := frameWrapsRow.holds Tryd.pinned (OpenSpec.ofChange frameWrapsSpec)

/-- ITS FALSE NEIGHBOUR: 'it returns false'. Refute it at one input. -/
def frameWrapsWrong : ChangeSpec := { name := "frameWraps", fn := fun _ => fun
  | [d] => { results := [.lit (.bool false)], args := [d] }
  | _ => none }
def FrameWrapsWrongFalsely : Prop := frameWrapsRow.holds Tryd.pinned (OpenSpec.ofChange frameWrapsWrong)

/-- 'truglaw10.FrameFirst': WHATEVER THE INPUT: true; the input reads as it did. -/
def frameFirstSpec : ChangeSpec := { name := "frameFirst", fn := fun _ => fun
  | [d] => { results := [.lit (.bool true)], args := [d] }
  | _ => none }
def frameFirstRow : OpenClaim := { program := "ytchncgniiohgdaadoor", sum := "eae018100e2b5baaf748a83b4ae993e275eea7f15eea7dd867ecd0ebac420493", func := "trug/truglaw10.FrameFirst", spec := "frameFirst", named := ["trug/crc.half"], apart := false, laid := [("trug/crc.half", laid_trug_crc_half)] }
def FrameFirstSaid : Prop := frameFirstRow.holds Tryd.pinned (OpenSpec.ofChange frameFirstSpec)

/-- ITS FALSE NEIGHBOUR: 'it returns false'. Refute it at one input. -/
def frameFirstWrong : ChangeSpec := { name := "frameFirst", fn := fun _ => fun
  | [d] => { results := [.lit (.bool false)], args := [d] }
  | _ => none }
def FrameFirstWrongFalsely : Prop := frameFirstRow.holds Tryd.pinned (OpenSpec.ofChange frameFirstWrong)

/-- 'truglaw10.FrameBack': WHATEVER THE INPUT: true; the input reads as it did. -/
def frameBackSpec : ChangeSpec := { name := "frameBack", fn := fun _ => fun
  | [d1, d2] => { results := [.lit (.bool true)], args := [d1, d2] }
  | _ => none }
def frameBackRow : OpenClaim := { program := "ytchncgniiohgdaadoor", sum := "eae018100e2b5baaf748a83b4ae993e275eea7f15eea7dd867ecd0ebac420493", func := "trug/truglaw10.FrameBack", spec := "frameBack", named := ["trug/crc.half"], apart := false, laid := [("trug/crc.half", laid_trug_crc_half)] }
def FrameBackSaid : Prop := frameBackRow.holds Tryd.pinned (OpenSpec.ofChange frameBackSpec)

/-- ITS FALSE NEIGHBOUR: 'it returns false'. Refute it at one input. -/
def frameBackWrong : ChangeSpec := { name := "frameBack", fn := fun _ => fun
  | [d1, d2] => { results := [.lit (.bool false)], args := [d1, d2] }
  | _ => none }
def FrameBackWrongFalsely : Prop := frameBackRow.holds Tryd.pinned (OpenSpec.ofChange frameBackWrong)

/-- 'truglaw10.FrameSizes': WHATEVER THE INPUT: true; the input reads as it did. -/
def frameSizesSpec : ChangeSpec := { name := "frameSizes", fn := fun _ => fun
  | [d1, d2] => { results := [.lit (.bool true)], args := [d1, d2] }
  | _ => none }
def frameSizesRow : OpenClaim := { program := "ytchncgniiohgdaadoor", sum := "eae018100e2b5baaf748a83b4ae993e275eea7f15eea7dd867ecd0ebac420493", func := "trug/truglaw10.FrameSizes", spec := "frameSizes", named := ["trug/crc.half"], apart := false, laid := [("trug/crc.half", laid_trug_crc_half)] }
def FrameSizesSaid : Prop := frameSizesRow.holds Tryd.pinned (OpenSpec.ofChange frameSizesSpec)

/-- ITS FALSE NEIGHBOUR: 'it returns false'. Refute it at one input. -/
def frameSizesWrong : ChangeSpec := { name := "frameSizes", fn := fun _ => fun
  | [d1, d2] => { results := [.lit (.bool false)], args := [d1, d2] }
  | _ => none }
def FrameSizesWrongFalsely : Prop := frameSizesRow.holds Tryd.pinned (OpenSpec.ofChange frameSizesWrong)

/-- 'truglaw10.FrameJoin': WHATEVER THE INPUT: true; the input reads as it did. -/
def frameJoinSpec : ChangeSpec := { name := "frameJoin", fn := fun _ => fun
  | [d1, d2] => { results := [.lit (.bool true)], args := [d1, d2] }
  | _ => none }
def frameJoinRow : OpenClaim := { program := "ytchncgniiohgdaadoor", sum := "eae018100e2b5baaf748a83b4ae993e275eea7f15eea7dd867ecd0ebac420493", func := "trug/truglaw10.FrameJoin", spec := "frameJoin", named := ["trug/crc.half"], apart := false, laid := [("trug/crc.half", laid_trug_crc_half)] }
def FrameJoinSaid : Prop := frameJoinRow.holds Tryd.pinned (OpenSpec.ofChange frameJoinSpec)

/-- ITS FALSE NEIGHBOUR: 'it returns false'. Refute it at one input. -/
def frameJoinWrong : ChangeSpec := { name := "frameJoin", fn := fun _ => fun
  | [d1, d2] => { results := [.lit (.bool false)], args := [d1, d2] }
  | _ => none }
def FrameJoinWrongFalsely : Prop := frameJoinRow.holds Tryd.pinned (OpenSpec.ofChange frameJoinWrong)

/- THE SECOND FORM. 'bulk': how many values and letters a reading holds, each counted each time it is reached (what is shared counts as often as it is met; a slice's spare places count too). A statement '..UptoSaid' is the law's where the arguments, and the package variables that the reading takes, are together of bulk at most 1048576: NARROWER than '..Said'. Prove '..Said' where nothing that the law and all that it calls make is longer than what came in: it says more and counts as full. Else prove '..UptoSaid'. A law counts once. -/
mutual
def uptoBulk {H : Type} : DataW H → Nat
  | .lit (.string bytes) => bytes.length + 1
  | .lit _ => 1
  | .nil => 1
  | .ptr d => uptoBulk d + 1
  | .slice elems spare => uptoBulkAll elems + uptoBulkAll spare + 1
  | .agg parts => uptoBulkAll parts + 1
  | .iface _ d => uptoBulk d + 1
  | .map entries => uptoBulkEntries entries + 1
  | .held _ => 1
def uptoBulkAll {H : Type} : List (DataW H) → Nat
  | [] => 0
  | d :: r => uptoBulk d + uptoBulkAll r
def uptoBulkEntries {H : Type} : List (Lit × DataW H) → Nat
  | [] => 0
  | x :: r => uptoBulkEntry x + uptoBulkEntries r
def uptoBulkEntry {H : Type} : Lit × DataW H → Nat
  | (.string bytes, d) => bytes.length + uptoBulk d + 1
  | (_, d) => uptoBulk d + 1
 end
def uptoSmall : (H : Type) → List (DataW H) → Bool := fun _ ds => decide (uptoBulkAll ds ≤ 1048576)
def OpenSpec.upto (s : _root_.Go.ChangeSpec) : _root_.Go.OpenSpec := { _root_.Go.OpenSpec.ofChange s with cond := some uptoSmall }

/-- 'truglaw10.FrameWraps', WHERE WHAT IT READS IS OF BULK AT MOST 1048576: true; the input reads as it did. -/
def frameWrapsUptoRow : OpenClaim := { program := "ytchncgniiohgdaadoor", sum := "eae018100e2b5baaf748a83b4ae993e275eea7f15eea7dd867ecd0ebac420493", func := "trug/truglaw10.FrameWraps", spec := "frameWraps", named := ["trug/crc.half"], apart := false, laid := [("trug/crc.half", laid_trug_crc_half)], narrowed := true }
def FrameWrapsUptoSaid : Prop := frameWrapsUptoRow.holds Tryd.pinned (OpenSpec.upto frameWrapsSpec)

/-- 'truglaw10.FrameFirst', WHERE WHAT IT READS IS OF BULK AT MOST 1048576: true; the input reads as it did. -/
def frameFirstUptoRow : OpenClaim := { program := "ytchncgniiohgdaadoor", sum := "eae018100e2b5baaf748a83b4ae993e275eea7f15eea7dd867ecd0ebac420493", func := "trug/truglaw10.FrameFirst", spec := "frameFirst", named := ["trug/crc.half"], apart := false, laid := [("trug/crc.half", laid_trug_crc_half)], narrowed := true }
def FrameFirstUptoSaid : Prop := frameFirstUptoRow.holds Tryd.pinned (OpenSpec.upto frameFirstSpec)

/-- 'truglaw10.FrameBack', WHERE WHAT IT READS IS OF BULK AT MOST 1048576: true; the input reads as it did. -/
def frameBackUptoRow : OpenClaim := { program := "ytchncgniiohgdaadoor", sum := "eae018100e2b5baaf748a83b4ae993e275eea7f15eea7dd867ecd0ebac420493", func := "trug/truglaw10.FrameBack", spec := "frameBack", named := ["trug/crc.half"], apart := false, laid := [("trug/crc.half", laid_trug_crc_half)], narrowed := true }
def FrameBackUptoSaid : Prop := frameBackUptoRow.holds Tryd.pinned (OpenSpec.upto frameBackSpec)

/-- 'truglaw10.FrameSizes', WHERE WHAT IT READS IS OF BULK AT MOST 1048576: true; the input reads as it did. -/
def frameSizesUptoRow : OpenClaim := { program := "ytchncgniiohgdaadoor", sum := "eae018100e2b5baaf748a83b4ae993e275eea7f15eea7dd867ecd0ebac420493", func := "trug/truglaw10.FrameSizes", spec := "frameSizes", named := ["trug/crc.half"], apart := false, laid := [("trug/crc.half", laid_trug_crc_half)], narrowed := true }
def FrameSizesUptoSaid : Prop := frameSizesUptoRow.holds Tryd.pinned (OpenSpec.upto frameSizesSpec)

/-- 'truglaw10.FrameJoin', WHERE WHAT IT READS IS OF BULK AT MOST 1048576: true; the input reads as it did. -/
def frameJoinUptoRow : OpenClaim := { program := "ytchncgniiohgdaadoor", sum := "eae018100e2b5baaf748a83b4ae993e275eea7f15eea7dd867ecd0ebac420493", func := "trug/truglaw10.FrameJoin", spec := "frameJoin", named := ["trug/crc.half"], apart := false, laid := [("trug/crc.half", laid_trug_crc_half)], narrowed := true }
def FrameJoinUptoSaid : Prop := frameJoinUptoRow.holds Tryd.pinned (OpenSpec.upto frameJoinSpec)

end Rows
end Go.Proofs.YtchncgniiohgdaaDoor
