/-
  NARROWER THAN 'FOR EVERY INPUT', by the rows' own cells (each row's printed sentence says how): CrcSums: laid · CrcPieces: laid · CrcThree: laid · CrcTurned: laid · CrcDiffer: laid.
  DERIVED. THE GIVEN ROWS OF THIS SEAT. 5 by the template 'for every input the law returns true; each argument reads behind the call as it read before'; 0 by the template 'total and deterministic' (their statements: YthadicpjhmjkcaaDoorTotals.lean).
  GIVEN WITH THE SEED: the statements are not yours to turn. If you find one false, say at which input.
  Laid BY PROGRAM, IN A SANDBOX (cutbox-rows.mjs): the forced cells as the released guide's own fill.sh prints them over the translation 449b098b515b397d… (all of the seat's roots in one cut). By AI agents, Wed Nov 11 2026. No macro, syntax, notation, axiom, sorry.
-/
import Derived.Test.YthadicpjhmjkcaaDoorChecked
import GoSem.Claim
import GoSem.ClaimJoined
import GoSem.ClaimMapViews
import Derived.JoinedTies
import Derived.KernelRfl
namespace Go.Proofs.YthadicpjhmjkcaaDoor
/- THE CELL 'sum', in the pinned program and in every row, IS THE sha256 OF THE DUMP (.gsa) THAT YthadicpjhmjkcaaDoorProg.lean LOADS. Nothing in Lean hashes anything: it is a label: what it is worth is what the hold of that sum in a sandbox is worth. -/
noncomputable def Tryd.pinned : Pinned := { name := "ythadicpjhmjkcaadoor", sum := "449b098b515b397d54fa3e8f44e84f3f0c48119e70d06574caa82e9ec6ea0ccf", checked := Tryd.checked }
namespace Rows
def none {H : Type} : Left H := { results := [], args := [] }

/- WHAT THE LISTED PACKAGE-LEVEL VARIABLES READ AS WHEN THE CALL BEGINS. Each datum BY PROGRAM (the guide's laid-datum.mjs) off the statement by which the dump's own 'gosem.cut.vars' lays the variable. In a bare row this is a premise. The card (YthadicpjhmjkcaaDoorCards.lean) ties it to the program's text. -/
def laid_trug_crc_half {H : Type} : DataW H := .agg [.lit (.int .u32 0), .lit (.int .u32 498536548), .lit (.int .u32 997073096), .lit (.int .u32 651767980), .lit (.int .u32 1994146192), .lit (.int .u32 1802195444), .lit (.int .u32 1303535960), .lit (.int .u32 1342533948), .lit (.int .u32 3988292384), .lit (.int .u32 4027552580), .lit (.int .u32 3604390888), .lit (.int .u32 3412177804), .lit (.int .u32 2607071920), .lit (.int .u32 2262029012), .lit (.int .u32 2685067896), .lit (.int .u32 3183342108)]

/-- 'truglaw01.CrcSums': WHATEVER THE INPUT: true; the input reads as it did. -/
def crcSumsSpec : ChangeSpec := { name := "crcSums", fn := fun _ => fun
  | [d1, d2] => { results := [.lit (.bool true)], args := [d1, d2] }
  | _ => none }
def crcSumsRow : OpenClaim := { program := "ythadicpjhmjkcaadoor", sum := "449b098b515b397d54fa3e8f44e84f3f0c48119e70d06574caa82e9ec6ea0ccf", func := "trug/truglaw01.CrcSums", spec := "crcSums", named := ["trug/crc.half"], apart := false, laid := [("trug/crc.half", laid_trug_crc_half)] }
def CrcSumsSaid : Prop := crcSumsRow.holds Tryd.pinned (OpenSpec.ofChange crcSumsSpec)

/-- ITS FALSE NEIGHBOUR: 'it returns false'. Refute it at one input. -/
def crcSumsWrong : ChangeSpec := { name := "crcSums", fn := fun _ => fun
  | [d1, d2] => { results := [.lit (.bool false)], args := [d1, d2] }
  | _ => none }
def CrcSumsWrongFalsely : Prop := crcSumsRow.holds Tryd.pinned (OpenSpec.ofChange crcSumsWrong)

/-- 'truglaw01.CrcPieces': WHATEVER THE INPUT: true; the input reads as it did. -/
def crcPiecesSpec : ChangeSpec := { name := "crcPieces", fn := fun _ => fun
  | [d1, d2] => { results := [.lit (.bool true)], args := [d1, d2] }
  | _ => none }
def crcPiecesRow : OpenClaim := { program := "ythadicpjhmjkcaadoor", sum := "449b098b515b397d54fa3e8f44e84f3f0c48119e70d06574caa82e9ec6ea0ccf", func := "trug/truglaw01.CrcPieces", spec := "crcPieces", named := ["trug/crc.half"], apart := false, laid := [("trug/crc.half", laid_trug_crc_half)] }
def CrcPiecesSaid : Prop := crcPiecesRow.holds Tryd.pinned (OpenSpec.ofChange crcPiecesSpec)

/-- ITS FALSE NEIGHBOUR: 'it returns false'. Refute it at one input. -/
def crcPiecesWrong : ChangeSpec := { name := "crcPieces", fn := fun _ => fun
  | [d1, d2] => { results := [.lit (.bool false)], args := [d1, d2] }
  | _ => none }
def CrcPiecesWrongFalsely : Prop := crcPiecesRow.holds Tryd.pinned (OpenSpec.ofChange crcPiecesWrong)

/-- 'truglaw01.CrcThree': WHATEVER THE INPUT: true; the input reads as it did. -/
def crcThreeSpec : ChangeSpec := { name := "crcThree", fn := fun _ => fun
  | [d1, d2, d3] => { results := [.lit (.bool true)], args := [d1, d2, d3] }
  | _ => none }
def crcThreeRow : OpenClaim := { program := "ythadicpjhmjkcaadoor", sum := "449b098b515b397d54fa3e8f44e84f3f0c48119e70d06574caa82e9ec6ea0ccf", func := "trug/truglaw01.CrcThree", spec := "crcThree", named := ["trug/crc.half"], apart := false, laid := [("trug/crc.half", laid_trug_crc_half)] }
def CrcThreeSaid : Prop := crcThreeRow.holds Tryd.pinned (OpenSpec.ofChange crcThreeSpec)

/-- ITS FALSE NEIGHBOUR: 'it returns false'. Refute it at one input. -/
def crcThreeWrong : ChangeSpec := { name := "crcThree", fn := fun _ => fun
  | [d1, d2, d3] => { results := [.lit (.bool false)], args := [d1, d2, d3] }
  | _ => none }
def CrcThreeWrongFalsely : Prop := crcThreeRow.holds Tryd.pinned (OpenSpec.ofChange crcThreeWrong)

/-- 'truglaw01.CrcTurned': WHATEVER THE INPUT: true; the input reads as it did. -/
def crcTurnedSpec : ChangeSpec := { name := "crcTurned", fn := fun _ => fun
  | [d1, d2, d3] => { results := [.lit (.bool true)], args := [d1, d2, d3] }
  | _ => none }
def crcTurnedRow : OpenClaim := { program := "ythadicpjhmjkcaadoor", sum := "449b098b515b397d54fa3e8f44e84f3f0c48119e70d06574caa82e9ec6ea0ccf", func := "trug/truglaw01.CrcTurned", spec := "crcTurned", named := ["trug/crc.half"], apart := false, laid := [("trug/crc.half", laid_trug_crc_half)] }
def CrcTurnedSaid : Prop := crcTurnedRow.holds Tryd.pinned (OpenSpec.ofChange crcTurnedSpec)

/-- ITS FALSE NEIGHBOUR: 'it returns false'. Refute it at one input. -/
def crcTurnedWrong : ChangeSpec := { name := "crcTurned", fn := fun _ => fun
  | [d1, d2, d3] => { results := [.lit (.bool false)], args := [d1, d2, d3] }
  | _ => none }
def CrcTurnedWrongFalsely : Prop := crcTurnedRow.holds Tryd.pinned (OpenSpec.ofChange crcTurnedWrong)

/-- 'truglaw01.CrcDiffer': WHATEVER THE INPUT: true; the input reads as it did. -/
def crcDifferSpec : ChangeSpec := { name := "crcDiffer", fn := fun _ => fun
  | [d1, d2] => { results := [.lit (.bool true)], args := [d1, d2] }
  | _ => none }
def crcDifferRow : OpenClaim := { program := "ythadicpjhmjkcaadoor", sum := "449b098b515b397d54fa3e8f44e84f3f0c48119e70d06574caa82e9ec6ea0ccf", func := "trug/truglaw01.CrcDiffer", spec := "crcDiffer", named := ["trug/crc.half"], apart := false, laid := [("trug/crc.half", laid_trug_crc_half)] }
def CrcDifferSaid : Prop := crcDifferRow.holds Tryd.pinned (OpenSpec.ofChange crcDifferSpec)

/-- ITS FALSE NEIGHBOUR: 'it returns false'. Refute it at one input. -/
def crcDifferWrong : ChangeSpec := { name := "crcDiffer", fn := fun _ => fun
  | [d1, d2] => { results := [.lit (.bool false)], args := [d1, d2] }
  | _ => none }
def CrcDifferWrongFalsely : Prop := crcDifferRow.holds Tryd.pinned (OpenSpec.ofChange crcDifferWrong)

/- THE SECOND FORM. 'bulk': how many values and letters a reading holds, each counted each time it is reached (what is shared counts as often as it is met; a slice's spare places count too). A statement '..UptoSaid' is the law's where the arguments, and the package variables that the reading takes, are together of bulk at most 1048576: NARROWER than '..Said'. Prove '..Said' where nothing that the law and all that it calls make is longer than what came in: it says more and counts as full. Else prove '..UptoSaid'. A law counts once. -/
mutual
def uptoBulk {H : Type} : DataW H → Nat
  | .lit (.string bytes) => bytes.length + 1
  | .lit _ => 1
  | .nil => 1
  | .ptr d => uptoBulk d + 1
  | .slice elems spare => uptoBulkAll elems + uptoBulkAll spare + 1
  | .agg parts => uptoBulkAll parts + 1
  | .iface _ d => uptoBulk d + 1
  | .map entries => uptoBulkEntries entries + 1
  | .held _ => 1
def uptoBulkAll {H : Type} : List (DataW H) → Nat
  | [] => 0
  | d :: r => uptoBulk d + uptoBulkAll r
def uptoBulkEntries {H : Type} : List (Lit × DataW H) → Nat
  | [] => 0
  | x :: r => uptoBulkEntry x + uptoBulkEntries r
def uptoBulkEntry {H : Type} : Lit × DataW H → Nat
  | (.string bytes, d) => bytes.length + uptoBulk d + 1
  | (_, d) => uptoBulk d + 1
 end
def uptoSmall : (H : Type) → List (DataW H) → Bool := fun _ ds => decide (uptoBulkAll ds ≤ 1048576)
def OpenSpec.upto (s : _root_.Go.ChangeSpec) : _root_.Go.OpenSpec := { _root_.Go.OpenSpec.ofChange s with cond := some uptoSmall }

/-- 'truglaw01.CrcSums', WHERE WHAT IT READS IS OF BULK AT MOST 1048576: true; the input reads as it did. -/
def crcSumsUptoRow : OpenClaim := { program := "ythadicpjhmjkcaadoor", sum := "449b098b515b397d54fa3e8f44e84f3f0c48119e70d06574caa82e9ec6ea0ccf", func := "trug/truglaw01.CrcSums", spec := "crcSums", named := ["trug/crc.half"], apart := false, laid := [("trug/crc.half", laid_trug_crc_half)], narrowed := true }
def CrcSumsUptoSaid : Prop := crcSumsUptoRow.holds Tryd.pinned (OpenSpec.upto crcSumsSpec)

/-- 'truglaw01.CrcPieces', WHERE WHAT IT READS IS OF BULK AT MOST 1048576: true; the input reads as it did. -/
def crcPiecesUptoRow : OpenClaim := { program := "ythadicpjhmjkcaadoor", sum := "449b098b515b397d54fa3e8f44e84f3f0c48119e70d06574caa82e9ec6ea0ccf", func := "trug/truglaw01.CrcPieces", spec := "crcPieces", named := ["trug/crc.half"], apart := false, laid := [("trug/crc.half", laid_trug_crc_half)], narrowed := true }
def CrcPiecesUptoSaid : Prop := crcPiecesUptoRow.holds Tryd.pinned (OpenSpec.upto crcPiecesSpec)

/-- 'truglaw01.CrcThree', WHERE WHAT IT READS IS OF BULK AT MOST 1048576: true; the input reads as it did. -/
def crcThreeUptoRow : OpenClaim := { program := "ythadicpjhmjkcaadoor", sum := "449b098b515b397d54fa3e8f44e84f3f0c48119e70d06574caa82e9ec6ea0ccf", func := "trug/truglaw01.CrcThree", spec := "crcThree", named := ["trug/crc.half"], apart := false, laid := [("trug/crc.half", laid_trug_crc_half)], narrowed := true }
def CrcThreeUptoSaid : Prop := crcThreeUptoRow.holds Tryd.pinned (OpenSpec.upto crcThreeSpec)

/-- 'truglaw01.CrcTurned', WHERE WHAT IT READS IS OF BULK AT MOST 1048576: true; the input reads as it did. -/
def crcTurnedUptoRow : OpenClaim := { program := "ythadicpjhmjkcaadoor", sum := "449b098b515b397d54fa3e8f44e84f3f0c48119e70d06574caa82e9ec6ea0ccf", func := "trug/truglaw01.CrcTurned", spec := "crcTurned", named := ["trug/crc.half"], apart := false, laid := [("trug/crc.half", laid_trug_crc_half)], narrowed := true }
def CrcTurnedUptoSaid : Prop := crcTurnedUptoRow.holds Tryd.pinned (OpenSpec.upto crcTurnedSpec)

/-- 'truglaw01.CrcDiffer', WHERE WHAT IT READS IS OF BULK AT MOST 1048576: true; the input reads as it did. -/
def crcDifferUptoRow : OpenClaim := { program := "ythadicpjhmjkcaadoor", sum := "449b098b515b397d54fa3e8f44e84f3f0c48119e70d06574caa82e9ec6ea0ccf", func := "trug/truglaw01.CrcDiffer", spec := "crcDiffer", named := ["trug/crc.half"], apart := false, laid := [("trug/crc.half", laid_trug_crc_half)], narrowed := true }
def CrcDifferUptoSaid : Prop := crcDifferUptoRow.holds Tryd.pinned (OpenSpec.upto crcDifferSpec)

end Rows
end Go.Proofs.YthadicpjhmjkcaaDoor
