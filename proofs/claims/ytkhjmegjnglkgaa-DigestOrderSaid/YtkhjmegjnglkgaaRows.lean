/-
  No cell of these rows narrows 'for every input' (looked for: loops, veiled, ifaces, maps, wideKeys, modest, calm, conditions, laid).
  DERIVED. THE GIVEN ROWS OF THIS SEAT. 6 by the template 'for every input the law returns true; each argument reads behind the call as it read before'; 0 by the template 'total and deterministic' (their statements: YtkhjmegjnglkgaaTotals.lean).
  GIVEN WITH THE SEED: the statements are not yours to turn. If you find one false, say at which input.
  Laid BY PROGRAM, IN A SANDBOX (cutbox-rows.mjs): the forced cells as the released guide's own fill.sh prints them over the translation d903e0ea17695d10… (all of the seat's roots in one cut). By AI agents, Wed Nov 11 2026. No macro, syntax, notation, axiom, sorry.
-/
import Derived.Test.YtkhjmegjnglkgaaChecked
import GoSem.Claim
import GoSem.ClaimJoined
import GoSem.ClaimMapViews
import Derived.JoinedTies
import Derived.KernelRfl
namespace Go.Proofs.Ytkhjmegjnglkgaa
/- THE CELL 'sum', in the pinned program and in every row, IS THE sha256 OF THE DUMP (.gsa) THAT YtkhjmegjnglkgaaProg.lean LOADS. Nothing in Lean hashes anything: it is a label: what it is worth is what the hold of that sum in a sandbox is worth. -/
noncomputable def Try.pinned : Pinned := { name := "ytkhjmegjnglkgaa", sum := "d903e0ea17695d101d554df58f9402477a7844688a38ad7b784342f4dc554f8d", checked := Try.checked }
namespace Rows
def none {H : Type} : Left H := { results := [], args := [] }

/-- 'truglaw19.DigestNeeds': WHATEVER THE INPUT: true; the input reads as it did. -/
def digestNeedsSpec : ChangeSpec := { name := "digestNeeds", fn := fun _ => fun
  | [d1, d2, d3] => { results := [.lit (.bool true)], args := [d1, d2, d3] }
  | _ => none }
def digestNeedsRow : OpenClaim := { program := "ytkhjmegjnglkgaa", sum := "d903e0ea17695d101d554df58f9402477a7844688a38ad7b784342f4dc554f8d", func := "trug/truglaw19.DigestNeeds", spec := "digestNeeds", unfollowed := true, recurses := true, apart := false }
def DigestNeedsSaid : Prop := digestNeedsRow.holds Try.pinned (OpenSpec.ofChange digestNeedsSpec)

/-- ITS FALSE NEIGHBOUR: 'it returns false'. Refute it at one input. -/
def digestNeedsWrong : ChangeSpec := { name := "digestNeeds", fn := fun _ => fun
  | [d1, d2, d3] => { results := [.lit (.bool false)], args := [d1, d2, d3] }
  | _ => none }
def DigestNeedsWrongFalsely : Prop := digestNeedsRow.holds Try.pinned (OpenSpec.ofChange digestNeedsWrong)

/-- 'truglaw19.DigestSizes': WHATEVER THE INPUT: true; the input reads as it did. -/
def digestSizesSpec : ChangeSpec := { name := "digestSizes", fn := fun _ => fun
  | [d] => { results := [.lit (.bool true)], args := [d] }
  | _ => none }
def digestSizesRow : OpenClaim := { program := "ytkhjmegjnglkgaa", sum := "d903e0ea17695d101d554df58f9402477a7844688a38ad7b784342f4dc554f8d", func := "trug/truglaw19.DigestSizes", spec := "digestSizes", unfollowed := true, recurses := true, apart := false }
def DigestSizesSaid : Prop := digestSizesRow.holds Try.pinned (OpenSpec.ofChange digestSizesSpec)

/-- ITS FALSE NEIGHBOUR: 'it returns false'. Refute it at one input. -/
def digestSizesWrong : ChangeSpec := { name := "digestSizes", fn := fun _ => fun
  | [d] => { results := [.lit (.bool false)], args := [d] }
  | _ => none }
def DigestSizesWrongFalsely : Prop := digestSizesRow.holds Try.pinned (OpenSpec.ofChange digestSizesWrong)

/-- 'truglaw19.DigestPicks': WHATEVER THE INPUT: true; the input reads as it did. -/
def digestPicksSpec : ChangeSpec := { name := "digestPicks", fn := fun _ => fun
  | [d1, d2, d3] => { results := [.lit (.bool true)], args := [d1, d2, d3] }
  | _ => none }
def digestPicksRow : OpenClaim := { program := "ytkhjmegjnglkgaa", sum := "d903e0ea17695d101d554df58f9402477a7844688a38ad7b784342f4dc554f8d", func := "trug/truglaw19.DigestPicks", spec := "digestPicks", unfollowed := true, recurses := true, apart := false }
def DigestPicksSaid : Prop := digestPicksRow.holds Try.pinned (OpenSpec.ofChange digestPicksSpec)

/-- ITS FALSE NEIGHBOUR: 'it returns false'. Refute it at one input. -/
def digestPicksWrong : ChangeSpec := { name := "digestPicks", fn := fun _ => fun
  | [d1, d2, d3] => { results := [.lit (.bool false)], args := [d1, d2, d3] }
  | _ => none }
def DigestPicksWrongFalsely : Prop := digestPicksRow.holds Try.pinned (OpenSpec.ofChange digestPicksWrong)

/-- 'truglaw19.DigestAll': WHATEVER THE INPUT: true; the input reads as it did. -/
def digestAllSpec : ChangeSpec := { name := "digestAll", fn := fun _ => fun
  | [d1, d2, d3] => { results := [.lit (.bool true)], args := [d1, d2, d3] }
  | _ => none }
def digestAllRow : OpenClaim := { program := "ytkhjmegjnglkgaa", sum := "d903e0ea17695d101d554df58f9402477a7844688a38ad7b784342f4dc554f8d", func := "trug/truglaw19.DigestAll", spec := "digestAll", unfollowed := true, recurses := true, apart := false }
def DigestAllSaid : Prop := digestAllRow.holds Try.pinned (OpenSpec.ofChange digestAllSpec)

/-- ITS FALSE NEIGHBOUR: 'it returns false'. Refute it at one input. -/
def digestAllWrong : ChangeSpec := { name := "digestAll", fn := fun _ => fun
  | [d1, d2, d3] => { results := [.lit (.bool false)], args := [d1, d2, d3] }
  | _ => none }
def DigestAllWrongFalsely : Prop := digestAllRow.holds Try.pinned (OpenSpec.ofChange digestAllWrong)

/-- 'truglaw19.DigestCounts': WHATEVER THE INPUT: true; the input reads as it did. -/
def digestCountsSpec : ChangeSpec := { name := "digestCounts", fn := fun _ => fun
  | [d1, d2] => { results := [.lit (.bool true)], args := [d1, d2] }
  | _ => none }
def digestCountsRow : OpenClaim := { program := "ytkhjmegjnglkgaa", sum := "d903e0ea17695d101d554df58f9402477a7844688a38ad7b784342f4dc554f8d", func := "trug/truglaw19.DigestCounts", spec := "digestCounts", unfollowed := true, recurses := true, apart := false }
def DigestCountsSaid : Prop := digestCountsRow.holds Try.pinned (OpenSpec.ofChange digestCountsSpec)

/-- ITS FALSE NEIGHBOUR: 'it returns false'. Refute it at one input. -/
def digestCountsWrong : ChangeSpec := { name := "digestCounts", fn := fun _ => fun
  | [d1, d2] => { results := [.lit (.bool false)], args := [d1, d2] }
  | _ => none }
def DigestCountsWrongFalsely : Prop := digestCountsRow.holds Try.pinned (OpenSpec.ofChange digestCountsWrong)

/-- 'truglaw19.DigestOrder': WHATEVER THE INPUT: true; the input reads as it did. -/
def digestOrderSpec : ChangeSpec := { name := "digestOrder", fn := fun _ => fun
  | [d1, d2, d3] => { results := [.lit (.bool true)], args := [d1, d2, d3] }
  | _ => none }
def digestOrderRow : OpenClaim := { program := "ytkhjmegjnglkgaa", sum := "d903e0ea17695d101d554df58f9402477a7844688a38ad7b784342f4dc554f8d", func := "trug/truglaw19.DigestOrder", spec := "digestOrder", unfollowed := true, recurses := true, apart := false }
def DigestOrderSaid : Prop := digestOrderRow.holds Try.pinned (OpenSpec.ofChange digestOrderSpec)

/-- ITS FALSE NEIGHBOUR: 'it returns false'. Refute it at one input. -/
def digestOrderWrong : ChangeSpec := { name := "digestOrder", fn := fun _ => fun
  | [d1, d2, d3] => { results := [.lit (.bool false)], args := [d1, d2, d3] }
  | _ => none }
def DigestOrderWrongFalsely : Prop := digestOrderRow.holds Try.pinned (OpenSpec.ofChange digestOrderWrong)

/- THE SECOND FORM. 'bulk': how many values and letters a reading holds, each counted each time it is reached (what is shared counts as often as it is met; a slice's spare places count too). A statement '..UptoSaid' is the law's where the arguments, and the package variables that the reading takes, are together of bulk at most 1048576: NARROWER than '..Said'. Prove '..Said' where nothing that the law and all that it calls make is longer than what came in: it says more and counts as full. Else prove '..UptoSaid'. A law counts once. -/
mutual
def uptoBulk {H : Type} : DataW H → Nat
  | .lit (.string bytes) => bytes.length + 1
  | .lit _ => 1
  | .nil => 1
  | .ptr d => uptoBulk d + 1
  | .slice elems spare => uptoBulkAll elems + uptoBulkAll spare + 1
  | .agg parts => uptoBulkAll parts + 1
  | .iface _ d => uptoBulk d + 1
  | .map entries => uptoBulkEntries entries + 1
  | .held _ => 1
def uptoBulkAll {H : Type} : List (DataW H) → Nat
  | [] => 0
  | d :: r => uptoBulk d + uptoBulkAll r
def uptoBulkEntries {H : Type} : List (Lit × DataW H) → Nat
  | [] => 0
  | x :: r => uptoBulkEntry x + uptoBulkEntries r
def uptoBulkEntry {H : Type} : Lit × DataW H → Nat
  | (.string bytes, d) => bytes.length + uptoBulk d + 1
  | (_, d) => uptoBulk d + 1
 end
def uptoSmall : (H : Type) → List (DataW H) → Bool := fun _ ds => decide (uptoBulkAll ds ≤ 1048576)
def OpenSpec.upto (s : _root_.Go.ChangeSpec) : _root_.Go.OpenSpec := { _root_.Go.OpenSpec.ofChange s with cond := some uptoSmall }

/-- 'truglaw19.DigestNeeds', WHERE WHAT IT READS IS OF BULK AT MOST 1048576: true; the input reads as it did. -/
def digestNeedsUptoRow : OpenClaim := { program := "ytkhjmegjnglkgaa", sum := "d903e0ea17695d101d554df58f9402477a7844688a38ad7b784342f4dc554f8d", func := "trug/truglaw19.DigestNeeds", spec := "digestNeeds", unfollowed := true, recurses := true, apart := false, narrowed := true }
def DigestNeedsUptoSaid : Prop := digestNeedsUptoRow.holds Try.pinned (OpenSpec.upto digestNeedsSpec)

/-- 'truglaw19.DigestSizes', WHERE WHAT IT READS IS OF BULK AT MOST 1048576: true; the input reads as it did. -/
def digestSizesUptoRow : OpenClaim := { program := "ytkhjmegjnglkgaa", sum := "d903e0ea17695d101d554df58f9402477a7844688a38ad7b784342f4dc554f8d", func := "trug/truglaw19.DigestSizes", spec := "digestSizes", unfollowed := true, recurses := true, apart := false, narrowed := true }
def DigestSizesUptoSaid : Prop := digestSizesUptoRow.holds Try.pinned (OpenSpec.upto digestSizesSpec)

/-- 'truglaw19.DigestPicks', WHERE WHAT IT READS IS OF BULK AT MOST 1048576: true; the input reads as it did. -/
def digestPicksUptoRow : OpenClaim := { program := "ytkhjmegjnglkgaa", sum := "d903e0ea17695d101d554df58f9402477a7844688a38ad7b784342f4dc554f8d", func := "trug/truglaw19.DigestPicks", spec := "digestPicks", unfollowed := true, recurses := true, apart := false, narrowed := true }
def DigestPicksUptoSaid : Prop := digestPicksUptoRow.holds Try.pinned (OpenSpec.upto digestPicksSpec)

/-- 'truglaw19.DigestAll', WHERE WHAT IT READS IS OF BULK AT MOST 1048576: true; the input reads as it did. -/
def digestAllUptoRow : OpenClaim := { program := "ytkhjmegjnglkgaa", sum := "d903e0ea17695d101d554df58f9402477a7844688a38ad7b784342f4dc554f8d", func := "trug/truglaw19.DigestAll", spec := "digestAll", unfollowed := true, recurses := true, apart := false, narrowed := true }
def DigestAllUptoSaid : Prop := digestAllUptoRow.holds Try.pinned (OpenSpec.upto digestAllSpec)

/-- 'truglaw19.DigestCounts', WHERE WHAT IT READS IS OF BULK AT MOST 1048576: true; the input reads as it did. -/
def digestCountsUptoRow : OpenClaim := { program := "ytkhjmegjnglkgaa", sum := "d903e0ea17695d101d554df58f9402477a7844688a38ad7b784342f4dc554f8d", func := "trug/truglaw19.DigestCounts", spec := "digestCounts", unfollowed := true, recurses := true, apart := false, narrowed := true }
def DigestCountsUptoSaid : Prop := digestCountsUptoRow.holds Try.pinned (OpenSpec.upto digestCountsSpec)

/-- 'truglaw19.DigestOrder', WHERE WHAT IT READS IS OF BULK AT MOST 1048576: true; the input reads as it did. -/
def digestOrderUptoRow : OpenClaim := { program := "ytkhjmegjnglkgaa", sum := "d903e0ea17695d101d554df58f9402477a7844688a38ad7b784342f4dc554f8d", func := "trug/truglaw19.DigestOrder", spec := "digestOrder", unfollowed := true, recurses := true, apart := false, narrowed := true }
def DigestOrderUptoSaid : Prop := digestOrderUptoRow.holds Try.pinned (OpenSpec.upto digestOrderSpec)

end Rows
end Go.Proofs.Ytkhjmegjnglkgaa
