/-
  No cell of these rows narrows 'for every input' (looked for: loops, veiled, ifaces, maps, wideKeys, modest, calm, conditions, laid).
  DERIVED. THE GIVEN ROWS OF THIS SEAT. 12 by the template 'for every input the law returns true; each argument reads behind the call as it read before'; 0 by the template 'total and deterministic' (their statements: YtaofhbjlbdpjhaaTotals.lean).
  GIVEN WITH THE SEED: the statements are not yours to turn. If you find one false, say at which input.
  Laid BY PROGRAM, IN A SANDBOX (cutbox-rows.mjs): the forced cells as the released guide's own fill.sh prints them over the translation c5564c3738229ea1… (all of the seat's roots in one cut). By AI agents, Wed Nov 11 2026. No macro, syntax, notation, axiom, sorry.
-/
import Derived.Test.YtaofhbjlbdpjhaaChecked
import GoSem.Claim
import GoSem.ClaimJoined
import GoSem.ClaimMapViews
import Derived.JoinedTies
import Derived.KernelRfl
namespace Go.Proofs.Ytaofhbjlbdpjhaa
/- THE CELL 'sum', in the pinned program and in every row, IS THE sha256 OF THE DUMP (.gsa) THAT YtaofhbjlbdpjhaaProg.lean LOADS. Nothing in Lean hashes anything: it is a label: what it is worth is what the hold of that sum in a sandbox is worth. -/
noncomputable def Try.pinned : Pinned := { name := "ytaofhbjlbdpjhaa", sum := "c5564c3738229ea1b5bb01be9e7c85d21fb6bdc77e412acfa78664cce914fe48", checked := Try.checked }
namespace Rows
def none {H : Type} : Left H := { results := [], args := [] }

/-- 'annalslaw5.IndexSplits': WHATEVER THE INPUT: true; the input reads as it did. -/
def indexSplitsSpec : ChangeSpec := { name := "indexSplits", fn := fun _ => fun
  | [d1, d2] => { results := [.lit (.bool true)], args := [d1, d2] }
  | _ => none }
def indexSplitsRow : OpenClaim := { program := "ytaofhbjlbdpjhaa", sum := "c5564c3738229ea1b5bb01be9e7c85d21fb6bdc77e412acfa78664cce914fe48", func := "annals/annalslaw5.IndexSplits", spec := "indexSplits", unfollowed := true, recurses := true, apart := false }
def IndexSplitsSaid : Prop := indexSplitsRow.holds Try.pinned (OpenSpec.ofChange indexSplitsSpec)

/-- ITS FALSE NEIGHBOUR: 'it returns false'. Refute it at one input. -/
def indexSplitsWrong : ChangeSpec := { name := "indexSplits", fn := fun _ => fun
  | [d1, d2] => { results := [.lit (.bool false)], args := [d1, d2] }
  | _ => none }
def IndexSplitsWrongFalsely : Prop := indexSplitsRow.holds Try.pinned (OpenSpec.ofChange indexSplitsWrong)

/-- 'annalslaw5.IndexPlays': WHATEVER THE INPUT: true; the input reads as it did. -/
def indexPlaysSpec : ChangeSpec := { name := "indexPlays", fn := fun _ => fun
  | [d] => { results := [.lit (.bool true)], args := [d] }
  | _ => none }
def indexPlaysRow : OpenClaim := { program := "ytaofhbjlbdpjhaa", sum := "c5564c3738229ea1b5bb01be9e7c85d21fb6bdc77e412acfa78664cce914fe48", func := "annals/annalslaw5.IndexPlays", spec := "indexPlays", unfollowed := true, recurses := true, apart := false }
def IndexPlaysSaid : Prop := indexPlaysRow.holds Try.pinned (OpenSpec.ofChange indexPlaysSpec)

/-- ITS FALSE NEIGHBOUR: 'it returns false'. Refute it at one input. -/
def indexPlaysWrong : ChangeSpec := { name := "indexPlays", fn := fun _ => fun
  | [d] => { results := [.lit (.bool false)], args := [d] }
  | _ => none }
def IndexPlaysWrongFalsely : Prop := indexPlaysRow.holds Try.pinned (OpenSpec.ofChange indexPlaysWrong)

/-- 'annalslaw5.IndexTexts': WHATEVER THE INPUT: true; the input reads as it did. -/
def indexTextsSpec : ChangeSpec := { name := "indexTexts", fn := fun _ => fun
  | [d] => { results := [.lit (.bool true)], args := [d] }
  | _ => none }
def indexTextsRow : OpenClaim := { program := "ytaofhbjlbdpjhaa", sum := "c5564c3738229ea1b5bb01be9e7c85d21fb6bdc77e412acfa78664cce914fe48", func := "annals/annalslaw5.IndexTexts", spec := "indexTexts", unfollowed := true, recurses := true, apart := false }
def IndexTextsSaid : Prop := indexTextsRow.holds Try.pinned (OpenSpec.ofChange indexTextsSpec)

/-- ITS FALSE NEIGHBOUR: 'it returns false'. Refute it at one input. -/
def indexTextsWrong : ChangeSpec := { name := "indexTexts", fn := fun _ => fun
  | [d] => { results := [.lit (.bool false)], args := [d] }
  | _ => none }
def IndexTextsWrongFalsely : Prop := indexTextsRow.holds Try.pinned (OpenSpec.ofChange indexTextsWrong)

/-- 'annalslaw5.IndexWithin': WHATEVER THE INPUT: true; the input reads as it did. -/
def indexWithinSpec : ChangeSpec := { name := "indexWithin", fn := fun _ => fun
  | [d1, d2, d3, d4, d5, d6] => { results := [.lit (.bool true)], args := [d1, d2, d3, d4, d5, d6] }
  | _ => none }
def indexWithinRow : OpenClaim := { program := "ytaofhbjlbdpjhaa", sum := "c5564c3738229ea1b5bb01be9e7c85d21fb6bdc77e412acfa78664cce914fe48", func := "annals/annalslaw5.IndexWithin", spec := "indexWithin", unfollowed := true, recurses := true, apart := false }
def IndexWithinSaid : Prop := indexWithinRow.holds Try.pinned (OpenSpec.ofChange indexWithinSpec)

/-- ITS FALSE NEIGHBOUR: 'it returns false'. Refute it at one input. -/
def indexWithinWrong : ChangeSpec := { name := "indexWithin", fn := fun _ => fun
  | [d1, d2, d3, d4, d5, d6] => { results := [.lit (.bool false)], args := [d1, d2, d3, d4, d5, d6] }
  | _ => none }
def IndexWithinWrongFalsely : Prop := indexWithinRow.holds Try.pinned (OpenSpec.ofChange indexWithinWrong)

/-- 'annalslaw5.IndexWrites': WHATEVER THE INPUT: true; the input reads as it did. -/
def indexWritesSpec : ChangeSpec := { name := "indexWrites", fn := fun _ => fun
  | [d] => { results := [.lit (.bool true)], args := [d] }
  | _ => none }
def indexWritesRow : OpenClaim := { program := "ytaofhbjlbdpjhaa", sum := "c5564c3738229ea1b5bb01be9e7c85d21fb6bdc77e412acfa78664cce914fe48", func := "annals/annalslaw5.IndexWrites", spec := "indexWrites", unfollowed := true, recurses := true, apart := false }
def IndexWritesSaid : Prop := indexWritesRow.holds Try.pinned (OpenSpec.ofChange indexWritesSpec)

/-- ITS FALSE NEIGHBOUR: 'it returns false'. Refute it at one input. -/
def indexWritesWrong : ChangeSpec := { name := "indexWrites", fn := fun _ => fun
  | [d] => { results := [.lit (.bool false)], args := [d] }
  | _ => none }
def IndexWritesWrongFalsely : Prop := indexWritesRow.holds Try.pinned (OpenSpec.ofChange indexWritesWrong)

/-- 'annalslaw5.IndexReads': WHATEVER THE INPUT: true; the input reads as it did. -/
def indexReadsSpec : ChangeSpec := { name := "indexReads", fn := fun _ => fun
  | [d] => { results := [.lit (.bool true)], args := [d] }
  | _ => none }
def indexReadsRow : OpenClaim := { program := "ytaofhbjlbdpjhaa", sum := "c5564c3738229ea1b5bb01be9e7c85d21fb6bdc77e412acfa78664cce914fe48", func := "annals/annalslaw5.IndexReads", spec := "indexReads", recurses := true, apart := false }
def IndexReadsSaid : Prop := indexReadsRow.holds Try.pinned (OpenSpec.ofChange indexReadsSpec)

/-- ITS FALSE NEIGHBOUR: 'it returns false'. Refute it at one input. -/
def indexReadsWrong : ChangeSpec := { name := "indexReads", fn := fun _ => fun
  | [d] => { results := [.lit (.bool false)], args := [d] }
  | _ => none }
def IndexReadsWrongFalsely : Prop := indexReadsRow.holds Try.pinned (OpenSpec.ofChange indexReadsWrong)

/-- 'annalslaw5.IndexAgain': WHATEVER THE INPUT: true; the input reads as it did. -/
def indexAgainSpec : ChangeSpec := { name := "indexAgain", fn := fun _ => fun
  | [d1, d2] => { results := [.lit (.bool true)], args := [d1, d2] }
  | _ => none }
def indexAgainRow : OpenClaim := { program := "ytaofhbjlbdpjhaa", sum := "c5564c3738229ea1b5bb01be9e7c85d21fb6bdc77e412acfa78664cce914fe48", func := "annals/annalslaw5.IndexAgain", spec := "indexAgain", recurses := true, apart := false }
def IndexAgainSaid : Prop := indexAgainRow.holds Try.pinned (OpenSpec.ofChange indexAgainSpec)

/-- ITS FALSE NEIGHBOUR: 'it returns false'. Refute it at one input. -/
def indexAgainWrong : ChangeSpec := { name := "indexAgain", fn := fun _ => fun
  | [d1, d2] => { results := [.lit (.bool false)], args := [d1, d2] }
  | _ => none }
def IndexAgainWrongFalsely : Prop := indexAgainRow.holds Try.pinned (OpenSpec.ofChange indexAgainWrong)

/-- 'annalslaw5.IndexRound': WHATEVER THE INPUT: true; the input reads as it did. -/
def indexRoundSpec : ChangeSpec := { name := "indexRound", fn := fun _ => fun
  | [d1, d2] => { results := [.lit (.bool true)], args := [d1, d2] }
  | _ => none }
def indexRoundRow : OpenClaim := { program := "ytaofhbjlbdpjhaa", sum := "c5564c3738229ea1b5bb01be9e7c85d21fb6bdc77e412acfa78664cce914fe48", func := "annals/annalslaw5.IndexRound", spec := "indexRound", unfollowed := true, recurses := true, apart := false }
def IndexRoundSaid : Prop := indexRoundRow.holds Try.pinned (OpenSpec.ofChange indexRoundSpec)

/-- ITS FALSE NEIGHBOUR: 'it returns false'. Refute it at one input. -/
def indexRoundWrong : ChangeSpec := { name := "indexRound", fn := fun _ => fun
  | [d1, d2] => { results := [.lit (.bool false)], args := [d1, d2] }
  | _ => none }
def IndexRoundWrongFalsely : Prop := indexRoundRow.holds Try.pinned (OpenSpec.ofChange indexRoundWrong)

/-- 'annalslaw5.IndexOne': WHATEVER THE INPUT: true; the input reads as it did. -/
def indexOneSpec : ChangeSpec := { name := "indexOne", fn := fun _ => fun
  | [d] => { results := [.lit (.bool true)], args := [d] }
  | _ => none }
def indexOneRow : OpenClaim := { program := "ytaofhbjlbdpjhaa", sum := "c5564c3738229ea1b5bb01be9e7c85d21fb6bdc77e412acfa78664cce914fe48", func := "annals/annalslaw5.IndexOne", spec := "indexOne", unfollowed := true, recurses := true, apart := false }
def IndexOneSaid : Prop := indexOneRow.holds Try.pinned (OpenSpec.ofChange indexOneSpec)

/-- ITS FALSE NEIGHBOUR: 'it returns false'. Refute it at one input. -/
def indexOneWrong : ChangeSpec := { name := "indexOne", fn := fun _ => fun
  | [d] => { results := [.lit (.bool false)], args := [d] }
  | _ => none }
def IndexOneWrongFalsely : Prop := indexOneRow.holds Try.pinned (OpenSpec.ofChange indexOneWrong)

/-- 'annalslaw5.IndexDropped': WHATEVER THE INPUT: true; the input reads as it did. -/
def indexDroppedSpec : ChangeSpec := { name := "indexDropped", fn := fun _ => fun
  | [d] => { results := [.lit (.bool true)], args := [d] }
  | _ => none }
def indexDroppedRow : OpenClaim := { program := "ytaofhbjlbdpjhaa", sum := "c5564c3738229ea1b5bb01be9e7c85d21fb6bdc77e412acfa78664cce914fe48", func := "annals/annalslaw5.IndexDropped", spec := "indexDropped", unfollowed := true, recurses := true, apart := false }
def IndexDroppedSaid : Prop := indexDroppedRow.holds Try.pinned (OpenSpec.ofChange indexDroppedSpec)

/-- ITS FALSE NEIGHBOUR: 'it returns false'. Refute it at one input. -/
def indexDroppedWrong : ChangeSpec := { name := "indexDropped", fn := fun _ => fun
  | [d] => { results := [.lit (.bool false)], args := [d] }
  | _ => none }
def IndexDroppedWrongFalsely : Prop := indexDroppedRow.holds Try.pinned (OpenSpec.ofChange indexDroppedWrong)

/-- 'annalslaw5.IndexKept': WHATEVER THE INPUT: true; the input reads as it did. -/
def indexKeptSpec : ChangeSpec := { name := "indexKept", fn := fun _ => fun
  | [d] => { results := [.lit (.bool true)], args := [d] }
  | _ => none }
def indexKeptRow : OpenClaim := { program := "ytaofhbjlbdpjhaa", sum := "c5564c3738229ea1b5bb01be9e7c85d21fb6bdc77e412acfa78664cce914fe48", func := "annals/annalslaw5.IndexKept", spec := "indexKept", unfollowed := true, recurses := true, apart := false }
def IndexKeptSaid : Prop := indexKeptRow.holds Try.pinned (OpenSpec.ofChange indexKeptSpec)

/-- ITS FALSE NEIGHBOUR: 'it returns false'. Refute it at one input. -/
def indexKeptWrong : ChangeSpec := { name := "indexKept", fn := fun _ => fun
  | [d] => { results := [.lit (.bool false)], args := [d] }
  | _ => none }
def IndexKeptWrongFalsely : Prop := indexKeptRow.holds Try.pinned (OpenSpec.ofChange indexKeptWrong)

/-- 'annalslaw5.IndexMany': WHATEVER THE INPUT: true; the input reads as it did. -/
def indexManySpec : ChangeSpec := { name := "indexMany", fn := fun _ => fun
  | [d1, d2] => { results := [.lit (.bool true)], args := [d1, d2] }
  | _ => none }
def indexManyRow : OpenClaim := { program := "ytaofhbjlbdpjhaa", sum := "c5564c3738229ea1b5bb01be9e7c85d21fb6bdc77e412acfa78664cce914fe48", func := "annals/annalslaw5.IndexMany", spec := "indexMany", unfollowed := true, recurses := true, apart := false }
def IndexManySaid : Prop := indexManyRow.holds Try.pinned (OpenSpec.ofChange indexManySpec)

/-- ITS FALSE NEIGHBOUR: 'it returns false'. Refute it at one input. -/
def indexManyWrong : ChangeSpec := { name := "indexMany", fn := fun _ => fun
  | [d1, d2] => { results := [.lit (.bool false)], args := [d1, d2] }
  | _ => none }
def IndexManyWrongFalsely : Prop := indexManyRow.holds Try.pinned (OpenSpec.ofChange indexManyWrong)

/- THE SECOND FORM. 'bulk': how many values and letters a reading holds, each counted each time it is reached (what is shared counts as often as it is met; a slice's spare places count too). A statement '..UptoSaid' is the law's where the arguments, and the package variables that the reading takes, are together of bulk at most 1048576: NARROWER than '..Said'. Prove '..Said' where nothing that the law and all that it calls make is longer than what came in: it says more and counts as full. Else prove '..UptoSaid'. A law counts once. -/
mutual
def uptoBulk {H : Type} : DataW H → Nat
  | .lit (.string bytes) => bytes.length + 1
  | .lit _ => 1
  | .nil => 1
  | .ptr d => uptoBulk d + 1
  | .slice elems spare => uptoBulkAll elems + uptoBulkAll spare + 1
  | .agg parts => uptoBulkAll parts + 1
  | .iface _ d => uptoBulk d + 1
  | .map entries => uptoBulkEntries entries + 1
  | .held _ => 1
def uptoBulkAll {H : Type} : List (DataW H) → Nat
  | [] => 0
  | d :: r => uptoBulk d + uptoBulkAll r
def uptoBulkEntries {H : Type} : List (Lit × DataW H) → Nat
  | [] => 0
  | x :: r => uptoBulkEntry x + uptoBulkEntries r
def uptoBulkEntry {H : Type} : Lit × DataW H → Nat
  | (.string bytes, d) => bytes.length + uptoBulk d + 1
  | (_, d) => uptoBulk d + 1
 end
def uptoSmall : (H : Type) → List (DataW H) → Bool := fun _ ds => decide (uptoBulkAll ds ≤ 1048576)
def OpenSpec.upto (s : _root_.Go.ChangeSpec) : _root_.Go.OpenSpec := { _root_.Go.OpenSpec.ofChange s with cond := some uptoSmall }

/-- 'annalslaw5.IndexSplits', WHERE WHAT IT READS IS OF BULK AT MOST 1048576: true; the input reads as it did. -/
def indexSplitsUptoRow : OpenClaim := { program := "ytaofhbjlbdpjhaa", sum := "c5564c3738229ea1b5bb01be9e7c85d21fb6bdc77e412acfa78664cce914fe48", func := "annals/annalslaw5.IndexSplits", spec := "indexSplits", unfollowed := true, recurses := true, apart := false, narrowed := true }
def IndexSplitsUptoSaid : Prop := indexSplitsUptoRow.holds Try.pinned (OpenSpec.upto indexSplitsSpec)

/-- 'annalslaw5.IndexPlays', WHERE WHAT IT READS IS OF BULK AT MOST 1048576: true; the input reads as it did. -/
def indexPlaysUptoRow : OpenClaim := { program := "ytaofhbjlbdpjhaa", sum := "c5564c3738229ea1b5bb01be9e7c85d21fb6bdc77e412acfa78664cce914fe48", func := "annals/annalslaw5.IndexPlays", spec := "indexPlays", unfollowed := true, recurses := true, apart := false, narrowed := true }
def IndexPlaysUptoSaid : Prop := indexPlaysUptoRow.holds Try.pinned (OpenSpec.upto indexPlaysSpec)

/-- 'annalslaw5.IndexTexts', WHERE WHAT IT READS IS OF BULK AT MOST 1048576: true; the input reads as it did. -/
def indexTextsUptoRow : OpenClaim := { program := "ytaofhbjlbdpjhaa", sum := "c5564c3738229ea1b5bb01be9e7c85d21fb6bdc77e412acfa78664cce914fe48", func := "annals/annalslaw5.IndexTexts", spec := "indexTexts", unfollowed := true, recurses := true, apart := false, narrowed := true }
def IndexTextsUptoSaid : Prop := indexTextsUptoRow.holds Try.pinned (OpenSpec.upto indexTextsSpec)

/-- 'annalslaw5.IndexWithin', WHERE WHAT IT READS IS OF BULK AT MOST 1048576: true; the input reads as it did. -/
def indexWithinUptoRow : OpenClaim := { program := "ytaofhbjlbdpjhaa", sum := "c5564c3738229ea1b5bb01be9e7c85d21fb6bdc77e412acfa78664cce914fe48", func := "annals/annalslaw5.IndexWithin", spec := "indexWithin", unfollowed := true, recurses := true, apart := false, narrowed := true }
def IndexWithinUptoSaid : Prop := indexWithinUptoRow.holds Try.pinned (OpenSpec.upto indexWithinSpec)

/-- 'annalslaw5.IndexWrites', WHERE WHAT IT READS IS OF BULK AT MOST 1048576: true; the input reads as it did. -/
def indexWritesUptoRow : OpenClaim := { program := "ytaofhbjlbdpjhaa", sum := "c5564c3738229ea1b5bb01be9e7c85d21fb6bdc77e412acfa78664cce914fe48", func := "annals/annalslaw5.IndexWrites", spec := "indexWrites", unfollowed := true, recurses := true, apart := false, narrowed := true }
def IndexWritesUptoSaid : Prop := indexWritesUptoRow.holds Try.pinned (OpenSpec.upto indexWritesSpec)

/-- 'annalslaw5.IndexReads', WHERE WHAT IT READS IS OF BULK AT MOST 1048576: true; the input reads as it did. -/
def indexReadsUptoRow : OpenClaim := { program := "ytaofhbjlbdpjhaa", sum := "c5564c3738229ea1b5bb01be9e7c85d21fb6bdc77e412acfa78664cce914fe48", func := "annals/annalslaw5.IndexReads", spec := "indexReads", recurses := true, apart := false, narrowed := true }
def IndexReadsUptoSaid : Prop := indexReadsUptoRow.holds Try.pinned (OpenSpec.upto indexReadsSpec)

/-- 'annalslaw5.IndexAgain', WHERE WHAT IT READS IS OF BULK AT MOST 1048576: true; the input reads as it did. -/
def indexAgainUptoRow : OpenClaim := { program := "ytaofhbjlbdpjhaa", sum := "c5564c3738229ea1b5bb01be9e7c85d21fb6bdc77e412acfa78664cce914fe48", func := "annals/annalslaw5.IndexAgain", spec := "indexAgain", recurses := true, apart := false, narrowed := true }
def IndexAgainUptoSaid : Prop := indexAgainUptoRow.holds Try.pinned (OpenSpec.upto indexAgainSpec)

/-- 'annalslaw5.IndexRound', WHERE WHAT IT READS IS OF BULK AT MOST 1048576: true; the input reads as it did. -/
def indexRoundUptoRow : OpenClaim := { program := "ytaofhbjlbdpjhaa", sum := "c5564c3738229ea1b5bb01be9e7c85d21fb6bdc77e412acfa78664cce914fe48", func := "annals/annalslaw5.IndexRound", spec := "indexRound", unfollowed := true, recurses := true, apart := false, narrowed := true }
def IndexRoundUptoSaid : Prop := indexRoundUptoRow.holds Try.pinned (OpenSpec.upto indexRoundSpec)

/-- 'annalslaw5.IndexOne', WHERE WHAT IT READS IS OF BULK AT MOST 1048576: true; the input reads as it did. -/
def indexOneUptoRow : OpenClaim := { program := "ytaofhbjlbdpjhaa", sum := "c5564c3738229ea1b5bb01be9e7c85d21fb6bdc77e412acfa78664cce914fe48", func := "annals/annalslaw5.IndexOne", spec := "indexOne", unfollowed := true, recurses := true, apart := false, narrowed := true }
def IndexOneUptoSaid : Prop := indexOneUptoRow.holds Try.pinned (OpenSpec.upto indexOneSpec)

/-- 'annalslaw5.IndexDropped', WHERE WHAT IT READS IS OF BULK AT MOST 1048576: true; the input reads as it did. -/
def indexDroppedUptoRow : OpenClaim := { program := "ytaofhbjlbdpjhaa", sum := "c5564c3738229ea1b5bb01be9e7c85d21fb6bdc77e412acfa78664cce914fe48", func := "annals/annalslaw5.IndexDropped", spec := "indexDropped", unfollowed := true, recurses := true, apart := false, narrowed := true }
def IndexDroppedUptoSaid : Prop := indexDroppedUptoRow.holds Try.pinned (OpenSpec.upto indexDroppedSpec)

/-- 'annalslaw5.IndexKept', WHERE WHAT IT READS IS OF BULK AT MOST 1048576: true; the input reads as it did. -/
def indexKeptUptoRow : OpenClaim := { program := "ytaofhbjlbdpjhaa", sum := "c5564c3738229ea1b5bb01be9e7c85d21fb6bdc77e412acfa78664cce914fe48", func := "annals/annalslaw5.IndexKept", spec := "indexKept", unfollowed := true, recurses := true, apart := false, narrowed := true }
def IndexKeptUptoSaid : Prop := indexKeptUptoRow.holds Try.pinned (OpenSpec.upto indexKeptSpec)

/-- 'annalslaw5.IndexMany', WHERE WHAT IT READS IS OF BULK AT MOST 1048576: true; the input reads as it did. -/
def indexManyUptoRow : OpenClaim := { program := "ytaofhbjlbdpjhaa", sum := "c5564c3738229ea1b5bb01be9e7c85d21fb6bdc77e412acfa78664cce914fe48", func := "annals/annalslaw5.IndexMany", spec := "indexMany", unfollowed := true, recurses := true, apart := false, narrowed := true }
def IndexManyUptoSaid : Prop := indexManyUptoRow.holds Try.pinned (OpenSpec.upto indexManySpec)

end Rows
end Go.Proofs.Ytaofhbjlbdpjhaa
