/- Walks: the other changing calls of a disk. -/
import Derived.Test.YthhklkpkhaibcaaDoorG8
set_option linter.unusedVariables false
set_option linter.unusedSimpArgs false
namespace Go.Proofs.YthhklkpkhaibcaaDoor
open Go Go.Sl Go.RowKit
set_option maxRecDepth 100000
attribute [local irreducible] CW LW DW FR DP Calls

theorem nn {p : Prop} (h : ¬ ¬ p) : p := Classical.byContradiction h
theorem min_k (a : Nat) (k : Int) (h : 0 ≤ k) : (if k < (a : Int) then k else (a : Int)) = ((min a k.toNat : Nat) : Int) := by
  split <;> omega
end Go.Proofs.YthhklkpkhaibcaaDoor
