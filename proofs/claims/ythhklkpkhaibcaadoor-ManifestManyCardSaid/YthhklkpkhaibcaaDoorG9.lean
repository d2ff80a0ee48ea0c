/- Walks: the changing calls of a disk. -/
import Derived.Test.YthhklkpkhaibcaaDoorG7
set_option linter.unusedVariables false
set_option linter.unusedSimpArgs false
namespace Go.Proofs.YthhklkpkhaibcaaDoor
open Go Go.Sl Go.RowKit
set_option maxRecDepth 100000
attribute [local irreducible] CW LW DW FR DP Calls

/-- What a call asks of the disk: its parts fit, and it is no greater than a machine. -/
structure Fit (D : DS) : Prop where
  good : Good D
  chs : D.chs.length ≤ 2199023255552
  fs : D.fs.length ≤ 2199023255552
theorem Fit.bd {D : DS} (h : Fit D) : Bd D := h.good.st.bd
theorem turn_bd {D : DS} (h : Bd D) : Bd D.turn.2 := by
  obtain ⟨e1, e2, e3, e4, e5⟩ := turn_fields D
  exact ⟨by rw [e2, e1]; exact h.now, by rw [e3, e1]; exact h.las, by rw [e4, e1]; exact h.chs⟩
theorem Sat.tail5 {W w : World} {L : List HProp} {R : Rp} {d : Nat} {D : DS} (hs : Sat W w (R.L d D ++ L)) : Sat W w L := hs.drop1.drop1.drop1.drop1.drop1
theorem fptr_0 {bs : List Nat} {x : Int × Nat} (h : x.1 = 0) : fptr bs x = ptv bs x.2 := if_pos h
theorem Fit.free {D : DS} (h : Fit D) : D.free ≤ 4194304 := by
  unfold DS.free
  have := h.good.quota
  split <;> omega
end Go.Proofs.YthhklkpkhaibcaaDoor

/- Walks: the other changing calls of a disk. -/
set_option linter.unusedVariables false
set_option linter.unusedSimpArgs false
namespace Go.Proofs.YthhklkpkhaibcaaDoor
open Go Go.Sl Go.RowKit
set_option maxRecDepth 100000
attribute [local irreducible] CW LW DW FR DP Calls

theorem nn {p : Prop} (h : ¬ ¬ p) : p := Classical.byContradiction h
theorem min_k (a : Nat) (k : Int) (h : 0 ≤ k) : (if k < (a : Int) then k else (a : Int)) = ((min a k.toNat : Nat) : Int) := by
  split <;> omega
end Go.Proofs.YthhklkpkhaibcaaDoor
