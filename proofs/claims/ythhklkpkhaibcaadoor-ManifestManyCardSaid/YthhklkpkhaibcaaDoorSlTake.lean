/- A list of blocks, of which some are forgotten. -/
import Derived.Test.YthhklkpkhaibcaaDoorSlB
set_option linter.unusedVariables false
set_option linter.unusedSimpArgs false
namespace Go.Sl
open Go.RowKit
section
variable {W w : World} {L : List HProp}
theorem Sat.app : ∀ {A B : List HProp}, Sat W w (A ++ B) → Sat W w B
  | [], _, h => h
  | _ :: A, _, h => Sat.app (A := A) (Sat.drop1 h)
theorem Sat.firsts (h : Sat W w L) (k : Nat) : Sat W w (L.take k) :=
  Sat.app (A := L.drop k) (h.perm (by have p := List.perm_append_comm (l₁ := L.take k) (l₂ := L.drop k); rw [List.take_append_drop] at p; exact p))
/-- The blocks at the places of a list, in its order; the others are forgotten. -/
theorem Sat.keeps (h : Sat W w L) (is : List Nat) : Sat W w ((Go.Sl.picks L is).take is.length) := (h.picks is).firsts _
end
end Go.Sl
