/- Lists of assertions turned round, more. -/
import Derived.Test.YtaofhbjlbdpjhaaSlB
set_option linter.unusedVariables false
set_option linter.unusedSimpArgs false
namespace Go.Sl
open Go.RowKit
theorem Sat.back3 {W w : World} {A B C : List HProp} (h : Sat W w (B ++ (C ++ A))) : Sat W w (A ++ (B ++ C)) := by
  rw [← List.append_assoc] at h; exact Sat.rot h
theorem Sat.forTake {W w : World} {R : HProp} {A B C : List HProp} (h : Sat W w (R :: (A ++ (B ++ C)))) : Sat W w (B ++ (R :: (C ++ A))) :=
  (Sat.rot3 (A := R :: A) h).perm (List.Perm.append_left B List.perm_middle)
theorem Sat.skip {W w : World} {F G L : List HProp} (h : Sat W w (F ++ (G ++ L))) : Sat W w (F ++ L) :=
  Sat.fst (B := G) (by rw [List.append_assoc]; exact h.perm (List.Perm.append_left F List.perm_append_comm))
theorem Sat.midK {W w : World} {F K X : List HProp} (h : Sat W w (F ++ (K ++ X))) : Sat W w K := Sat.fst (Sat.rot3 h)
end Go.Sl
