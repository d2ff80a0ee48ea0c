/- Walks: so many zeros. -/
import Derived.Test.YtbmeafeojcgndaaDoorV0
import Derived.Test.YtbmeafeojcgndaaDoorV45
set_option linter.unusedVariables false
set_option linter.unusedSimpArgs false
namespace Go.Proofs.YtbmeafeojcgndaaDoor
open Go Go.Sl Go.RowKit
set_option maxRecDepth 100000
attribute [local irreducible] CW LW DW FR DP Calls Res Ret
theorem zeros_call (w : World) (k : Nat) (hk : k ≤ 100000) :
    Calls Tryd.prog 23 [Value.int .i64 (k : Int)].toArray w (Ret fun v w' => v = sv (List.replicate k 48) ∧ Sat w w' []) := by
  refine Calls_of Tryd.func23 rfl 13 Tryd.ntmps23 rfl ?_
  have hs := Sat.start w
  (repeat' (first | (refine isLW ?_; first | refine LW_nil ?_ | refine LW_pure TOK rfl ?_) | (with_reducible first | refine then_n ?_ | refine CW_seq ?_ | refine CW_region ?_ | refine CW_block ?_)))
  refine CW_loop (γ := Nat) (fun g => [(0, .int .i64 (k : Int)), (3, sv (List.replicate g 48)), (4, .int .i64 (g : Int))]) (fun g w' => Sat w w' [] ∧ g ≤ k) (fun g => k - g) 0 ⟨rfl, rfl, rfl, trivial⟩ ⟨hs, Nat.zero_le _⟩ ?_
  clear hs
  rintro g τ w' ⟨hs, h1⟩
  try dsimp only
  by_cases hg : g < k
  · have e : List.replicate (g + 1) (48 : UInt8) = List.replicate g 48 ++ [48] := List.replicate_succ'
    (repeat' (first | refine LW_svCat (a := List.replicate g 48) (b := [48]) rfl rfl rfl rfl (by simp; omega) ?_ | (refine isLW ?_; first | refine LW_nil ?_ | (refine isLbin ?_; first | refine LW_i64 rfl (by omega) (by omega) ?_ | (refine LW_cmp rfl (fun _ => ?_) (fun _ => ?_) <;> try (exfalso; omega))) | refine LW_pure TOK rfl ?_) | (with_reducible first | refine then_n ?_ | refine CW_seq ?_ | refine CW_region ?_ | refine CW_block ?_ | refine CW_skip ?_ | refine blk_n ?_) | refine CW_true rfl ?_))
    exact ⟨g + 1, _, FR_forget _ ⟨rfl, by rw [e]; rfl, rfl, trivial⟩, ⟨hs, by omega⟩, by omega⟩
  · have e : g = k := by omega
    subst e
    (repeat' (first | (refine isLW ?_; first | refine LW_nil ?_ | (refine isLbin ?_; first | (refine LW_cmp rfl (fun _ => ?_) (fun _ => ?_) <;> try (exfalso; omega))) | refine LW_pure TOK rfl ?_) | (with_reducible first | refine then_n ?_ | refine CW_seq ?_ | refine CW_region ?_ | refine CW_exit ?_ | refine CW_ret ?_ | refine then_e ?_ | refine blk_same ?_) | refine CW_false rfl ?_ | refine RET1 Tryd.results23 rfl ?_))
    exact ⟨rfl, hs⟩
end Go.Proofs.YtbmeafeojcgndaaDoor
