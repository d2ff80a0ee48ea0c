/- Drawn regions: texts compared, one more way. -/
import Derived.Test.YtoodgenbcfdloaaSlText2
set_option linter.unusedVariables false
set_option linter.unusedSimpArgs false
namespace Go.Sl
open Go.RowKit
section
variable {r : Option Nat} {P : Program} {T : List (Nat × TI)} {l : List Oper} {eff : List Nat} {K : Act → World → Prop} {Cs : List (Nat × (World → Prop))} {plan : List Nat} {listed : Array Bool} {w : World} {n : Nat} {s : List (Nat × Value)} {τ : Nat → Value} {ds : List Deferred}
  {ty : TypeId} {ps : String} {af : Array Edge} {d i : Nat} {gd : Option (Nat × Bool)} {t yt : TypeId} {x y : Operand} {p q : ByteArray} {a b : List UInt8}
theorem DP_strGe (heff : eff.contains i = false) (hi : getA l i = some ⟨some d, .binOp .geq t x y yt, ty, ps, af, gd⟩) (hg : gdOK s n l gd) (hx : EVO n s x = some (.string p)) (hy : EVO n s y = some (.string q)) (hp : p.data.toList = a) (hq : q.data.toList = b) (ht : ¬ a < b → DP r P l eff K Cs plan (listed.setIfInBounds i true) (FR n ((d, .bool true) :: s) τ ds) w)
    (hf : a < b → DP r P l eff K Cs plan (listed.setIfInBounds i true) (FR n ((d, .bool false) :: s) τ ds) w) : DP r P l eff K Cs (i :: plan) listed (FR n s τ ds) w := by
  refine DP_plain (v := .bool (decide (¬ a < b))) heff hi (YC.mkD hg fun w _ => ?_) ?_
  · have e1 : (FR n s τ ds).eval x = .string p := eval_of hx
    have e2 : (FR n s τ ds).eval y = .string q := eval_of hy
    have e3 : (!Op.bytesLess p.toList q.toList) = decide (¬ a < b) := by
      rw [bytesLess_eq, ByteArray.toList_eq, ByteArray.toList_eq, hp, hq, decide_not]
    rw [← e3]
    generalize (FR n s τ ds).eval = ρ at e1 e2
    simp [execOp, e1, e2, binOp, Op.stringOp, eqGuard, go_sem]
  · rw [put_FR]
    by_cases hp : a < b
    · simp only [hp, not_true_eq_false, decide_false]; exact hf hp
    · simp only [hp, not_false_eq_true, decide_true]; exact ht hp
end
end Go.Sl
