/- Drawn regions: texts compared. -/
import Derived.Test.YthhklkpkhaibcaaDoorSlZero
set_option linter.unusedVariables false
set_option linter.unusedSimpArgs false
namespace Go.Sl
open Go.RowKit
section
variable {r : Option Nat} {P : Program} {T : List (Nat × TI)} {l : List Oper} {eff : List Nat} {K : Act → World → Prop} {Cs : List (Nat × (World → Prop))} {plan : List Nat} {listed : Array Bool} {w : World} {n : Nat} {s : List (Nat × Value)} {τ : Nat → Value} {ds : List Deferred}
  {ty : TypeId} {ps : String} {af : Array Edge} {d i : Nat} {gd : Option (Nat × Bool)} {t yt : TypeId} {x y : Operand} {p q : ByteArray} {a b : List UInt8}
theorem DP_strNe (heff : eff.contains i = false) (hi : getA l i = some ⟨some d, .binOp .neq t x y yt, ty, ps, af, gd⟩) (hg : gdOK s n l gd) (hx : EVO n s x = some (.string p)) (hy : EVO n s y = some (.string q)) (hp : p.data.toList = a) (hq : q.data.toList = b) (ht : ¬ a = b → DP r P l eff K Cs plan (listed.setIfInBounds i true) (FR n ((d, .bool true) :: s) τ ds) w)
    (hf : a = b → DP r P l eff K Cs plan (listed.setIfInBounds i true) (FR n ((d, .bool false) :: s) τ ds) w) : DP r P l eff K Cs (i :: plan) listed (FR n s τ ds) w := by
  rw [toList_of hp] at hx
  rw [toList_of hq] at hy
  refine DP_cmp (p := ¬ (⟨a.toArray⟩ : ByteArray) = ⟨b.toArray⟩) heff hi hg ?_ (fun h => ht fun e => h (sv_inj.2 e)) (fun h => hf (sv_inj.1 (Decidable.not_not.1 h)))
  simp [evalCmp, hx, hy, intOf2, strOf2, cmpS]
theorem DP_strEq (heff : eff.contains i = false) (hi : getA l i = some ⟨some d, .binOp .eql t x y yt, ty, ps, af, gd⟩) (hg : gdOK s n l gd) (hx : EVO n s x = some (.string p)) (hy : EVO n s y = some (.string q)) (hp : p.data.toList = a) (hq : q.data.toList = b) (ht : a = b → DP r P l eff K Cs plan (listed.setIfInBounds i true) (FR n ((d, .bool true) :: s) τ ds) w)
    (hf : ¬ a = b → DP r P l eff K Cs plan (listed.setIfInBounds i true) (FR n ((d, .bool false) :: s) τ ds) w) : DP r P l eff K Cs (i :: plan) listed (FR n s τ ds) w := by
  rw [toList_of hp] at hx
  rw [toList_of hq] at hy
  refine DP_cmp (p := (⟨a.toArray⟩ : ByteArray) = ⟨b.toArray⟩) heff hi hg ?_ (fun h => ht (sv_inj.1 h)) (fun h => hf fun e => h (sv_inj.2 e))
  simp [evalCmp, hx, hy, intOf2, strOf2, cmpS]
theorem DP_strLt (heff : eff.contains i = false) (hi : getA l i = some ⟨some d, .binOp .lss t x y yt, ty, ps, af, gd⟩) (hg : gdOK s n l gd) (hx : EVO n s x = some (.string p)) (hy : EVO n s y = some (.string q)) (hp : p.data.toList = a) (hq : q.data.toList = b) (ht : a < b → DP r P l eff K Cs plan (listed.setIfInBounds i true) (FR n ((d, .bool true) :: s) τ ds) w)
    (hf : ¬ a < b → DP r P l eff K Cs plan (listed.setIfInBounds i true) (FR n ((d, .bool false) :: s) τ ds) w) : DP r P l eff K Cs (i :: plan) listed (FR n s τ ds) w := by
  rw [toList_of hp] at hx
  rw [toList_of hq] at hy
  refine DP_cmp (p := a < b) heff hi hg ?_ ht hf
  simp [evalCmp, hx, hy, intOf2, strOf2, cmpS, bytesLess_eq, ByteArray.toList_eq]
end
end Go.Sl
