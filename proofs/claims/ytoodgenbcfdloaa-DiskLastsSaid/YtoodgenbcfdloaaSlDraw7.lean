/- Drawn regions without a plan: a variable of several cells read. -/
import Derived.Test.YtoodgenbcfdloaaSlDraw6
import Derived.Test.YtoodgenbcfdloaaSlDraw5
set_option linter.unusedVariables false
set_option linter.unusedSimpArgs false
namespace Go.Sl
open Go.RowKit
section
variable {r : Option Nat} {P : Program} {T : List (Nat × TI)} {l : List Oper} {eff : List Nat} {K : Act → World → Prop} {Cs : List (Nat × (World → Prop))} {fuel : Nat} {listed : Array Bool} {w : World} {n : Nat} {s : List (Nat × Value)} {τ : Nat → Value} {ds : List Deferred} {ty : TypeId} {ps : String} {af : Array Edge} {d i : Nat} {plan : List Nat} {W : World} {L : List HProp}
theorem DY_loadCA (j : Nat) (ws : List Value) {x : Operand} {t : TypeId} {ti : TI} {b o : Nat} {vs : List Value} {te : TypeId} (hs : Sat W w L) (hT : TyOK P T) (hi : getA l i = some ⟨some d, .load t x, ty, ps, af, none⟩) (hx : EVO n s x = some (.pointer (some ⟨b, o, none⟩))) (ht : lookT T t = some ti) (ha : ti.agg = true) (hj : getA L j = some (Cl b vs te)) (hfit : o + ti.size ≤ vs.length) (hw : (vs.drop o).take ti.size = ws)
    (hI : Inv l eff Cs listed w) (k : DY r P l eff K ((i, fun w' => w'.heap[b]? = some (.cells vs.toArray te (0, 0))) :: Cs) plan fuel (listed.setIfInBounds i true) (FR n ((d, .agg ws.toArray) :: s) τ ds) w) : DY r P l eff K Cs (i :: plan) fuel listed (FR n s τ ds) w := by
  rw [getA_eq] at hj
  refine DY_yield (v := .agg ws.toArray) (fun w' => w'.heap[b]? = some (.cells vs.toArray te (0, 0))) hi (YC.mk rfl fun w' hw' => ?_) (hs.at j hj).2 hI (by rw [put_FR]; exact k)
  show Sem.run P (do let v ← Instr.loadAt t ((FR n s τ ds).eval x); pure (Next.value v)) w' = _
  have hl : ws.length = ti.size := by rw [← hw, List.length_take, List.length_drop]; omega
  rw [eval_of hx, Sem.run_bind, run_loadA (hT _ _ ht) ha hl (fun q v hq => by
    simp only [World.cell?, hw', ← hw] at hq ⊢
    rw [List.getElem?_take] at hq
    split at hq
    · rw [List.getElem?_drop] at hq; simpa using hq
    · cases hq)]; rfl
end
end Go.Sl
