/- The least and the greatest of some numbers. -/
import Derived.Test.YthhklkpkhaibcaaDoorSlA
set_option linter.unusedVariables false
set_option linter.unusedSimpArgs false
namespace Go.Sl
open Go.RowKit
section
variable {r : Option Nat} {P : Program} {T : List (Nat × TI)} {ops : Array Oper} {Q : Exit → Act → World → Prop} {rest : List Oper} {n : Nat} {s : List (Nat × Value)} {τ : Nat → Value} {ds : List Deferred} {w : World}
  {ty : TypeId} {ps : String} {af : Array Edge} {d : Nat} {ts : Array TypeId}
theorem LW_max2 {x y : Operand} {k : IntKind} {a b : Int} (e : Int) (hx : EVO n s x = some (.int k a)) (hy : EVO n s y = some (.int k b)) (he : (if b > a then b else a) = e) (c : LW r P ops Q rest (FR n ((d, .int k e) :: s) τ ds) w) :
    LW r P ops Q (⟨some d, .call { callee := .builtin .max, args := #[x, y], argTypes := ts }, ty, ps, af, none⟩ :: rest) (FR n s τ ds) w := by
  refine LW_run (v := .int k e) rfl (fun c e => by cases e) ?_ (by rw [put_FR]; exact c)
  show Sem.run P (do let d ← resolve (FR n s τ ds).eval { callee := .builtin .max, args := #[x, y], argTypes := ts } ty; invoke d.target d.args) w = _
  have e1 : (#[x, y] : Array Operand).map (FR n s τ ds).eval = #[.int k a, .int k b] := by simp [eval_of hx, eval_of hy]
  subst he
  simp only [resolve, e1, Sem.run_bind, Sem.run_pure, Result.andThen, invoke, builtin, Builtin.max_, List.foldlM_cons, List.foldlM_nil, Builtin.max2]
theorem LW_min2 {x y : Operand} {k : IntKind} {a b : Int} (e : Int) (hx : EVO n s x = some (.int k a)) (hy : EVO n s y = some (.int k b)) (he : (if b < a then b else a) = e) (c : LW r P ops Q rest (FR n ((d, .int k e) :: s) τ ds) w) :
    LW r P ops Q (⟨some d, .call { callee := .builtin .min, args := #[x, y], argTypes := ts }, ty, ps, af, none⟩ :: rest) (FR n s τ ds) w := by
  refine LW_run (v := .int k e) rfl (fun c e => by cases e) ?_ (by rw [put_FR]; exact c)
  show Sem.run P (do let d ← resolve (FR n s τ ds).eval { callee := .builtin .min, args := #[x, y], argTypes := ts } ty; invoke d.target d.args) w = _
  have e1 : (#[x, y] : Array Operand).map (FR n s τ ds).eval = #[.int k a, .int k b] := by simp [eval_of hx, eval_of hy]
  subst he
  simp only [resolve, e1, Sem.run_bind, Sem.run_pure, Result.andThen, invoke, builtin, Builtin.min_, List.foldlM_cons, List.foldlM_nil, Builtin.min2]
theorem LW_min3 {x y z : Operand} {k : IntKind} {a b c : Int} (e : Int) (hx : EVO n s x = some (.int k a)) (hy : EVO n s y = some (.int k b)) (hz : EVO n s z = some (.int k c)) (he : (if c < (if b < a then b else a) then c else (if b < a then b else a)) = e) (cc : LW r P ops Q rest (FR n ((d, .int k e) :: s) τ ds) w) :
    LW r P ops Q (⟨some d, .call { callee := .builtin .min, args := #[x, y, z], argTypes := ts }, ty, ps, af, none⟩ :: rest) (FR n s τ ds) w := by
  refine LW_run (v := .int k e) rfl (fun c e => by cases e) ?_ (by rw [put_FR]; exact cc)
  show Sem.run P (do let d ← resolve (FR n s τ ds).eval { callee := .builtin .min, args := #[x, y, z], argTypes := ts } ty; invoke d.target d.args) w = _
  have e1 : (#[x, y, z] : Array Operand).map (FR n s τ ds).eval = #[.int k a, .int k b, .int k c] := by simp [eval_of hx, eval_of hy, eval_of hz]
  subst he
  simp only [resolve, e1, Sem.run_bind, Sem.run_pure, Result.andThen, invoke, builtin, Builtin.min_, List.foldlM_cons, List.foldlM_nil, Builtin.min2]
end
end Go.Sl
