/- Two structs of two integers are held against each other. -/
import Derived.Test.YtaofhbjlbdpjhaaSlDraw2
set_option linter.unusedVariables false
set_option linter.unusedSimpArgs false
namespace Go.Sl
open Go.RowKit

structure PairEq (P : Program) (t : TypeId) : Prop where
  run : ∀ (a b c d : Int) (w : World), (Op.equalIn 10000 t (.agg #[.int .i64 a, .int .i64 b]) (.agg #[.int .i64 c, .int .i64 d])).run P w = .ok (decide (a = c ∧ b = d)) w
  gd : P.eqGuardType P.depth t = false
theorem PairEq.mk' {P : Program} {t t1 t2 : TypeId} {f1 f2 : Field} (hu : P.underlying t = some (.struct #[f1, f2])) (hs : P.stoodInHeld t = false) (hg : P.eqGuardType P.depth t = false) (h1 : f1.name ≠ "_") (h2 : f2.name ≠ "_") (ho1 : f1.offset = 0) (ho2 : f2.offset = 1)
    (ht1 : P.underlying f1.type = some (.int .i64)) (ht2 : P.underlying f2.type = some (.int .i64)) : PairEq P t := by
  refine ⟨fun a b c d w => ?_, hg⟩
  have hf : P.fieldsOf t = #[f1, f2] := by unfold Program.fieldsOf; rw [hu]
  have e : (10000 : Nat) = 9999 + 1 := rfl
  rw [e, run_equalIn_struct w 9999 t _ _ (by rw [hf]; exact hu) hs, hf]
  have a1 : ∀ w, (isAgg f1.type).run P w = .ok false w := fun w => by simp [isAgg, Sem.run_bind, run_underlying ht1, Result.andThen]
  have a2 : ∀ w, (isAgg f2.type).run P w = .ok false w := fun w => by simp [isAgg, Sem.run_bind, run_underlying ht2, Result.andThen]
  have e2 : (9999 : Nat) = 9998 + 1 := rfl
  have r1 : ∀ (x y : Int) w, (Op.equalIn 9999 f1.type (.int .i64 x) (.int .i64 y)).run P w = .ok (x == y) w := fun x y w => by rw [e2]; exact run_equalIn_int w 9998 f1.type .i64 .i64 x y ht1
  have r2 : ∀ (x y : Int) w, (Op.equalIn 9999 f2.type (.int .i64 x) (.int .i64 y)).run P w = .ok (x == y) w := fun x y w => by rw [e2]; exact run_equalIn_int w 9998 f2.type .i64 .i64 x y ht2
  simp only [Op.eqFields, h1, h2, ne_eq, not_false_eq_true, if_true, part, Sem.run_bind, a1, a2, Result.andThen, ho1, ho2]
  simp [r1, Sem.run_bind, Result.andThen]
  by_cases hac : a = c
  · simp [hac, r2, Sem.run_bind, Result.andThen]
    by_cases hbd : b = d <;> simp [hbd, a2, r2]
  · simp [hac]
section
variable {r : Option Nat} {P : Program} {ops : Array Oper} {Q : Exit → Act → World → Prop} {rest : List Oper} {l : List Oper} {eff : List Nat} {K : Act → World → Prop} {Cs : List (Nat × (World → Prop))} {plan : List Nat} {listed : Array Bool} {w : World} {n : Nat} {s : List (Nat × Value)} {τ : Nat → Value} {ds : List Deferred}
  {ty : TypeId} {ps : String} {af : Array Edge} {d' i : Nat} {gd : Option (Nat × Bool)}
theorem run_neqP {t yt : TypeId} {x y : Operand} {a b c d : Int} {ρ : Operand → Value} {o : Oper} (ho : o.op = .binOp .neq t x y yt) (hE : PairEq P t) (hx : ρ x = .agg #[.int .i64 a, .int .i64 b]) (hy : ρ y = .agg #[.int .i64 c, .int .i64 d]) (w : World) :
    (execOp ρ o).run P w = .ok (.value (.bool (decide (¬ (a = c ∧ b = d))))) w := by
  unfold execOp; rw [ho]
  show Sem.run P (do let v ← (do eqGuard .neq t x y (ρ x) (ρ y); binOp .neq t (ρ x) (ρ y)); pure (Next.value v)) w = _
  rw [hx, hy]
  simp only [Sem.run_bind, run_eqGuard_agg w .neq t x y _ _ hE.gd, Result.andThen, run_neq_struct, hE.run, Sem.run_pure]
  simp
theorem run_eqlP {t yt : TypeId} {x y : Operand} {a b c d : Int} {ρ : Operand → Value} {o : Oper} (ho : o.op = .binOp .eql t x y yt) (hE : PairEq P t) (hx : ρ x = .agg #[.int .i64 a, .int .i64 b]) (hy : ρ y = .agg #[.int .i64 c, .int .i64 d]) (w : World) :
    (execOp ρ o).run P w = .ok (.value (.bool (decide (a = c ∧ b = d)))) w := by
  unfold execOp; rw [ho]
  show Sem.run P (do let v ← (do eqGuard .eql t x y (ρ x) (ρ y); binOp .eql t (ρ x) (ρ y)); pure (Next.value v)) w = _
  rw [hx, hy]
  simp only [Sem.run_bind, run_eqGuard_agg w .eql t x y _ _ hE.gd, Result.andThen, run_eql_struct, hE.run, Sem.run_pure]
theorem DP_neqP {t yt : TypeId} {x y : Operand} {a b c d : Int} (hE : PairEq P t) (heff : eff.contains i = false) (hi : getA l i = some ⟨some d', .binOp .neq t x y yt, ty, ps, af, gd⟩) (hg : gdOK s n l gd) (hx : EVO n s x = some (.agg #[.int .i64 a, .int .i64 b])) (hy : EVO n s y = some (.agg #[.int .i64 c, .int .i64 d]))
    (ht : ¬ (a = c ∧ b = d) → DP r P l eff K Cs plan (listed.setIfInBounds i true) (FR n ((d', .bool true) :: s) τ ds) w) (hf : a = c ∧ b = d → DP r P l eff K Cs plan (listed.setIfInBounds i true) (FR n ((d', .bool false) :: s) τ ds) w) : DP r P l eff K Cs (i :: plan) listed (FR n s τ ds) w := by
  refine DP_plain (v := .bool (decide (¬ (a = c ∧ b = d)))) heff hi (YC.mkD hg fun w _ => run_neqP rfl hE (eval_of hx) (eval_of hy) w) ?_
  rw [put_FR]
  by_cases hp : a = c ∧ b = d
  · simp only [hp, not_true, decide_false, and_self]; exact hf hp
  · simp only [hp, not_false_eq_true, decide_true]; exact ht hp
theorem LW_neqP {t yt : TypeId} {x y : Operand} {a b c d : Int} (hE : PairEq P t) (hx : EVO n s x = some (.agg #[.int .i64 a, .int .i64 b])) (hy : EVO n s y = some (.agg #[.int .i64 c, .int .i64 d]))
    (ht : ¬ (a = c ∧ b = d) → LW r P ops Q rest (FR n ((d', .bool true) :: s) τ ds) w) (hf : a = c ∧ b = d → LW r P ops Q rest (FR n ((d', .bool false) :: s) τ ds) w) : LW r P ops Q (⟨some d', .binOp .neq t x y yt, ty, ps, af, none⟩ :: rest) (FR n s τ ds) w := by
  refine LW_run (v := .bool (decide (¬ (a = c ∧ b = d)))) rfl (fun c e => by cases e) (run_neqP rfl hE (eval_of hx) (eval_of hy) w) ?_
  rw [put_FR]
  by_cases hp : a = c ∧ b = d
  · simp only [hp, not_true, decide_false, and_self]; exact hf hp
  · simp only [hp, not_false_eq_true, decide_true]; exact ht hp
end
end Go.Sl
