/- Calls that may give up: what they return, what they give up with. -/
import Derived.Test.YtbmeafeojcgndaaDoorSlB
set_option linter.unusedVariables false
set_option linter.unusedSimpArgs false
namespace Go.Sl
open Go.RowKit

/-- What a call returns (R), or what it gives up with (X). -/
def Res (R X : Value → World → Prop) : Ending → World → Prop
  | .returned v, w => R v w
  | .panicked c, w => ∃ v, c = [{ v := v, recovered := false }] ∧ X v w
  | .outgrown, _ => False
theorem Res_of_Ret {P : Program} {g : FuncId} {args : Array Value} {w : World} {R X : Value → World → Prop} (h : Calls P g args w (Ret R)) : Calls P g args w (Res R X) :=
  h.mono fun e w' hr => by cases e <;> first | exact hr | exact hr.elim
theorem Ret_of_Res {P : Program} {g : FuncId} {args : Array Value} {w : World} {R X : Value → World → Prop} (h : Calls P g args w (Res R X)) (hx : ∀ v w', ¬ X v w') : Calls P g args w (Ret R) :=
  h.mono fun e w' hr => by
    cases e with
    | returned v => exact hr
    | panicked c => obtain ⟨v, _, h⟩ := hr; exact (hx _ _ h).elim
    | outgrown => exact hr.elim
theorem Calls.res {P : Program} {g : FuncId} {args : Array Value} {w : World} {A B X Y : Value → World → Prop} (h : Calls P g args w (Res A X)) (hab : ∀ v w', A v w' → B v w') (hxy : ∀ v w', X v w' → Y v w') : Calls P g args w (Res B Y) :=
  h.mono fun e w' hr => by
    cases e with
    | returned v => exact hab _ _ hr
    | panicked c => obtain ⟨v, e, h⟩ := hr; exact ⟨v, e, hxy _ _ h⟩
    | outgrown => exact hr.elim
/-- One entry of a chain of panics. -/
abbrev pan1 (v : Value) : List PanicEntry := [{ v := v, recovered := false }]

section results
variable {P : Program} {fn : Func} {R X : Value → World → Prop} {n : Nat} {s : List (Nat × Value)} {τ : Nat → Value} {w : World}
theorem RX0 (h : fn.results = #[]) (k : R (.tuple #[]) w) : bodyPost P fn (Res R X) .ret (FR n s τ []) w :=
  ⟨rfl, _, by simp [results, h, go_sem], k⟩
theorem RX0n (h : fn.results = #[]) (k : R (.tuple #[]) w) : bodyPost P fn (Res R X) .normal (FR n s τ []) w :=
  ⟨rfl, _, by simp [results, h, go_sem], k⟩
theorem RX1 {t : Tmp} {v : Value} (h : fn.results = #[.tmp t]) (hv : EVO n s (.tmp t) = some v) (k : R v w) : bodyPost P fn (Res R X) .ret (FR n s τ []) w :=
  ⟨rfl, v, by simp [results, h, go_sem, slot_of hv], k⟩
theorem RX2 {t u : Tmp} {v v' : Value} (h : fn.results = #[.tmp t, .tmp u]) (hv : EVO n s (.tmp t) = some v) (hv' : EVO n s (.tmp u) = some v') (k : R (.tuple #[v, v']) w) : bodyPost P fn (Res R X) .ret (FR n s τ []) w :=
  ⟨rfl, _, by simp [results, h, go_sem, slot_of hv, slot_of hv'], k⟩
theorem RXP {v : Value} (k : X v w) : bodyPost P fn (Res R X) (.panic [{ v := v, recovered := false }]) (FR n s τ []) w :=
  ⟨rfl, v, rfl, k⟩
/-- A return that is shown for Ret. -/
theorem RX_of {e : Exit} (h : bodyPost P fn (Ret R) e (FR n s τ []) w) : bodyPost P fn (Res R X) e (FR n s τ []) w := by
  cases e with
  | normal => obtain ⟨h1, v, h2, h3⟩ := h; exact ⟨h1, v, h2, h3⟩
  | ret => obtain ⟨h1, v, h2, h3⟩ := h; exact ⟨h1, v, h2, h3⟩
  | panic c => exact h.2.elim
  | outgrown => exact h.elim
  | exit i => exact h.elim
  | goto i => exact h.elim
end results

section control
variable {Q : Exit → Act → World → Prop} {a : Act} {w : World} {c : List PanicEntry}
theorem then_p {K : Act → World → Prop} (h : Q (.panic c) a w) : Exit.then K Q (.panic c) a w := h
theorem blk_p {i : Nat} (h : Q (.panic c) a w) : Exit.inBlock i Q (.panic c) a w := h
end control

section
variable {r : Option Nat} {P : Program} {T : List (Nat × TI)} {Q : Exit → Act → World → Prop} {ops : Array Oper} {n : Nat} {s : List (Nat × Value)} {τ : Nat → Value} {ds : List Deferred} {w : World} {rest : List Oper} {d : Nat} {ty : TypeId} {ps : String} {af : Array Edge}
theorem LW_callX {f : Operand} {args : Array Operand} {ts : Array TypeId} {g : FuncId} {cap : List Value} {vs : List Value} {R X : Value → World → Prop} (hf : EVO n s f = some (.func (.func g) #[] cap.toArray)) (hargs : evalL n s args.toList = some vs)
    (he : Ent P g) (hc : Calls P g (vs ++ cap).toArray w (Res R X)) (k : ∀ v w', R v w' → LW r P ops Q rest (FR n ((d, v) :: s) τ ds) w') (kx : ∀ v w', X v w' → Q (.panic [{ v := v, recovered := false }]) (FR n s τ ds) w') :
    LW r P ops Q (⟨some d, .call { callee := .value f, args := args, argTypes := ts }, ty, ps, af, none⟩ :: rest) (FR n s τ ds) w := by
  refine wpListIn_plain rfl fun K hK => ⟨fun _ _ => trivial, ?_⟩
  rw [Oper.semAt_eq _ _ _ (fun c e => by cases e), run_callv rfl hf hargs he.run]
  refine ⟨fun e => (by cases e), ?_⟩
  have : vs.toArray ++ cap.toArray = (vs ++ cap).toArray := by simp
  rw [this]
  refine (Sl.Calls.inFW hc _).mono fun e w' q => ?_
  cases e with
  | returned v => exact hK _ _ (by rw [put_FR]; exact k v w' q)
  | panicked c => obtain ⟨v, rfl, hx⟩ := q; exact kx v w' hx
  | outgrown => exact q.elim
theorem LW_callX0 {f : Operand} {args : Array Operand} {ts : Array TypeId} {g : FuncId} {cap : List Value} {vs : List Value} {R X : Value → World → Prop} (hf : EVO n s f = some (.func (.func g) #[] cap.toArray)) (hargs : evalL n s args.toList = some vs)
    (he : Ent P g) (hc : Calls P g (vs ++ cap).toArray w (Res R X)) (k : ∀ v w', R v w' → LW r P ops Q rest (FR n s τ ds) w') (kx : ∀ v w', X v w' → Q (.panic [{ v := v, recovered := false }]) (FR n s τ ds) w') :
    LW r P ops Q (⟨none, .call { callee := .value f, args := args, argTypes := ts }, ty, ps, af, none⟩ :: rest) (FR n s τ ds) w := by
  refine wpListIn_plain rfl fun K hK => ⟨fun _ _ => trivial, ?_⟩
  rw [Oper.semAt_eq _ _ _ (fun c e => by cases e), run_callv rfl hf hargs he.run]
  refine ⟨fun e => (by cases e), ?_⟩
  have : vs.toArray ++ cap.toArray = (vs ++ cap).toArray := by simp
  rw [this]
  refine (Sl.Calls.inFW hc _).mono fun e w' q => ?_
  cases e with
  | returned v => exact hK _ _ (k v w' q)
  | panicked c => obtain ⟨v, rfl, hx⟩ := q; exact kx v w' hx
  | outgrown => exact q.elim
/-- A value in an interface. -/
theorem LW_makeIface {t : TypeId} {x : Operand} {v : Value} {ti : TI} (hT : TyOK P T) (hx : EVO n s x = some v) (ht : lookT T t = some ti) (hu : (match ti.u with | .interface _ => false | _ => true) = true) (k : LW r P ops Q rest (FR n ((d, .iface t v) :: s) τ ds) w) :
    LW r P ops Q (⟨some d, .makeInterface t x, ty, ps, af, none⟩ :: rest) (FR n s τ ds) w := by
  refine LW_run (v := .iface t v) (w' := w) rfl (fun c e => by cases e) ?_ (by rw [put_FR]; exact k)
  show Sem.run P (do let v ← Instr.makeInterface t ((FR n s τ ds).eval x); pure (Next.value v)) w = _
  have h1 := ty_under (hT _ _ ht) w
  have e : (Instr.makeInterface t v).run P w = .ok (.iface t v) w := by
    unfold Instr.makeInterface
    rw [Sem.run_bind, h1]
    simp only [Result.andThen]
    generalize ti.u = u at hu
    cases u <;> first | rfl | cases hu
  rw [eval_of hx, Sem.run_bind, e]; rfl
/-- panic itself. -/
theorem LW_panic {x : Operand} {t : TypeId} {v : Value} {dst : Option Nat} (hx : EVO n s x = some (.iface t v)) (k : Q (.panic [{ v := .iface t v, recovered := false }]) (FR n s τ ds) w) :
    LW r P ops Q (⟨dst, .panic x, ty, ps, af, none⟩ :: rest) (FR n s τ ds) w := by
  refine wpListIn_plain rfl fun K hK => ⟨fun _ _ => trivial, ?_⟩
  rw [Oper.semAt_eq _ _ _ (fun c e => by cases e)]
  have : (execOp (FR n s τ ds).eval ⟨dst, .panic x, ty, ps, af, none⟩).run P w = .halt (.panic (.iface t v)) w := by
    show Sem.run P (do let v ← Instr.panic ((FR n s τ ds).eval x); pure (Next.value v)) w = _
    rw [eval_of hx, Sem.run_bind]; rfl
  rw [this]
  exact k
end
end Go.Sl
