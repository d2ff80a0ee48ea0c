/- A function that defers a closure which recovers. -/
import Derived.Test.YtbmeafeojcgndaaDoorSlDrawX
import Derived.RecoverIn
set_option linter.unusedVariables false
set_option linter.unusedSimpArgs false
namespace Go.Sl
open Go.RowKit
theorem Calls_ofD {P : Program} {f : FuncId} {fn : Func} {c : Code} {args : List Value} {w : World} {R : Ending → World → Prop} (hf : P.funcs[f]? = some fn) (hb : fn.body = some c) (n : Nat) (hn : fn.ntmps = n) (hle0 : Nat.ble args.length n = true)
    (h : CW none P c (bodyPostDIn (FW none) 0 P fn R) (FR n (argS 0 args) (fun _ => undef) []) w) : Calls P f args.toArray w R := by
  refine (callsIn_wide (n := 0)).1 (callsIn_of_wp_defers hf hb trivial ?_ rfl)
  rw [hn, FR_args args n (Nat.le_of_ble_eq_true hle0)]
  exact h
section
variable {P : Program} {ops : Array Oper} {Q : Exit → Act → World → Prop} {rest : List Oper} {n : Nat} {s : List (Nat × Value)} {τ : Nat → Value} {ds : List Deferred} {w : World} {ty : TypeId} {ps : String} {af : Array Edge}
theorem LW_defer {f : Operand} {g : FuncId} {cap : Array Value} (hf : EVO n s f = some (.func (.func g) #[] cap)) (k : LW none P ops Q rest (FR n s τ ({ target := .fn (.func g) cap, args := #[] } :: ds)) w) :
    LW none P ops Q (⟨none, .defer { callee := .value f, args := #[], argTypes := #[] }, ty, ps, af, none⟩ :: rest) (FR n s τ ds) w := by
  refine wpListIn_plain rfl fun K hK => ⟨fun _ _ => trivial, ?_⟩
  have e : (execOp (FR n s τ ds).eval ⟨none, .defer { callee := .value f, args := #[], argTypes := #[] }, ty, ps, af, none⟩).run P w = .ok (.defer { target := .fn (.func g) cap, args := #[] }) w := by
    have e1 := eval_of (τ := τ) (ds := ds) hf
    generalize (FR n s τ ds).eval = ρ at e1
    simp [execOp, resolve, e1, go_sem]
  have hr : (FW none).round = none := rfl
  rw [hr, Oper.semAt_none, e]
  exact hK _ _ k
variable {fn : Func} {R : Ending → World → Prop}
/-- How the function leaves: its closure is called first. -/
theorem BD_ret {g : FuncId} {cap : Array Value} (h : CallsDIn (FW none) 0 P g cap .returning w fun
      | .returned _, u', w' => LeavesIn (FW none) 0 P fn (FR n s τ [{ target := .fn (.func g) cap, args := #[] }]).tmps R [] (settle u') w'
      | .panicked chain, u', w' => LeavesIn (FW none) 0 P fn (FR n s τ [{ target := .fn (.func g) cap, args := #[] }]).tmps R [] (raised u' chain) w'
      | .outgrown, _, w' => R .outgrown w') (he : Ent P g) :
    bodyPostDIn (FW none) 0 P fn R .ret (FR n s τ [{ target := .fn (.func g) cap, args := #[] }]) w := by
  refine leavesIn_cons (f := g) (args := cap) (by simp) (by intro h; cases h) ?_ (fun _ _ => trivial) h
  simp [invoke, go_sem, he.run]
theorem BD_pan {g : FuncId} {cap : Array Value} {chain : List PanicEntry} (h : CallsDIn (FW none) 0 P g cap (.panicking chain) w fun
      | .returned _, u', w' => LeavesIn (FW none) 0 P fn (FR n s τ [{ target := .fn (.func g) cap, args := #[] }]).tmps R [] (settle u') w'
      | .panicked chain, u', w' => LeavesIn (FW none) 0 P fn (FR n s τ [{ target := .fn (.func g) cap, args := #[] }]).tmps R [] (raised u' chain) w'
      | .outgrown, _, w' => R .outgrown w') (he : Ent P g) :
    bodyPostDIn (FW none) 0 P fn R (.panic chain) (FR n s τ [{ target := .fn (.func g) cap, args := #[] }]) w := by
  refine leavesIn_cons (f := g) (args := cap) (by simp) (by intro h; cases h) ?_ (fun _ _ => trivial) h
  simp [invoke, go_sem, he.run]
/-- The closure's body. -/
theorem CallsD_of {f : FuncId} {c : Code} {args : List Value} {u : FrameMode} {R : Ending → FrameMode → World → Prop} (hf : P.funcs[f]? = some fn) (hb : fn.body = some c) (n : Nat) (hn : fn.ntmps = n) (hle0 : Nat.ble args.length n = true)
    (h : ∀ (c₀ : Frame) (cs : List Frame), c₀.mode = u → c.wpSIn (FW none) 0 P (bodyPostS P fn c₀ cs R) (FR n (argS 0 args) (fun _ => undef) []) (c₀ :: cs) w) : CallsDIn (FW none) 0 P f args.toArray u w R := by
  refine callsDIn_of_wpSIn hf hb trivial fun c₀ cs hu => ?_
  have := h c₀ cs hu
  rw [hn, FR_args args n (Nat.le_of_ble_eq_true hle0)]
  exact this
theorem BS_n {c₀ : Frame} {cs cs' : List Frame} {R : Ending → FrameMode → World → Prop} {u' : FrameMode} (h : fn.results = #[]) (hc : cs' = { c₀ with mode := u' } :: cs) (k : R (.returned (.tuple #[])) u' w) : bodyPostS P fn c₀ cs R .normal (FR n s τ []) cs' w :=
  ⟨rfl, u', hc, _, by simp [results, h, go_sem], k⟩
theorem BS_r {c₀ : Frame} {cs cs' : List Frame} {R : Ending → FrameMode → World → Prop} {u' : FrameMode} (h : fn.results = #[]) (hc : cs' = { c₀ with mode := u' } :: cs) (k : R (.returned (.tuple #[])) u' w) : bodyPostS P fn c₀ cs R .ret (FR n s τ []) cs' w :=
  ⟨rfl, u', hc, _, by simp [results, h, go_sem], k⟩
variable {QS : Exit → Act → List Frame → World → Prop} {id d d2 : Nat} {y : Code} {ty2 : TypeId} {ps2 : String} {af2 : Array Edge} {cs cs' : List Frame} {v : Value}
theorem opsS_rec {ops : Array Oper} {i : Nat} {rest : List Nat} {o : Oper} {a : Act} (ho : ops[i]? = some o) (hg : o.guard = none) (hr : (execOp a.eval o).run P w = .ok .recover w) (hcs : recoverD cs = some (v, cs')) (k : wpOpsSIn (FW none) 0 P ops QS rest (a.put o.dst v) cs' w) : wpOpsSIn (FW none) 0 P ops QS (i :: rest) a cs w := by
  unfold wpOpsSIn
  simp only [ho]
  refine ⟨fun _ _ => trivial, ?_⟩
  rw [if_pos (by simp [Region.wanted, hg]), hr]
  simp only [hcs]
  exact k
theorem opsS_rec0 {ops : Array Oper} {i : Nat} {rest : List Nat} {o : Oper} {a : Act} (ho : ops[i]? = some o) (hg : o.guard = none) (hr : (execOp a.eval o).run P w = .ok .recover w) (hcs : recoverD cs = none) (k : wpOpsSIn (FW none) 0 P ops QS rest (a.put o.dst .nilIface) cs w) : wpOpsSIn (FW none) 0 P ops QS (i :: rest) a cs w := by
  unfold wpOpsSIn
  simp only [ho]
  refine ⟨fun _ _ => trivial, ?_⟩
  rw [if_pos (by simp [Region.wanted, hg]), hr]
  simp only [hcs]
  exact k
theorem opsS_val {ops : Array Oper} {i : Nat} {rest : List Nat} {o : Oper} {a : Act} (ho : ops[i]? = some o) (hg : o.guard = none) (hr : (execOp a.eval o).run P w = .ok (.value v) w) (k : wpOpsSIn (FW none) 0 P ops QS rest (a.put o.dst v) cs w) : wpOpsSIn (FW none) 0 P ops QS (i :: rest) a cs w := by
  unfold wpOpsSIn
  simp only [ho]
  refine ⟨fun _ _ => trivial, ?_⟩
  rw [if_pos (by simp [Region.wanted, hg]), hr]
  exact k
theorem opsS_nil {ops : Array Oper} {a : Act} (k : QS .normal a cs w) : wpOpsSIn (FW none) 0 P ops QS [] a cs w := by
  unfold wpOpsSIn; exact k
theorem run_recover (ρ : Operand → Value) (dst : Option Tmp) : (execOp ρ ⟨dst, .call { callee := .builtin .recover, args := #[], argTypes := #[] }, ty, ps, af, none⟩).run P w = .ok .recover w := by
  simp [execOp, resolve, invoke, builtin, go_sem]
theorem run_assign {ds : List Deferred} (hb : Nat.blt d n = true) (dst : Option Tmp) : (execOp (FR n ((d, v) :: s) τ ds).eval ⟨dst, .assign (.tmp d), ty, ps, af, none⟩).run P w = .ok (.value v) w := by
  have h3 : EVO n ((d, v) :: s) (.tmp d) = some v := by simp [EVO, hb, lookO]
  have h4 := eval_of (τ := τ) (ds := ds) h3
  generalize (FR n ((d, v) :: s) τ ds).eval = ρ at h4
  simp [execOp, h4, go_sem]
theorem SW_recover (hcs : recoverD cs = some (v, cs')) (hb : Nat.blt d n = true) (k : CW none P y (fun e a' w' => QS e a' cs' w') (FR n ((d2, v) :: (d, v) :: s) τ []) w) :
    Code.wpSIn (FW none) 0 P (.seq (.region id [⟨some d, .call { callee := .builtin .recover, args := #[], argTypes := #[] }, ty, ps, af, none⟩, ⟨some d2, .assign (.tmp d), ty2, ps2, af2, none⟩].toArray false) y) QS (FR n s τ []) cs w := by
  refine wpSIn_seq (wpSIn_region ?_)
  show wpOpsSIn _ _ _ _ _ [0, 1] _ _ _
  refine opsS_rec rfl rfl (run_recover _ _) hcs ?_
  show wpOpsSIn _ _ _ _ _ [1] ((FR n s τ []).put (some d) v) _ _
  rw [put_FR]
  refine opsS_val rfl rfl (run_assign hb _) ?_
  show wpOpsSIn _ _ _ _ _ [] ((FR n ((d, v) :: s) τ []).put (some d2) v) _ _
  rw [put_FR]
  exact opsS_nil (wpSIn_of_wpIn rfl k)
theorem SW_recover0 (hcs : recoverD cs = none) (hb : Nat.blt d n = true) (k : CW none P y (fun e a' w' => QS e a' cs w') (FR n ((d2, .nilIface) :: (d, .nilIface) :: s) τ []) w) :
    Code.wpSIn (FW none) 0 P (.seq (.region id [⟨some d, .call { callee := .builtin .recover, args := #[], argTypes := #[] }, ty, ps, af, none⟩, ⟨some d2, .assign (.tmp d), ty2, ps2, af2, none⟩].toArray false) y) QS (FR n s τ []) cs w := by
  refine wpSIn_seq (wpSIn_region ?_)
  show wpOpsSIn _ _ _ _ _ [0, 1] _ _ _
  refine opsS_rec0 rfl rfl (run_recover _ _) hcs ?_
  show wpOpsSIn _ _ _ _ _ [1] ((FR n s τ []).put (some d) .nilIface) _ _
  rw [put_FR]
  refine opsS_val rfl rfl (run_assign hb _) ?_
  show wpOpsSIn _ _ _ _ _ [] ((FR n ((d, .nilIface) :: s) τ []).put (some d2) .nilIface) _ _
  rw [put_FR]
  exact opsS_nil (wpSIn_of_wpIn rfl k)
section
variable {r : Option Nat} {T : List (Nat × TI)} {d : Nat} {ds : List Deferred}
theorem LW_assertE {x : Operand} {a b : TypeId} {u v : Value} (hx : EVO n s x = some u) (hr : ∀ w, (Instr.typeAssert u a b true).run P w = .ok v w) (k : LW r P ops Q rest (FR n ((d, v) :: s) τ ds) w) :
    LW r P ops Q (⟨some d, .typeAssert x a b true, ty, ps, af, none⟩ :: rest) (FR n s τ ds) w := by
  refine LW_run (v := v) (w' := w) rfl (fun c e => by cases e) ?_ (by rw [put_FR]; exact k)
  show Sem.run P (do let v ← Instr.typeAssert ((FR n s τ ds).eval x) a b true; pure (Next.value v)) w = _
  rw [eval_of hx, Sem.run_bind, hr]; rfl
theorem LW_binE {x y : Operand} {t yt : TypeId} {vx vy v : Value} {bo : BinOp} (hx : EVO n s x = some vx) (hy : EVO n s y = some vy) (hg : eqGuard bo t x y vx vy = pure ()) (hb : ∀ w, (binOp bo t vx vy).run P w = .ok v w) (k : LW r P ops Q rest (FR n ((d, v) :: s) τ ds) w) :
    LW r P ops Q (⟨some d, .binOp bo t x y yt, ty, ps, af, none⟩ :: rest) (FR n s τ ds) w :=
  LW_run (v := v) (w' := w) rfl (fun c e => by cases e) (exec_bin rfl (eval_of hx) (eval_of hy) hg (hb w)) (by rw [put_FR]; exact k)
end
theorem recoverD_pan {c₀ : Frame} {older : List PanicEntry} (h : c₀.mode = .panicking ({ v := v, recovered := false } :: older)) : recoverD (c₀ :: cs) = some (v, { c₀ with mode := .panicking ({ v := v, recovered := true } :: older) } :: cs) := by
  simp [recoverD, h]
theorem recoverD_ret {c₀ : Frame} (h : c₀.mode = .returning) : recoverD (c₀ :: cs) = none := by
  simp [recoverD, h]
end
section
variable {r : Option Nat} {P : Program} {T : List (Nat × TI)} {l : List Oper} {eff : List Nat} {K : Act → World → Prop} {Cs : List (Nat × (World → Prop))} {plan : List Nat} {listed : Array Bool} {w : World} {n : Nat} {s : List (Nat × Value)} {τ : Nat → Value} {ds : List Deferred}
  {ty : TypeId} {ps : String} {af : Array Edge} {d i : Nat} {gd : Option (Nat × Bool)}
theorem DP_build {t : TypeId} {ti : TI} {fields : Array Field} {pl : List (Nat × Nat)} {parts : Array (Nat × Operand)} {pv : List (Nat × Value)} {zs : List Value} {cs : List Value} (hT : TyOK P T) (heff : eff.contains i = false) (hi : getA l i = some ⟨some d, .build t parts, ty, ps, af, gd⟩) (hg : gdOK s n l gd) (ht : lookT T t = some ti) (hu : ti.u = .struct fields) (hp : fieldPl T fields.toList = some pl)
    (he : evalParts n s parts.toList = some pv) (hz : zeroL ti.zero = some zs) (hf0 : fillF (getA pl) zs pv = some cs) (k : DP r P l eff K Cs plan (listed.setIfInBounds i true) (FR n ((d, .agg cs.toArray) :: s) τ ds) w) : DP r P l eff K Cs (i :: plan) listed (FR n s τ ds) w := by
  have hf := fillF_eq hf0
  refine DP_plain (v := .agg cs.toArray) heff hi (YC.mkD hg fun w _ => ?_) (by rw [put_FR]; exact k)
  show Sem.run P (do let v ← Instr.build t (parts.map fun (i, x) => (i, (FR n s τ ds).eval x)); pure (Next.value v)) w = _
  have e1 := evalParts_run (ρ := (FR n s τ ds).eval) (fun x v => eval_of) he
  have hz' : ∃ zs', ti.zero = .agg zs' ∧ zs'.toList = zs := by
    cases h : ti.zero with
    | agg c => rw [h] at hz; cases hz; exact ⟨c, rfl, rfl⟩
    | _ => rw [h] at hz; cases hz
  obtain ⟨zs', hz1, hz2⟩ := hz'
  rw [Sem.run_bind, run_build (cs := cs) hT ht hu ⟨zs', hz1, by rw [hz2]; simpa [e1] using hf⟩ hp]; rfl
end
end Go.Sl
