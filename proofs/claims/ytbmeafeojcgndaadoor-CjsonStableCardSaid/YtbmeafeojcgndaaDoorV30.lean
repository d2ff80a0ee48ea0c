/- A function that defers a closure which recovers. -/
import Derived.Test.YtbmeafeojcgndaaDoorSlDrawX
import Derived.RecoverIn
import Derived.Test.YtbmeafeojcgndaaDoorV28
set_option linter.unusedVariables false
set_option linter.unusedSimpArgs false
namespace Go.Sl
open Go.RowKit
theorem Calls_ofD {P : Program} {f : FuncId} {fn : Func} {c : Code} {args : List Value} {w : World} {R : Ending → World → Prop} (hf : P.funcs[f]? = some fn) (hb : fn.body = some c) (n : Nat) (hn : fn.ntmps = n) (hle0 : Nat.ble args.length n = true)
    (h : CW none P c (bodyPostDIn (FW none) 0 P fn R) (FR n (argS 0 args) (fun _ => undef) []) w) : Calls P f args.toArray w R := by
  refine (callsIn_wide (n := 0)).1 (callsIn_of_wp_defers hf hb trivial ?_ rfl)
  rw [hn, FR_args args n (Nat.le_of_ble_eq_true hle0)]
  exact h
section
variable {P : Program} {ops : Array Oper} {Q : Exit → Act → World → Prop} {rest : List Oper} {n : Nat} {s : List (Nat × Value)} {τ : Nat → Value} {ds : List Deferred} {w : World} {ty : TypeId} {ps : String} {af : Array Edge}
theorem LW_defer {f : Operand} {g : FuncId} {cap : Array Value} (hf : EVO n s f = some (.func (.func g) #[] cap)) (k : LW none P ops Q rest (FR n s τ ({ target := .fn (.func g) cap, args := #[] } :: ds)) w) :
    LW none P ops Q (⟨none, .defer { callee := .value f, args := #[], argTypes := #[] }, ty, ps, af, none⟩ :: rest) (FR n s τ ds) w := by
  refine wpListIn_plain rfl fun K hK => ⟨fun _ _ => trivial, ?_⟩
  have e : (execOp (FR n s τ ds).eval ⟨none, .defer { callee := .value f, args := #[], argTypes := #[] }, ty, ps, af, none⟩).run P w = .ok (.defer { target := .fn (.func g) cap, args := #[] }) w := by
    have e1 := eval_of (τ := τ) (ds := ds) hf
    generalize (FR n s τ ds).eval = ρ at e1
    simp [execOp, resolve, e1, go_sem]
  have hr : (FW none).round = none := rfl
  rw [hr, Oper.semAt_none, e]
  exact hK _ _ k
variable {fn : Func} {R : Ending → World → Prop}
/-- How the function leaves: its closure is called first. -/
theorem BD_ret {g : FuncId} {cap : Array Value} (h : CallsDIn (FW none) 0 P g cap .returning w fun
      | .returned _, u', w' => LeavesIn (FW none) 0 P fn (FR n s τ [{ target := .fn (.func g) cap, args := #[] }]).tmps R [] (settle u') w'
      | .panicked chain, u', w' => LeavesIn (FW none) 0 P fn (FR n s τ [{ target := .fn (.func g) cap, args := #[] }]).tmps R [] (raised u' chain) w'
      | .outgrown, _, w' => R .outgrown w') (he : Ent P g) :
    bodyPostDIn (FW none) 0 P fn R .ret (FR n s τ [{ target := .fn (.func g) cap, args := #[] }]) w := by
  refine leavesIn_cons (f := g) (args := cap) (by simp) (by intro h; cases h) ?_ (fun _ _ => trivial) h
  simp [invoke, go_sem, he.run]
theorem BD_pan {g : FuncId} {cap : Array Value} {chain : List PanicEntry} (h : CallsDIn (FW none) 0 P g cap (.panicking chain) w fun
      | .returned _, u', w' => LeavesIn (FW none) 0 P fn (FR n s τ [{ target := .fn (.func g) cap, args := #[] }]).tmps R [] (settle u') w'
      | .panicked chain, u', w' => LeavesIn (FW none) 0 P fn (FR n s τ [{ target := .fn (.func g) cap, args := #[] }]).tmps R [] (raised u' chain) w'
      | .outgrown, _, w' => R .outgrown w') (he : Ent P g) :
    bodyPostDIn (FW none) 0 P fn R (.panic chain) (FR n s τ [{ target := .fn (.func g) cap, args := #[] }]) w := by
  refine leavesIn_cons (f := g) (args := cap) (by simp) (by intro h; cases h) ?_ (fun _ _ => trivial) h
  simp [invoke, go_sem, he.run]
/-- The closure's body. -/
theorem CallsD_of {f : FuncId} {c : Code} {args : List Value} {u : FrameMode} {R : Ending → FrameMode → World → Prop} (hf : P.funcs[f]? = some fn) (hb : fn.body = some c) (n : Nat) (hn : fn.ntmps = n) (hle0 : Nat.ble args.length n = true)
    (h : ∀ (c₀ : Frame) (cs : List Frame), c₀.mode = u → c.wpSIn (FW none) 0 P (bodyPostS P fn c₀ cs R) (FR n (argS 0 args) (fun _ => undef) []) (c₀ :: cs) w) : CallsDIn (FW none) 0 P f args.toArray u w R := by
  refine callsDIn_of_wpSIn hf hb trivial fun c₀ cs hu => ?_
  have := h c₀ cs hu
  rw [hn, FR_args args n (Nat.le_of_ble_eq_true hle0)]
  exact this
theorem BS_n {c₀ : Frame} {cs cs' : List Frame} {R : Ending → FrameMode → World → Prop} {u' : FrameMode} (h : fn.results = #[]) (hc : cs' = { c₀ with mode := u' } :: cs) (k : R (.returned (.tuple #[])) u' w) : bodyPostS P fn c₀ cs R .normal (FR n s τ []) cs' w :=
  ⟨rfl, u', hc, _, by simp [results, h, go_sem], k⟩
theorem BS_r {c₀ : Frame} {cs cs' : List Frame} {R : Ending → FrameMode → World → Prop} {u' : FrameMode} (h : fn.results = #[]) (hc : cs' = { c₀ with mode := u' } :: cs) (k : R (.returned (.tuple #[])) u' w) : bodyPostS P fn c₀ cs R .ret (FR n s τ []) cs' w :=
  ⟨rfl, u', hc, _, by simp [results, h, go_sem], k⟩
variable {QS : Exit → Act → List Frame → World → Prop} {id d d2 : Nat} {y : Code} {ty2 : TypeId} {ps2 : String} {af2 : Array Edge} {cs cs' : List Frame} {v : Value}
theorem opsS_rec {ops : Array Oper} {i : Nat} {rest : List Nat} {o : Oper} {a : Act} (ho : ops[i]? = some o) (hg : o.guard = none) (hr : (execOp a.eval o).run P w = .ok .recover w) (hcs : recoverD cs = some (v, cs')) (k : wpOpsSIn (FW none) 0 P ops QS rest (a.put o.dst v) cs' w) : wpOpsSIn (FW none) 0 P ops QS (i :: rest) a cs w := by
  unfold wpOpsSIn
  simp only [ho]
  refine ⟨fun _ _ => trivial, ?_⟩
  rw [if_pos (by simp [Region.wanted, hg]), hr]
  simp only [hcs]
  exact k
theorem opsS_rec0 {ops : Array Oper} {i : Nat} {rest : List Nat} {o : Oper} {a : Act} (ho : ops[i]? = some o) (hg : o.guard = none) (hr : (execOp a.eval o).run P w = .ok .recover w) (hcs : recoverD cs = none) (k : wpOpsSIn (FW none) 0 P ops QS rest (a.put o.dst .nilIface) cs w) : wpOpsSIn (FW none) 0 P ops QS (i :: rest) a cs w := by
  unfold wpOpsSIn
  simp only [ho]
  refine ⟨fun _ _ => trivial, ?_⟩
  rw [if_pos (by simp [Region.wanted, hg]), hr]
  simp only [hcs]
  exact k
theorem opsS_val {ops : Array Oper} {i : Nat} {rest : List Nat} {o : Oper} {a : Act} (ho : ops[i]? = some o) (hg : o.guard = none) (hr : (execOp a.eval o).run P w = .ok (.value v) w) (k : wpOpsSIn (FW none) 0 P ops QS rest (a.put o.dst v) cs w) : wpOpsSIn (FW none) 0 P ops QS (i :: rest) a cs w := by
  unfold wpOpsSIn
  simp only [ho]
  refine ⟨fun _ _ => trivial, ?_⟩
  rw [if_pos (by simp [Region.wanted, hg]), hr]
  exact k
theorem opsS_nil {ops : Array Oper} {a : Act} (k : QS .normal a cs w) : wpOpsSIn (FW none) 0 P ops QS [] a cs w := by
  unfold wpOpsSIn; exact k
theorem run_recover (ρ : Operand → Value) (dst : Option Tmp) : (execOp ρ ⟨dst, .call { callee := .builtin .recover, args := #[], argTypes := #[] }, ty, ps, af, none⟩).run P w = .ok .recover w := by
  simp [execOp, resolve, invoke, builtin, go_sem]
theorem run_assign {ds : List Deferred} (hb : Nat.blt d n = true) (dst : Option Tmp) : (execOp (FR n ((d, v) :: s) τ ds).eval ⟨dst, .assign (.tmp d), ty, ps, af, none⟩).run P w = .ok (.value v) w := by
  have h3 : EVO n ((d, v) :: s) (.tmp d) = some v := by simp [EVO, hb, lookO]
  have h4 := eval_of (τ := τ) (ds := ds) h3
  generalize (FR n ((d, v) :: s) τ ds).eval = ρ at h4
  simp [execOp, h4, go_sem]
theorem SW_recover (hcs : recoverD cs = some (v, cs')) (hb : Nat.blt d n = true) (k : CW none P y (fun e a' w' => QS e a' cs' w') (FR n ((d2, v) :: (d, v) :: s) τ []) w) :
    Code.wpSIn (FW none) 0 P (.seq (.region id [⟨some d, .call { callee := .builtin .recover, args := #[], argTypes := #[] }, ty, ps, af, none⟩, ⟨some d2, .assign (.tmp d), ty2, ps2, af2, none⟩].toArray false) y) QS (FR n s τ []) cs w := by
  refine wpSIn_seq (wpSIn_region ?_)
  show wpOpsSIn _ _ _ _ _ [0, 1] _ _ _
  refine opsS_rec rfl rfl (run_recover _ _) hcs ?_
  show wpOpsSIn _ _ _ _ _ [1] ((FR n s τ []).put (some d) v) _ _
  rw [put_FR]
  refine opsS_val rfl rfl (run_assign hb _) ?_
  show wpOpsSIn _ _ _ _ _ [] ((FR n ((d, v) :: s) τ []).put (some d2) v) _ _
  rw [put_FR]
  exact opsS_nil (wpSIn_of_wpIn rfl k)
theorem SW_recover0 (hcs : recoverD cs = none) (hb : Nat.blt d n = true) (k : CW none P y (fun e a' w' => QS e a' cs w') (FR n ((d2, .nilIface) :: (d, .nilIface) :: s) τ []) w) :
    Code.wpSIn (FW none) 0 P (.seq (.region id [⟨some d, .call { callee := .builtin .recover, args := #[], argTypes := #[] }, ty, ps, af, none⟩, ⟨some d2, .assign (.tmp d), ty2, ps2, af2, none⟩].toArray false) y) QS (FR n s τ []) cs w := by
  refine wpSIn_seq (wpSIn_region ?_)
  show wpOpsSIn _ _ _ _ _ [0, 1] _ _ _
  refine opsS_rec0 rfl rfl (run_recover _ _) hcs ?_
  show wpOpsSIn _ _ _ _ _ [1] ((FR n s τ []).put (some d) .nilIface) _ _
  rw [put_FR]
  refine opsS_val rfl rfl (run_assign hb _) ?_
  show wpOpsSIn _ _ _ _ _ [] ((FR n ((d, .nilIface) :: s) τ []).put (some d2) .nilIface) _ _
  rw [put_FR]
  exact opsS_nil (wpSIn_of_wpIn rfl k)
section
variable {r : Option Nat} {T : List (Nat × TI)} {d : Nat} {ds : List Deferred}
theorem LW_assertE {x : Operand} {a b : TypeId} {u v : Value} (hx : EVO n s x = some u) (hr : ∀ w, (Instr.typeAssert u a b true).run P w = .ok v w) (k : LW r P ops Q rest (FR n ((d, v) :: s) τ ds) w) :
    LW r P ops Q (⟨some d, .typeAssert x a b true, ty, ps, af, none⟩ :: rest) (FR n s τ ds) w := by
  refine LW_run (v := v) (w' := w) rfl (fun c e => by cases e) ?_ (by rw [put_FR]; exact k)
  show Sem.run P (do let v ← Instr.typeAssert ((FR n s τ ds).eval x) a b true; pure (Next.value v)) w = _
  rw [eval_of hx, Sem.run_bind, hr]; rfl
theorem LW_binE {x y : Operand} {t yt : TypeId} {vx vy v : Value} {bo : BinOp} (hx : EVO n s x = some vx) (hy : EVO n s y = some vy) (hg : eqGuard bo t x y vx vy = pure ()) (hb : ∀ w, (binOp bo t vx vy).run P w = .ok v w) (k : LW r P ops Q rest (FR n ((d, v) :: s) τ ds) w) :
    LW r P ops Q (⟨some d, .binOp bo t x y yt, ty, ps, af, none⟩ :: rest) (FR n s τ ds) w :=
  LW_run (v := v) (w' := w) rfl (fun c e => by cases e) (exec_bin rfl (eval_of hx) (eval_of hy) hg (hb w)) (by rw [put_FR]; exact k)
end
theorem recoverD_pan {c₀ : Frame} {older : List PanicEntry} (h : c₀.mode = .panicking ({ v := v, recovered := false } :: older)) : recoverD (c₀ :: cs) = some (v, { c₀ with mode := .panicking ({ v := v, recovered := true } :: older) } :: cs) := by
  simp [recoverD, h]
theorem recoverD_ret {c₀ : Frame} (h : c₀.mode = .returning) : recoverD (c₀ :: cs) = none := by
  simp [recoverD, h]
end
section
variable {r : Option Nat} {P : Program} {T : List (Nat × TI)} {l : List Oper} {eff : List Nat} {K : Act → World → Prop} {Cs : List (Nat × (World → Prop))} {plan : List Nat} {listed : Array Bool} {w : World} {n : Nat} {s : List (Nat × Value)} {τ : Nat → Value} {ds : List Deferred}
  {ty : TypeId} {ps : String} {af : Array Edge} {d i : Nat} {gd : Option (Nat × Bool)}
theorem DP_build {t : TypeId} {ti : TI} {fields : Array Field} {pl : List (Nat × Nat)} {parts : Array (Nat × Operand)} {pv : List (Nat × Value)} {zs : List Value} {cs : List Value} (hT : TyOK P T) (heff : eff.contains i = false) (hi : getA l i = some ⟨some d, .build t parts, ty, ps, af, gd⟩) (hg : gdOK s n l gd) (ht : lookT T t = some ti) (hu : ti.u = .struct fields) (hp : fieldPl T fields.toList = some pl)
    (he : evalParts n s parts.toList = some pv) (hz : zeroL ti.zero = some zs) (hf0 : fillF (getA pl) zs pv = some cs) (k : DP r P l eff K Cs plan (listed.setIfInBounds i true) (FR n ((d, .agg cs.toArray) :: s) τ ds) w) : DP r P l eff K Cs (i :: plan) listed (FR n s τ ds) w := by
  have hf := fillF_eq hf0
  refine DP_plain (v := .agg cs.toArray) heff hi (YC.mkD hg fun w _ => ?_) (by rw [put_FR]; exact k)
  show Sem.run P (do let v ← Instr.build t (parts.map fun (i, x) => (i, (FR n s τ ds).eval x)); pure (Next.value v)) w = _
  have e1 := evalParts_run (ρ := (FR n s τ ds).eval) (fun x v => eval_of) he
  have hz' : ∃ zs', ti.zero = .agg zs' ∧ zs'.toList = zs := by
    cases h : ti.zero with
    | agg c => rw [h] at hz; cases hz; exact ⟨c, rfl, rfl⟩
    | _ => rw [h] at hz; cases hz
  obtain ⟨zs', hz1, hz2⟩ := hz'
  rw [Sem.run_bind, run_build (cs := cs) hT ht hu ⟨zs', hz1, by rw [hz2]; simpa [e1] using hf⟩ hp]; rfl
end
end Go.Sl

/- Walks: what catches the reader that gave up. -/
set_option linter.unusedVariables false
set_option linter.unusedSimpArgs false
namespace Go.Proofs.YtbmeafeojcgndaaDoor
open Go Go.Sl Go.RowKit
set_option maxRecDepth 100000
theorem assert53 (v : Value) (w : World) : (Instr.typeAssert (.iface 53 v) 20 53 true).run Tryd.prog w = .ok (.tuple #[v, .bool true]) w := by kernel_rfl
theorem neNil (v : Value) (w : World) : (binOp .eql 20 (.iface 53 v) .nilIface).run Tryd.prog w = .ok (.bool false) w := by kernel_rfl
theorem eqNil (w : World) : (binOp .eql 20 .nilIface .nilIface).run Tryd.prog w = .ok (.bool true) w := by kernel_rfl
theorem one2 (a b : Int) : ∀ u ∈ [Value.int .i64 a, .int .i64 b], u.oneCell' = true := fun u h => by
  simp only [List.mem_cons, List.not_mem_nil, or_false] at h
  rcases h with rfl | rfl <;> rfl
attribute [local irreducible] CW LW DW FR DP Calls Res Ret
section
variable {W : World} {b2 b3 b4 : Nat} {L : List HProp}
theorem catch_pan (w : World) (e : Er) (v0 v1 v2 v3 v4 v5 v6 : Value) (hs : Sat W w (Cl b2 [v0, v1, v2, v3, v4] 31 :: Cl b3 [v5] 32 :: Cl b4 [v6] 3 :: L)) :
    CallsDIn (FW none) 0 Tryd.prog 24 [Value.pointer (some ⟨b2, 0, none⟩), .pointer (some ⟨b3, 0, none⟩), .pointer (some ⟨b4, 0, none⟩)].toArray (.panicking [{ v := stopV e, recovered := false }]) w fun en u' w' =>
      en = .returned (.tuple #[]) ∧ u' = .panicking [{ v := stopV e, recovered := true }] ∧ Sat W w' (Cl b2 [.int .i64 0, .int .i64 0, sv [], .slice none 0 0, .slice none 0 0] 31 :: Cl b3 [.int .i64 e.1] 32 :: Cl b4 [.int .i64 (e.2 : Int)] 3 :: L) := by
  refine CallsD_of Tryd.func24 rfl 22 Tryd.ntmps24 rfl fun c₀ cs hu => ?_
  refine SW_recover (recoverD_pan hu) rfl ?_
  unfold stopV
  (repeat' (first | (refine isLW ?_; first | refine LW_nil ?_ | (refine isLstore ?_; first | (refine LW_storeCA 0 TOK hs rfl rfl rfl rfl rfl (one2 _ _) rfl (Nat.le_of_ble_eq_true rfl) ?_; clear hs; intro w hs) | (refine LW_storeCA 1 TOK hs rfl rfl rfl rfl rfl (oneV _ _ _ _ _ _ _ _ _) rfl (Nat.le_of_ble_eq_true rfl) ?_; clear hs; intro w hs) | (refine LW_storeC 2 TOK hs rfl rfl rfl rfl rfl rfl rfl ?_; clear hs; intro w hs) | (refine LW_storeC 3 TOK hs rfl rfl rfl rfl rfl rfl rfl ?_; clear hs; intro w hs)) | refine LW_binE rfl rfl rfl (neNil _) ?_ | refine LW_assertE rfl (assert53 _) ?_ | refine LW_pure TOK rfl ?_ | (refine LW_alloc TOK hs rfl rfl ?_; clear hs; intro _ w hs)) | (refine isDP ?_; first | (refine isDnil ?_; first | refine DP_end ?_ ?_) | (refine isDe rfl ?_; first | refine DP_eff rfl rfl ?_ ?_) | (refine isDload rfl ?_; first | refine DP_loadC 0 hs TOK rfl rfl (by first | exact trivial | rfl) rfl rfl rfl rfl rfl ?_ ?_) | refine DP_build TOK rfl rfl trivial rfl rfl rfl rfl rfl rfl ?_ | refine DP_pure TOK rfl rfl (by first | exact trivial | rfl) rfl ?_) | (refine isI0 ?_; exact Inv.nil) | (refine isI1 ?_; first | refine Inv.keepC 0 hs rfl rfl ?_) | (with_reducible first | refine then_n ?_ | refine CW_seq ?_ | refine CW_region ?_ | refine CW_skip ?_) | refine CW_false rfl ?_ | (refine CW_drawP (id := 5) [5, 6, 7] [0, 1, 2, 3, 4, 5, 6, 7] mixed (by kernel_rfl) hs ?_; clear hs; intro hs)))
  exact BS_n (u' := .panicking [{ v := stopV e, recovered := true }]) Tryd.results24 rfl ⟨rfl, rfl, hs.drop1⟩
theorem catch_ret (w : World) : CallsDIn (FW none) 0 Tryd.prog 24 [Value.pointer (some ⟨b2, 0, none⟩), .pointer (some ⟨b3, 0, none⟩), .pointer (some ⟨b4, 0, none⟩)].toArray .returning w fun en u' w' => en = .returned (.tuple #[]) ∧ u' = .returning ∧ w' = w := by
  refine CallsD_of Tryd.func24 rfl 22 Tryd.ntmps24 rfl fun c₀ cs hu => ?_
  refine SW_recover0 (recoverD_ret hu) rfl ?_
  (repeat' (first | (refine isLW ?_; first | refine LW_nil ?_ | refine LW_binE rfl rfl rfl eqNil ?_ | refine LW_pure TOK rfl ?_) | (with_reducible first | refine then_n ?_ | refine CW_seq ?_ | refine CW_region ?_ | refine CW_ret ?_ | refine then_r ?_) | refine CW_true rfl ?_))
  exact BS_r (u' := .returning) Tryd.results24 (by cases c₀; simp_all) ⟨rfl, rfl, rfl⟩
end
end Go.Proofs.YtbmeafeojcgndaaDoor

/- Walks: Loose. -/
set_option linter.unusedVariables false
set_option linter.unusedSimpArgs false
namespace Go.Proofs.YtbmeafeojcgndaaDoor
open Go Go.Sl Go.RowKit
set_option maxRecDepth 100000
abbrev zeroJ : J := .mk 0 0 [] [] []
/-- What Loose makes of a text. -/
def looseM (b : List UInt8) : Mo J :=
  if 16777216 < b.length then .error (2, 16777216) else match valueM b 17 (blanksM b 0) with
  | .error e => .error e
  | .ok q => if blanksM b q.2 < b.length then .error (131, blanksM b q.2) else .ok q.1
def resJ (m : Mo J) : J := match m with
  | .ok j => j
  | .error _ => zeroJ
def resE {α : Type} (m : Mo α) : Int := match m with
  | .ok _ => 0
  | .error e => e.1
def resP {α : Type} (m : Mo α) : Nat := match m with
  | .ok _ => 0
  | .error e => e.2
section
variable {P : Program} {fn : Func} {n : Nat} {s : List (Nat × Value)} {τ : Nat → Value} {ds : List Deferred} {w W : World} {L : List HProp} {T : List (Nat × TI)}
theorem RES3 (i j k : Nat) {t1 t2 t3 : Tmp} {ta tb tc te tf tg : TypeId} {ti tj tk : TI} {b2 b3 b4 : Nat} {vs : List Value} {v5 v6 : Value} (hs : Sat W w L) (hT : TyOK P T) (h : fn.results = #[.cell t1 ta, .cell t2 tb, .cell t3 tc])
    (hv1 : EVO n s (.tmp t1) = some (.pointer (some ⟨b2, 0, none⟩))) (hv2 : EVO n s (.tmp t2) = some (.pointer (some ⟨b3, 0, none⟩))) (hv3 : EVO n s (.tmp t3) = some (.pointer (some ⟨b4, 0, none⟩)))
    (h1 : lookT T ta = some ti) (h2 : lookT T tb = some tj) (h3 : lookT T tc = some tk) (ha : ti.agg = true) (hb : tj.agg = false) (hc : tk.agg = false) (hi : getA L i = some (Cl b2 vs te)) (hj : getA L j = some (Cl b3 [v5] tf)) (hk : getA L k = some (Cl b4 [v6] tg)) (hl : vs.length = ti.size) :
    (results fn (FR n s τ ds).tmps).run P w = .ok (.tuple #[.agg vs.toArray, v5, v6]) w := by
  rw [getA_eq] at hi hj hk
  have e1 := slotD (τ := τ) (ds := ds) hv1
  have e2 := slotD (τ := τ) (ds := ds) hv2
  have e3 := slotD (τ := τ) (ds := ds) hv3
  have r1 := ty_isAgg (hT _ _ h1) w
  have r2 := ty_isAgg (hT _ _ h2) w
  have r3 := ty_isAgg (hT _ _ h3) w
  have rs := ty_sizeOf (hT _ _ h1) w
  have q3 := run_loadCells_list (P := P) (w := w) ⟨b2, 0, none⟩ vs (fun j v hj => by
    have e : (⟨b2, 0, none⟩ : Addr).add j = ⟨b2, 0 + j, none⟩ := by unfold Addr.add; split <;> simp_all
    rw [e, hs.cell i hi (0 + j), Nat.zero_add]; exact hj)
  rw [hl] at q3
  have q4 : Sem.run P (loadCellsFrom ⟨b2, 0, none⟩ 0 ti.size #[]) w = Result.ok vs.toArray w := q3
  have c1 := hs.cell j hj 0
  have c2 := hs.cell k hk 0
  rw [ha] at r1
  rw [hb] at r2
  rw [hc] at r3
  simp only [List.getElem?_cons_zero] at c1 c2
  simp [results, h, go_sem, e1, e2, e3, asAddr, r1, r2, r3, rs, q4, Result.andThen, c1, c2]
theorem BD_0 {R : Ending → World → Prop} {v : Value} (h : (results fn (FR n s τ []).tmps).run P w = .ok v w) (k : R (.returned v) w) : bodyPostDIn (FW none) 0 P fn R .ret (FR n s τ []) w := ⟨v, h, k⟩
end
attribute [local irreducible] CW LW DW FR DP Calls Res Ret
section
variable {W : World} {b : List UInt8} {B : Option Addr} {c : Nat}
/-- What a call that returns a value, an error and a place leaves. -/
def LooseR (W : World) (m : Mo J) (v : Value) (w' : World) : Prop := ∃ x : RV, v = .tuple #[.agg (eV x).toArray, .int .i64 (resE m), .int .i64 (resP m : Nat)] ∧ x.j = resJ m ∧ Sat W w' x.rows
theorem loose_err {w' : World} {b2 b3 b4 : Nat} {L : List HProp} {e : Er} {m : Mo J} (hm : m = .error e) (hs : Sat W w' (Cl b2 [.int .i64 0, .int .i64 0, sv [], .slice none 0 0, .slice none 0 0] 31 :: Cl b3 [.int .i64 e.1] 32 :: Cl b4 [.int .i64 (e.2 : Int)] 3 :: L)) :
    LooseR W m (.tuple #[.agg #[.int .i64 0, .int .i64 0, sv [], .slice none 0 0, .slice none 0 0], .int .i64 e.1, .int .i64 (e.2 : Int)]) w' := by
  subst hm
  refine ⟨.mk 0 0 [] none 0 [] none 0 [], rfl, rfl, ?_⟩
  have h2 := ((hs.nilRow 31 5).nilRow 9 1).firsts 2
  rw [RV.rows, RV.rowss]
  exact h2
set_option maxHeartbeats 4000000 in
theorem loose_call (hU : Lib.Utf8Tabs 1 2 W) (rb : Rd eB W B b) (hcb : b.length ≤ c) :
    Calls Tryd.prog 11 [Value.slice B b.length c].toArray W (Ret (LooseR W (looseM b))) := by
  refine Calls_ofD Tryd.func11 rfl 34 Tryd.ntmps11 rfl ?_
  have hs := Sat.start W
  unfold looseM
  by_cases hbig : 16777216 < b.length
  · rw [if_pos hbig]
    (repeat' (first | (refine isLW ?_; first | refine LW_nil ?_ | (refine isLstore ?_; first | (refine LW_storeCA 2 TOK hs rfl rfl rfl rfl rfl (oneV _ _ _ _ _ _ _ _ _) rfl (Nat.le_of_ble_eq_true rfl) ?_; clear hs; intro w hs) | (refine LW_storeC 0 TOK hs rfl rfl rfl rfl rfl rfl rfl ?_; clear hs; intro w hs) | (refine LW_storeC 1 TOK hs rfl rfl rfl rfl rfl rfl rfl ?_; clear hs; intro w hs)) | (refine isLcall ?_; first | refine LW_pure TOK rfl ?_) | (refine isLbin ?_; first | (refine LW_cmp rfl (fun _ => ?_) (fun _ => ?_) <;> try (exfalso; omega))) | refine LW_pure TOK rfl ?_ | (refine LW_alloc TOK hs rfl rfl ?_; clear hs; intro _ w hs) | refine LW_build TOK rfl rfl rfl rfl rfl rfl ?_) | (with_reducible first | refine then_n ?_ | refine CW_seq ?_ | refine CW_region ?_ | refine CW_ret ?_ | refine then_r ?_) | refine CW_true rfl ?_))
    refine BD_0 (RES3 2 1 0 hs TOK Tryd.results11 rfl rfl rfl rfl rfl rfl rfl rfl rfl rfl rfl rfl rfl) ?_
    exact ret_mk (loose_err (e := (2, 16777216)) rfl (hs.picks [2, 1]))
  rw [if_neg hbig]
  have hb2 : b.length ≤ 140737488355328 := by omega
  have hq := blanks_le (b := b) (p := 0) (Nat.zero_le _)
  (repeat' (first | (refine isLW ?_; first | refine LW_nil ?_ | (refine isLcall ?_; first | refine LW_pure TOK rfl ?_) | (refine isLbin ?_; first | (refine LW_cmp rfl (fun _ => ?_) (fun _ => ?_) <;> try (exfalso; omega))) | refine LW_defer rfl ?_ | refine LW_pure TOK rfl ?_ | (refine LW_box hs rfl rfl ?_; clear hs; intro _ w hs) | (refine LW_alloc TOK hs rfl rfl ?_; clear hs; intro _ w hs) | refine LW_build TOK rfl rfl rfl rfl rfl rfl ?_) | (with_reducible first | refine then_n ?_ | refine CW_seq ?_ | refine CW_region ?_ | refine CW_skip ?_) | refine CW_false rfl ?_))
  rename_i b2 _ b3 _ b4 _ _ br
  replace hs : Sat W w (Cl br (eR B b.length c 0 0) 57 :: Cl b4 [.int .i64 0] 3 :: Cl b3 [.int .i64 0] 32 :: Cl b2 [.int .i64 0, .int .i64 0, sv [], .slice none 0 0, .slice none 0 0] 31 :: []) := hs
  (repeat' (first | (refine isLW ?_; first | refine LW_nil ?_ | (refine isLcall ?_; first | (refine LW_call (cap := []) rfl rfl ent25 (blanks_call (p := 0) _ hs rb (Nat.zero_le _) hb2) ?_; clear hs; rintro _ w2 hs)) | refine LW_pure TOK rfl ?_) | (with_reducible first | refine then_n ?_ | refine CW_seq ?_ | refine CW_region ?_)))
  rcases hvv : valueM b 17 (blanksM b 0) with er | ⟨j, p2⟩
  · (repeat' (first | (refine isLW ?_; first | (refine isLcall ?_; first | (refine LW_callX (cap := []) rfl rfl ent26 (valC_all hU rb (by omega) hcb 17 0 _ _ _ (by omega) rfl hs hq.2) ?_ ?_; (rintro _ w2 ⟨x, hx, _⟩; rw [hvv] at hx; cases hx); rintro _ w2 ⟨er2, hx, rfl, hs2⟩; rw [hvv] at hx; cases hx))) | (with_reducible first | refine then_p ?_)))
    refine BD_pan ((catch_pan _ er _ _ _ _ _ _ _ (hs2.picks [2, 1])).mono ?_) ent24
    rintro e u' w3 ⟨rfl, rfl, hs3⟩
    refine ⟨_, RES3 0 1 2 hs3 TOK Tryd.results11 rfl rfl rfl rfl rfl rfl rfl rfl rfl rfl rfl rfl rfl, ?_⟩
    exact ret_mk (loose_err rfl hs3)
  (repeat' (first | (refine isLW ?_; first | refine LW_nil ?_ | (refine isLstore ?_; first | (refine LW_storeCA 3 TOK hs rfl rfl rfl rfl rfl (oneV _ _ _ _ _ _ _ _ _) rfl (Nat.le_of_ble_eq_true rfl) ?_; clear hs; intro w hs)) | (refine isLcall ?_; first | (refine LW_callX (cap := []) rfl rfl ent26 (valC_all hU rb (by omega) hcb 17 0 _ _ _ (by omega) rfl hs hq.2) ?_ ?_; rotate_left; (rintro _ w2 ⟨x, hx, _⟩; rw [hvv] at hx; cases hx); clear hs; rintro _ w2 ⟨er2, hx, y, rfl, hj, m1, m2, hs⟩; rw [hvv] at hx; cases hx; dsimp only at hj m1 m2 hs; replace hs := Sat.past3 hs; obtain ⟨R0, hR0⟩ : ∃ R0, y.rows = R0 := ⟨_, rfl⟩; rw [hR0, List.append_nil] at hs; obtain ⟨kk, ii, tt, NA0, nc0, ns0, IA0, ic0, xs0⟩ := y)) | refine LW_pure TOK rfl ?_) | (with_reducible first | refine then_n ?_ | refine CW_seq ?_ | refine CW_region ?_)))
  replace hs : Sat W w (Cl br (eR B b.length c p2 0) 57 :: Cl b4 [.int .i64 0] 3 :: Cl b3 [.int .i64 0] 32 :: Cl b2 [.int .i64 kk, .int .i64 ii, sv tt, .slice NA0 ns0.length nc0, .slice IA0 xs0.length ic0] 31 :: R0) := hs
  dsimp only
  have hbl := blanks_le m2
  obtain ⟨bp, hbp⟩ : ∃ bp, blanksM b p2 = bp := ⟨_, rfl⟩
  rw [hbp] at hbl ⊢
  by_cases hlt : bp < b.length
  · rw [if_pos hlt]
    (repeat' (first | (refine isLW ?_; first | refine LW_nil ?_ | (refine isLload ?_; first | refine LW_loadC 0 TOK hs rfl rfl rfl rfl rfl ?_) | (refine isLcall ?_; first | (refine LW_call (cap := []) rfl rfl ent25 (blanks_call _ hs rb m2 hb2) ?_; clear hs; rintro _ w2 hs; rw [hbp] at hs) | (refine LW_callX (cap := []) rfl rfl ent27 (fail_call _ _ _ bp) (fun _ _ h => h.elim) ?_; rintro _ w2 ⟨rfl, rfl⟩) | refine LW_pure TOK rfl ?_) | (refine isLbin ?_; first | (refine LW_cmp rfl (fun _ => ?_) (fun _ => ?_) <;> try (exfalso; omega))) | refine LW_pure TOK rfl ?_) | (with_reducible first | refine then_n ?_ | refine CW_seq ?_ | refine CW_region ?_ | refine then_p ?_) | refine CW_true rfl ?_))
    all_goals
      refine BD_pan ((catch_pan _ (131, bp) _ _ _ _ _ _ _ (hs.drop1.picks [2, 1])).mono ?_) ent24
      rintro e u' w3 ⟨rfl, rfl, hs3⟩
      refine ⟨_, RES3 0 1 2 hs3 TOK Tryd.results11 rfl rfl rfl rfl rfl rfl rfl rfl rfl rfl rfl rfl rfl, ?_⟩
      exact ret_mk (loose_err rfl hs3)
  · rw [if_neg hlt]
    (repeat' (first | (refine isLW ?_; first | refine LW_nil ?_ | (refine isLload ?_; first | refine LW_loadCAE 3 [.int .i64 kk, .int .i64 ii, sv tt, .slice NA0 ns0.length nc0, .slice IA0 xs0.length ic0] TOK hs rfl rfl rfl rfl (Nat.le_of_ble_eq_true rfl) rfl ?_ | refine LW_loadC 0 TOK hs rfl rfl rfl rfl rfl ?_) | (refine isLstore ?_; first | (refine LW_storeCA 3 TOK hs rfl rfl rfl rfl rfl (oneV _ _ _ _ _ _ _ _ _) rfl (Nat.le_of_ble_eq_true rfl) ?_; clear hs; intro w hs) | (refine LW_storeC 1 TOK hs rfl rfl rfl rfl rfl rfl rfl ?_; clear hs; intro w hs) | (refine LW_storeC 2 TOK hs rfl rfl rfl rfl rfl rfl rfl ?_; clear hs; intro w hs)) | (refine isLcall ?_; first | (refine LW_call (cap := []) rfl rfl ent25 (blanks_call _ hs rb m2 hb2) ?_; clear hs; rintro _ w2 hs; rw [hbp] at hs) | refine LW_pure TOK rfl ?_) | (refine isLbin ?_; first | (refine LW_cmp rfl (fun _ => ?_) (fun _ => ?_) <;> try (exfalso; omega))) | refine LW_pure TOK rfl ?_) | (with_reducible first | refine then_n ?_ | refine CW_seq ?_ | refine CW_region ?_ | refine CW_skip ?_ | refine CW_ret ?_) | refine CW_false rfl ?_))
    all_goals
      refine BD_ret ((catch_ret _).mono ?_) ent24
      rintro e u' w3 ⟨rfl, rfl, rfl⟩
      refine ⟨_, RES3 3 2 1 hs TOK Tryd.results11 rfl rfl rfl rfl rfl rfl rfl rfl rfl rfl rfl rfl rfl, ?_⟩
      exact ret_mk ⟨.mk kk ii tt NA0 nc0 ns0 IA0 ic0 xs0, rfl, hj, by rw [hR0]; exact hs.drop1.drop1.drop1.drop1⟩
end
end Go.Proofs.YtbmeafeojcgndaaDoor
