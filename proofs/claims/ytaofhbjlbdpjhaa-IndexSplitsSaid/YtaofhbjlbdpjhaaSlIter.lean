/- A range over a function: the statement, its rounds, the calls of yield, and how a function leaves that holds one. -/
import Derived.Test.YtaofhbjlbdpjhaaSlRow3
import Derived.RangeFuncNested
set_option linter.unusedVariables false
set_option linter.unusedSimpArgs false
namespace Go.Sl
open Go.RowKit

section
variable {P : Program}
/-- A call of yield: what it comes to. -/
def Yld (P : Program) (l : Nat) (args : Array Value) (w : World) (Post : Value → World → Prop) : Prop :=
  ∃ f tmps assign body, (Instr.yield l args).run P w = .ok (.round l f tmps assign body) w ∧ RoundIn (FW none) 0 P l f tmps assign body w (Ret Post)
theorem Yld.post {l : Nat} {args : Array Value} {w : World} {A B : Value → World → Prop} (h : Yld P l args w A) (hab : ∀ v w', A v w' → B v w') : Yld P l args w B := by
  obtain ⟨f, t, a, b, h1, h2⟩ := h
  refine ⟨f, t, a, b, h1, h2.mono fun e w' q => ?_⟩
  cases e with
  | returned v => exact hab v w' q
  | _ => exact q.elim
variable {ops : Array Oper} {Q : Exit → Act → World → Prop} {rest : List Oper} {n : Nat} {s : List (Nat × Value)} {τ : Nat → Value} {ds : List Deferred} {w : World}
  {ty : TypeId} {ps : String} {af : Array Edge} {d : Nat} {W : World} {L : List HProp}
theorem run_cally {f : Operand} {args : Array Operand} {ts : Array TypeId} {l : Nat} {vs : List Value} {x : Next} {o : Oper} (ho : o.op = .call { callee := .value f, args := args, argTypes := ts }) (hf : EVO n s f = some (.func (.yield l) #[] #[])) (hargs : evalL n s args.toList = some vs)
    (he : (Instr.yield l vs.toArray).run P w = .ok x w) : (execOp (FR n s τ ds).eval o).run P w = .ok x w := by
  unfold execOp
  rw [ho]
  show Sem.run P (do let d ← resolve (FR n s τ ds).eval _ o.type; invoke d.target d.args) w = _
  have e1 := evalA_run (ρ := (FR n s τ ds).eval) (fun x v => eval_of) hargs
  simp only [resolve, e1, eval_of hf, Deferred.ofValue, Sem.run_bind, Sem.run_pure, Result.andThen, invoke]
  simpa using he
theorem LW_yield {f : Operand} {args : Array Operand} {ts : Array TypeId} {l : Nat} {vs : List Value} {Post : Value → World → Prop} (hf : EVO n s f = some (.func (.yield l) #[] #[])) (hargs : evalL n s args.toList = some vs)
    (hc : Yld P l vs.toArray w Post) (k : ∀ v w', Post v w' → LW none P ops Q rest (FR n ((d, v) :: s) τ ds) w') :
    LW none P ops Q (⟨some d, .call { callee := .value f, args := args, argTypes := ts }, ty, ps, af, none⟩ :: rest) (FR n s τ ds) w := by
  obtain ⟨fn, tm, sn, bo, hrun, hround⟩ := hc
  refine wpListIn_plain rfl fun K hK => ⟨?_, ?_⟩
  · intro f' hf'
    have e := run_cally (τ := τ) (ds := ds) (o := ⟨some d, .call { callee := .value f, args := args, argTypes := ts }, ty, ps, af, none⟩) rfl hf hargs hrun
    trivial
  · rw [Oper.semAt_eq _ _ _ (fun c e => by cases e), run_cally rfl hf hargs hrun, Oper.uponIn_round]
    refine ⟨fun e => (by cases e), hround.mono fun e w' q => ?_⟩
    cases e with
    | returned v => exact hK _ _ (by rw [put_FR]; exact k v w' q)
    | panicked c => exact q.elim
    | outgrown => exact q.elim
/-- The record of a loop of two parameters. -/
def recOf (fn : FuncId) (tm : Array Value) (p1 p2 : Tmp) (assign body : Code) (D : Nat) (st : LoopState) (pe : Option Code) : Loop := { state := st, pending := pe, fn := fn, tmps := tm, params := #[p1, p2], assign := assign, body := body, defers := D }
def Begin (P : Program) (l : Nat) (K : Act → World → Prop) (a : Act) (w : World) : Prop := ∃ w', (Instr.beginRound l).run P w = .ok () w' ∧ K a w'
section
variable {fn : FuncId} {tm : Array Value} {p1 p2 : Tmp} {sn bo : Code} {D l : Nat} {a : Act} {Post : Value → World → Prop}
theorem Begin_of (i : Nat) {K : Act → World → Prop} (hs : Sat W w L) (hi : getA L i = some (Bk l (.loop (recOf fn tm p1 p2 sn bo D .ready none)))) (k : ∀ w', Sat W w' (L.set i (Bk l (.loop (recOf fn tm p1 p2 sn bo D .busy none)))) → K a w') : Begin P l K a w := by
  rw [getA_eq] at hi
  exact ⟨_, run_beginRound (hs.at i hi).2 rfl, k _ (hs.putObj i hi _)⟩
/-- The ends of a round. -/
theorem RP_n (i : Nat) (hs : Sat W w L) (hi : getA L i = some (Bk l (.loop (recOf fn tm p1 p2 sn bo D .busy none)))) (k : ∀ w', Sat W w' (L.set i (Bk l (.loop (recOf fn tm p1 p2 sn bo D .ready none)))) → Post (.bool true) w') : roundPost P l (Ret Post) .normal a w := by
  rw [getA_eq] at hi
  exact ⟨_, _, run_endRound none (hs.at i hi).2, k _ (hs.putObj i hi _)⟩
theorem RP_r (i : Nat) (hs : Sat W w L) (hi : getA L i = some (Bk l (.loop (recOf fn tm p1 p2 sn bo D .busy none)))) (k : ∀ w', Sat W w' (L.set i (Bk l (.loop (recOf fn tm p1 p2 sn bo D .done (some .ret))))) → Post (.bool false) w') : roundPost P l (Ret Post) .ret a w := by
  rw [getA_eq] at hi
  exact ⟨_, _, run_endRound (some .ret) (hs.at i hi).2, k _ (hs.putObj i hi _)⟩
theorem RP_e (i : Nat) {j : Nat} (hs : Sat W w L) (hi : getA L i = some (Bk l (.loop (recOf fn tm p1 p2 sn bo D .busy none)))) (k : ∀ w', Sat W w' (L.set i (Bk l (.loop (recOf fn tm p1 p2 sn bo D .done (some (.exit j)))))) → Post (.bool false) w') : roundPost P l (Ret Post) (.exit j) a w := by
  rw [getA_eq] at hi
  exact ⟨_, _, run_endRound (some (.exit j)) (hs.at i hi).2, k _ (hs.putObj i hi _)⟩
/-- A round, out of its code. -/
theorem Yld_of (i : Nat) {v1 v2 : Value} (hs : Sat W w L) (hi : getA L i = some (Bk l (.loop (recOf fn (FR n s τ ds).tmps p1 p2 sn bo D .ready none))))
    (h : CW (some l) P sn (Exit.then (Begin P l (CW (some l) P bo (roundPost P l (Ret Post)))) (fun _ _ _ => False)) (FR n ((p2, v2) :: (p1, v1) :: s) τ []) w) : Yld P l #[v1, v2] w Post := by
  rw [getA_eq] at hi
  refine ⟨_, _, _, _, run_yield (hs.at i hi).2 rfl, ?_⟩
  have e : ({ tmps := ((#[p1, p2] : Array Tmp).zip #[v1, v2]).foldl (fun tmps (t, a) => tmps.setIfInBounds t a) (FR n s τ ds).tmps, defers := [] } : Act) = FR n ((p2, v2) :: (p1, v1) :: s) τ [] := by
    rw [← put_FR, ← put_FR]
    have e0 : (FR n s τ ds).tmps = (FR n s τ []).tmps := rfl
    rw [e0]
    obtain ⟨a0, ha0⟩ : ∃ a0, FR n s τ [] = a0 := ⟨_, rfl⟩
    have hd0 : a0.defers = [] := by rw [← ha0]; rfl
    rw [ha0]
    simp [Act.put, hd0]
  refine roundIn_of_wpIn trivial ?_
  have e2 : ({ tmps := ((recOf fn (FR n s τ ds).tmps p1 p2 sn bo D .ready none).params.zip #[v1, v2]).foldl (fun tmps (t, a) => tmps.setIfInBounds t a) (recOf fn (FR n s τ ds).tmps p1 p2 sn bo D .ready none).tmps, defers := [] } : Act) = FR n ((p2, v2) :: (p1, v1) :: s) τ [] := e
  rw [e2]
  exact h
end
/-- What is asked behind the function that was ranged over. -/
def After (P : Program) (r : Option Nat) (W : World) (l : Nat) (fn : FuncId) (tm : Array Value) (p1 p2 : Tmp) (sn bo : Code) (D : Nat) (Q : Exit → Act → World → Prop) (a : Act) (w3 : World) : Prop :=
  ∃ L' st pe, Sat W w3 (Bk l (.loop (recOf fn tm p1 p2 sn bo D st pe)) :: L') ∧ st ≠ .busy ∧ ∀ w4, Sat W w4 L' → (match pe with
    | none => Q .normal a w4
    | some c => CW r P c Q a w4)
theorem After_of {r : Option Nat} {w3 : World} {l : Nat} {fn : FuncId} {tm : Array Value} {p1 p2 : Tmp} {sn bo : Code} {D : Nat} {a : Act} (h : After P r W l fn tm p1 p2 sn bo D Q a w3) {v : Value} : rangePost (FW r) 0 P l Q a (.returned v) w3 := by
  obtain ⟨L', st, pe, hs, hst, hk⟩ := h
  have hb := (hs.at 0 rfl).2
  refine ⟨pe, _, run_endLoop hb hst, ?_⟩
  have := hk _ (hs.putObj 0 rfl (.loop { recOf fn tm p1 p2 sn bo D st pe with state := .exhausted })).drop1
  cases pe with
  | none => exact this
  | some c => exact this
theorem CW_range {g : Operand} {p1 p2 : Tmp} {sn bo : Code} {gf : FuncId} {lb : List Value} (hs : Sat W w L) (hg : EVO n s g = some (.func (.func gf) #[] lb.toArray)) (he : Ent P gf)
    (h : ∀ fn l D w1, Sat W w1 (Bk l (.loop (recOf fn (FR n s τ ds).tmps p1 p2 sn bo D .ready none)) :: Bk D (.deferred (some [])) :: L) →
      Calls P gf (.func (.yield l) #[] #[] :: lb).toArray w1 (Ret fun _ w3 => After P none W l fn (FR n s τ ds).tmps p1 p2 sn bo D Q (FR n s τ ({ target := .collected D, args := #[] } :: ds)) w3)) :
    CW none P (.rangeFunc g #[p1, p2] sn bo) Q (FR n s τ ds) w := by
  refine wpIn_rangeFunc fun fn _ => ?_
  obtain ⟨W1, hW1⟩ : ∃ W1, (w.alloc (.deferred (some []))).alloc (.loop (recOf fn (FR n s τ ds).tmps p1 p2 sn bo w.heap.size .ready none)) = W1 := ⟨_, rfl⟩
  have hs1 := (hs.alloc (.deferred (some []))).alloc (.loop (recOf fn (FR n s τ ds).tmps p1 p2 sn bo w.heap.size .ready none))
  rw [World.size_alloc, hW1] at hs1
  have h1 := h fn (w.heap.size + 1) w.heap.size W1 hs1
  refine ⟨w.heap.size + 1, [{ target := .collected w.heap.size, args := #[] }], W1, { target := .fn (.func gf) lb.toArray, args := #[.func (.yield (w.heap.size + 1)) #[] #[]] }, W1, gf, #[.func (.yield (w.heap.size + 1)) #[] #[]] ++ lb.toArray, W1, by rw [← hW1]; exact run_enterLoop_outer _ _ _ _ _, ?_, fun _ _ => trivial, ?_, fun e => (by cases e), ?_⟩
  · simp only [resolve, eval_of hg]
    simp [go_sem]
  · simp [invoke, go_sem, he.run]
  · have e1 : (#[.func (.yield (w.heap.size + 1)) #[] #[]] ++ lb.toArray : Array Value) = (.func (.yield (w.heap.size + 1)) #[] #[] :: lb).toArray := by simp
    rw [e1]
    refine (Sl.Calls.inFW h1 _).mono fun e w' q => ?_
    cases e with
    | returned v => exact After_of q
    | _ => exact q.elim
/-- Within a round of loop l0. -/
theorem CW_rangeN (j : Nat) {l0 : Nat} {r0 : Loop} {g : Operand} {p1 p2 : Tmp} {sn bo : Code} {gf : FuncId} {lb : List Value} (hs : Sat W w L) (hj : getA L j = some (Bk l0 (.loop r0))) (hg : EVO n s g = some (.func (.func gf) #[] lb.toArray)) (he : Ent P gf)
    (h : ∀ fn l w1, Sat W w1 (Bk l (.loop (recOf fn (FR n s τ ds).tmps p1 p2 sn bo r0.defers .ready none)) :: L) →
      Calls P gf (.func (.yield l) #[] #[] :: lb).toArray w1 (Ret fun _ w3 => After P (some l0) W l fn (FR n s τ ds).tmps p1 p2 sn bo r0.defers Q (FR n s τ ds) w3)) :
    CW (some l0) P (.rangeFunc g #[p1, p2] sn bo) Q (FR n s τ ds) w := by
  rw [getA_eq] at hj
  refine wpIn_rangeFunc fun fn _ => ?_
  obtain ⟨W1, hW1⟩ : ∃ W1, w.alloc (.loop (recOf fn (FR n s τ ds).tmps p1 p2 sn bo r0.defers .ready none)) = W1 := ⟨_, rfl⟩
  have hs1 := hs.alloc (.loop (recOf fn (FR n s τ ds).tmps p1 p2 sn bo r0.defers .ready none))
  rw [hW1] at hs1
  have h1 := h fn w.heap.size W1 hs1
  refine ⟨w.heap.size, [], W1, { target := .fn (.func gf) lb.toArray, args := #[.func (.yield w.heap.size) #[] #[]] }, W1, gf, #[.func (.yield w.heap.size) #[] #[]] ++ lb.toArray, W1, by rw [← hW1]; exact run_enterLoop_inner (hs.at j hj).2 _ _ _ _ _, ?_, fun _ _ => trivial, ?_, fun e => (by cases e), ?_⟩
  · simp only [resolve, eval_of hg]
    simp [go_sem]
  · simp [invoke, go_sem, he.run]
  · have e1 : (#[.func (.yield w.heap.size) #[] #[]] ++ lb.toArray : Array Value) = (.func (.yield w.heap.size) #[] #[] :: lb).toArray := by simp
    rw [e1]
    refine (Sl.Calls.inFW h1 _).mono fun e w' q => ?_
    cases e with
    | returned v => exact After_of q
    | _ => exact q.elim
/- HOW A FUNCTION LEAVES THAT HOLDS SUCH LOOPS -/
def RM (P : Program) (f : Func) (Post : Value → World → Prop) (tm : Array Value) (ds : List Deferred) (w : World) : Prop := LeavesInM (FW none) 0 P f tm (Ret Post) ds .returning w
theorem Calls_ofM {f : FuncId} {fn : Func} {c : Code} {args : List Value} {w : World} {R : Ending → World → Prop} (hf : P.funcs[f]? = some fn) (hb : fn.body = some c) (n : Nat) (hn : fn.ntmps = n) (hle0 : Nat.ble args.length n = true)
    (h : CW none P c (bodyPostM (FW none) 0 P fn R) (FR n (argS 0 args) (fun _ => undef) []) w) : Calls P f args.toArray w R := by
  refine (callsIn_wide (n := 0)).1 (callsIn_of_wp_marks hf hb trivial ?_ rfl)
  rw [hn, FR_args args n (Nat.le_of_ble_eq_true hle0)]
  exact h
section
variable {f : Func} {Post : Value → World → Prop}
theorem slotD {t : Tmp} {v : Value} (hv : EVO n s (.tmp t) = some v) : (FR n s τ ds).tmps[t]?.getD undef = v := by
  have := eval_of (τ := τ) (ds := ds) hv
  simpa [Act.eval] using this
theorem run_loadVar1 {t : TypeId} {ti : TI} {b o : Nat} {v : Value} (ht : tyOf P t = some ti) (ha : ti.agg = false) (hc : w.cell? ⟨b, o, none⟩ = some v) : (loadVar t ⟨b, o, none⟩).run P w = .ok v w := by
  have h1 := ty_isAgg ht w
  simp only [Sem.run_bind, Sem.run_pure, Result.andThen, loadVar, h1, ha]
  simp [load, Sem.run, hc]
theorem M_r (k : RM P f Post (FR n s τ ds).tmps ds w) : bodyPostM (FW none) 0 P f (Ret Post) .ret (FR n s τ ds) w := k
theorem M_n (k : RM P f Post (FR n s τ ds).tmps ds w) : bodyPostM (FW none) 0 P f (Ret Post) .normal (FR n s τ ds) w := k
theorem M_take (i : Nat) {tm : Array Value} {D : Nat} (hs : Sat W w L) (hi : getA L i = some (Bk D (.deferred (some [])))) (k : ∀ w', Sat W w' (L.set i (Bk D (.deferred none))) → RM P f Post tm ds w') : RM P f Post tm ({ target := .collected D, args := #[] } :: ds) w := by
  rw [getA_eq] at hi
  exact ⟨by simp, .inl ⟨D, _, rfl, run_takeDeferred (hs.at i hi).2, k _ (hs.putObj i hi _)⟩⟩
theorem M_end0 (h : f.results = #[]) (k : Post (.tuple #[]) w) : RM P f Post (FR n s τ ds).tmps [] w := ⟨_, by simp [results, h, go_sem], k⟩
theorem M_end1 {t : Tmp} {v : Value} (h : f.results = #[.tmp t]) (hv : EVO n s (.tmp t) = some v) (k : Post v w) : RM P f Post (FR n s τ ds).tmps [] w :=
  ⟨v, by have e := slotD (τ := τ) (ds := ds) hv; simp [results, h, go_sem] at e ⊢; exact e, k⟩
theorem M_end2 {t u : Tmp} {v v' : Value} (h : f.results = #[.tmp t, .tmp u]) (hv : EVO n s (.tmp t) = some v) (hv' : EVO n s (.tmp u) = some v') (k : Post (.tuple #[v, v']) w) : RM P f Post (FR n s τ ds).tmps [] w :=
  ⟨_, by have e := slotD (τ := τ) (ds := ds) hv; have e' := slotD (τ := τ) (ds := ds) hv'; simp [results, h, go_sem] at e e' ⊢; exact ⟨e, e'⟩, k⟩
/-- Two results that lie in boxes. -/
theorem M_endC2 {T : List (Nat × TI)} (i j : Nat) {t u : Tmp} {ti tj : TI} {ta tb te tf : TypeId} {b c : Nat} {v v' : Value} (hs : Sat W w L) (hT : TyOK P T) (h : f.results = #[.cell t ta, .cell u tb]) (hv : EVO n s (.tmp t) = some (.pointer (some ⟨b, 0, none⟩))) (hv' : EVO n s (.tmp u) = some (.pointer (some ⟨c, 0, none⟩)))
    (h1 : lookT T ta = some ti) (h2 : lookT T tb = some tj) (ha : ti.agg = false) (hb : tj.agg = false) (hi : getA L i = some (Cl b [v] te)) (hj : getA L j = some (Cl c [v'] tf)) (k : Post (.tuple #[v, v']) w) : RM P f Post (FR n s τ ds).tmps [] w := by
  rw [getA_eq] at hi hj
  have c1 := hs.cell i hi 0
  have c2 := hs.cell j hj 0
  have e1 := slotD (τ := τ) (ds := ds) hv
  have e2 := slotD (τ := τ) (ds := ds) hv'
  have r1 := ty_isAgg (hT _ _ h1) w
  have r2 := ty_isAgg (hT _ _ h2) w
  rw [ha] at r1
  rw [hb] at r2
  simp only [List.getElem?_cons_zero] at c1 c2
  refine ⟨.tuple #[v, v'], ?_, k⟩
  simp [results, h, go_sem, e1, e2, asAddr, r1, r2, Result.andThen, c1, c2]
end
end
end Go.Sl
