/- Loads, stores, new blocks, indexed places, calls. -/
import Derived.Test.YtaofhbjlbdpjhaaSlDraw
set_option linter.unusedVariables false
set_option linter.unusedSimpArgs false
namespace Go.Sl
open Go.RowKit

def cellsOf : Value → List Value
  | .agg cs => cs.toList
  | .bool b => [.bool b]
  | .int k n => [.int k n]
  | .float k n => [.float k n]
  | .complex k a b => [.complex k a b]
  | .string s => [.string s]
  | .pointer a => [.pointer a]
  | .slice a l c => [.slice a l c]
  | .map r => [.map r]
  | .chan r => [.chan r]
  | .func f a c => [.func f a c]
  | .nilFunc => [.nilFunc]
  | .iface t v => [.iface t v]
  | .nilIface => [.nilIface]
  | .tuple vs => [.tuple vs]
theorem cellsOf_eq (v : Value) : v.cells = (cellsOf v).toArray := by cases v <;> first | rfl | (simp [Value.cells, cellsOf])
def cellsO : Value → Option (List Value)
  | .agg cs => some cs.toList
  | .bool b => some [.bool b]
  | .int k n => some [.int k n]
  | .float k n => some [.float k n]
  | .string s => some [.string s]
  | .pointer a => some [.pointer a]
  | .slice a l c => some [.slice a l c]
  | .map r => some [.map r]
  | .func f a c => some [.func f a c]
  | .nilFunc => some [.nilFunc]
  | .iface t v => some [.iface t v]
  | .nilIface => some [.nilIface]
  | _ => none
theorem cellsO_eq {v : Value} {cs : List Value} (h : cellsO v = some cs) : v.cells = cs.toArray := by
  rw [cellsOf_eq]
  cases v <;> simp only [cellsO, Option.some.injEq, reduceCtorEq] at h <;> first | (subst h; rfl) | exact h.elim
/-- A call of a Go function enters it. -/
structure Ent (P : Program) (g : FuncId) : Prop where
  run : ∀ args w, (callFunc g args).run P w = .ok (.enter g args) w
section
variable {r : Option Nat} {P : Program} {T : List (Nat × TI)} {ops : Array Oper} {Q : Exit → Act → World → Prop} {rest : List Oper} {n : Nat} {s : List (Nat × Value)} {τ : Nat → Value} {ds : List Deferred} {w : World}
  {ty : TypeId} {ps : String} {af : Array Edge} {d : Nat} {W : World} {L : List HProp}

theorem run_load1 {t : TypeId} {ti : TI} {b o : Nat} {v : Value} (ht : tyOf P t = some ti) (ha : ti.agg = false) (hc : w.cell? ⟨b, o, none⟩ = some v) :
    (Instr.loadAt t (.pointer (some ⟨b, o, none⟩))).run P w = .ok v w := by
  have h1 := ty_isAgg ht w
  simp only [Instr.loadAt, Instr.sureAddr, Sem.run_bind, Sem.run_pure, Result.andThen, loadVar, h1, ha]
  simp [load, Sem.run, hc]
theorem LW_load {x : Operand} {t : TypeId} {ti : TI} {b o : Nat} {v : Value} (hT : TyOK P T) (hx : EVO n s x = some (.pointer (some ⟨b, o, none⟩))) (ht : lookT T t = some ti) (ha : ti.agg = false) (hc : w.cell? ⟨b, o, none⟩ = some v)
    (k : LW r P ops Q rest (FR n ((d, v) :: s) τ ds) w) : LW r P ops Q (⟨some d, .load t x, ty, ps, af, none⟩ :: rest) (FR n s τ ds) w := by
  refine LW_run (v := v) rfl (fun c e => by cases e) ?_ (by rw [put_FR]; exact k)
  show Sem.run P (do let v ← Instr.loadAt t ((FR n s τ ds).eval x); pure (Next.value v)) w = _
  rw [eval_of hx, Sem.run_bind, run_load1 (hT _ _ ht) ha hc]; rfl
theorem run_loadA {t : TypeId} {ti : TI} {b o : Nat} {vs : List Value} (ht : tyOf P t = some ti) (ha : ti.agg = true) (hl : vs.length = ti.size) (hc : ∀ j v, vs[j]? = some v → w.cell? ⟨b, o + j, none⟩ = some v) :
    (Instr.loadAt t (.pointer (some ⟨b, o, none⟩))).run P w = .ok (.agg vs.toArray) w := by
  have h1 := ty_isAgg ht w
  have h2 := ty_sizeOf ht w
  have h3 := run_loadCells_list (P := P) (w := w) ⟨b, o, none⟩ vs (fun j v hj => by
    have := hc j v hj
    have e : (⟨b, o, none⟩ : Addr).add j = ⟨b, o + j, none⟩ := by unfold Addr.add; split <;> simp_all
    rw [e]; exact this)
  simp only [Instr.loadAt, Instr.sureAddr, Sem.run_bind, Sem.run_pure, Result.andThen, loadVar, h1, ha, if_true, h2, ← hl, h3]
theorem LW_loadA {x : Operand} {t : TypeId} {ti : TI} {b o : Nat} {vs : List Value} (hT : TyOK P T) (hx : EVO n s x = some (.pointer (some ⟨b, o, none⟩))) (ht : lookT T t = some ti) (ha : ti.agg = true) (hl : vs.length = ti.size) (hc : ∀ j v, vs[j]? = some v → w.cell? ⟨b, o + j, none⟩ = some v)
    (k : LW r P ops Q rest (FR n ((d, .agg vs.toArray) :: s) τ ds) w) : LW r P ops Q (⟨some d, .load t x, ty, ps, af, none⟩ :: rest) (FR n s τ ds) w := by
  refine LW_run (v := .agg vs.toArray) rfl (fun c e => by cases e) ?_ (by rw [put_FR]; exact k)
  show Sem.run P (do let v ← Instr.loadAt t ((FR n s τ ds).eval x); pure (Next.value v)) w = _
  rw [eval_of hx, Sem.run_bind, run_loadA (hT _ _ ht) ha hl hc]; rfl
/-- A load out of a block of one's own. -/
theorem LW_loadC (i : Nat) {x : Operand} {t : TypeId} {ti : TI} {b o : Nat} {v : Value} {vs : List Value} {te : TypeId} (hT : TyOK P T) (hs : Sat W w L) (hx : EVO n s x = some (.pointer (some ⟨b, o, none⟩))) (ht : lookT T t = some ti) (ha : ti.agg = false) (hi : getA L i = some (Cl b vs te)) (hv : getA vs o = some v)
    (k : LW r P ops Q rest (FR n ((d, v) :: s) τ ds) w) : LW r P ops Q (⟨some d, .load t x, ty, ps, af, none⟩ :: rest) (FR n s τ ds) w := by
  rw [getA_eq] at hi hv
  exact LW_load hT hx ht ha ((hs.cell i hi o).trans hv) k
/-- A store into a block of one's own. -/
theorem run_store1 {t : TypeId} {ti : TI} {b o : Nat} {v u : Value} (ht : tyOf P t = some ti) (hsz : ti.size = 1) (h1 : v.oneCell' = true) (hc : w.cell? ⟨b, o, none⟩ = some u) (hf : w.frozen? ⟨b, o, none⟩ = false) :
    (Instr.storeAt t (.pointer (some ⟨b, o, none⟩)) v).run P w = .ok () (w.setCell ⟨b, o, none⟩ v) := by
  have h2 := ty_sizeOf ht w
  have hv : v.cells = #[v] := by cases v <;> first | rfl | simp [Value.oneCell'] at h1
  simp only [Instr.storeAt, Instr.sureAddr, Sem.run_bind, Sem.run_pure, Result.andThen, storeVar, h2, hsz, hv]
  have e : (⟨b, o, none⟩ : Addr).add 0 = ⟨b, o, none⟩ := by simp [Addr.add]
  simp [storeCells, e, Sem.run_bind, run_store _ _ _ _ _ h1, hc, hf, Result.andThen, go_sem]
theorem LW_storeC (i : Nat) {x y : Operand} {t : TypeId} {ti : TI} {b o : Nat} {v u : Value} {vs : List Value} {te : TypeId} (hT : TyOK P T) (hs : Sat W w L) (hx : EVO n s x = some (.pointer (some ⟨b, o, none⟩))) (hy : EVO n s y = some v) (ht : lookT T t = some ti) (hsz : ti.size = 1) (h1 : v.oneCell' = true)
    (hi : getA L i = some (Cl b vs te)) (hv : getA vs o = some u) (k : ∀ w', Sat W w' (L.set i (Cl b (vs.set o v) te)) → LW r P ops Q rest (FR n s τ ds) w') : LW r P ops Q (⟨none, .store t x y, ty, ps, af, none⟩ :: rest) (FR n s τ ds) w := by
  rw [getA_eq] at hi hv
  refine LW_runSkip (w' := w.setCell ⟨b, o, none⟩ v) rfl (fun c e => by cases e) ?_ (k _ (hs.setCell i hi o v))
  show Sem.run P (do Instr.storeAt t ((FR n s τ ds).eval x) ((FR n s τ ds).eval y); pure Next.skip) w = _
  rw [eval_of hx, eval_of hy, Sem.run_bind, run_store1 (hT _ _ ht) hsz h1 ((hs.cell i hi o).trans hv) (hs.frozen i hi o)]; rfl
theorem LW_alloc {t : TypeId} {ti : TI} (hT : TyOK P T) (hs : Sat W w L) (ht : lookT T t = some ti) {cs : List Value} (hcs : cellsO ti.zero = some cs) (k : ∀ b w', Sat W w' (Cl b cs t :: L) → LW r P ops Q rest (FR n ((d, .pointer (some ⟨b, 0, none⟩)) :: s) τ ds) w') :
    LW r P ops Q (⟨some d, .alloc t, ty, ps, af, none⟩ :: rest) (FR n s τ ds) w := by
  refine LW_run (v := .pointer (some ⟨w.heap.size, 0, none⟩)) (w' := w.alloc (.cells ti.zero.cells t (0, 0))) rfl (fun c e => by cases e) ?_ (by rw [put_FR, cellsO_eq hcs]; exact k _ _ (hs.alloc _))
  show Sem.run P (do let v ← Instr.alloc t true (.tuple #[]); pure (Next.value v)) w = _
  simp only [Instr.alloc, Sem.run_bind, ty_zero (hT _ _ ht) w, Result.andThen, newVar, newRow, newObj, Sem.run, Sem.run_pure]
  rfl
theorem LW_box {t : TypeId} {x : Operand} {v : Value} (hs : Sat W w L) (hx : EVO n s x = some v) {cs : List Value} (hcs : cellsO v = some cs) (k : ∀ b w', Sat W w' (Cl b cs t :: L) → LW r P ops Q rest (FR n ((d, .pointer (some ⟨b, 0, none⟩)) :: s) τ ds) w') :
    LW r P ops Q (⟨some d, .box t x, ty, ps, af, none⟩ :: rest) (FR n s τ ds) w := by
  refine LW_run (v := .pointer (some ⟨w.heap.size, 0, none⟩)) (w' := w.alloc (.cells v.cells t (0, 0))) rfl (fun c e => by cases e) ?_ (by rw [put_FR, cellsO_eq hcs]; exact k _ _ (hs.alloc _))
  show Sem.run P (do let v ← Instr.box t ((FR n s τ ds).eval x); pure (Next.value v)) w = _
  rw [eval_of hx]
  simp only [Instr.box, Sem.run_bind, Result.andThen, newVar, newRow, newObj, Sem.run, Sem.run_pure]
  rfl
theorem LW_makeMap {t : TypeId} (hs : Sat W w L) (k : ∀ b w', Sat W w' (Bk b (.map #[] 0) :: L) → LW r P ops Q rest (FR n ((d, .map (some b)) :: s) τ ds) w') :
    LW r P ops Q (⟨some d, .makeMap t none, ty, ps, af, none⟩ :: rest) (FR n s τ ds) w := by
  refine LW_run (v := .map (some w.heap.size)) (w' := w.alloc (.map #[] 0)) rfl (fun c e => by cases e) ?_ (by rw [put_FR]; exact k _ _ (hs.alloc _))
  rfl
/-- An element's place. -/
theorem run_indexAddr {t e : TypeId} {ti te : TI} {k : IntKind} {b o len cap : Nat} {i : Int} (ht : tyOf P t = some ti) (hu : ti.u = .slice e) (he : tyOf P e = some te) (h0 : 0 ≤ i) (h1 : i < len) :
    (Instr.indexAt t (.slice (some ⟨b, o, none⟩) len cap) (.int k i)).run P w = .ok (.pointer (some ⟨b, o + i.toNat * te.size, none⟩)) w := by
  have h2 := ty_under ht w
  have h3 := ty_sizeOf he w
  rw [hu] at h2
  have e : (⟨b, o, none⟩ : Addr).add (i.toNat * te.size) = ⟨b, o + i.toNat * te.size, none⟩ := by unfold Addr.add; split <;> simp_all
  simp only [Instr.indexAt, asIntOf, Sem.run_bind, Sem.run_pure, Result.andThen, h2]
  simp [h0, h1, Sem.run_bind, h3, Result.andThen, e, h2]
theorem LW_indexAddr {t e : TypeId} {x y : Operand} {ti te : TI} {k : IntKind} {b o len cap : Nat} {i : Int} (hT : TyOK P T) (hx : EVO n s x = some (.slice (some ⟨b, o, none⟩) len cap)) (hy : EVO n s y = some (.int k i)) (ht : lookT T t = some ti) (hu : ti.u = .slice e) (he : lookT T e = some te)
    (h0 : 0 ≤ i) (h1 : i < len) (c : LW r P ops Q rest (FR n ((d, .pointer (some ⟨b, o + i.toNat * te.size, none⟩)) :: s) τ ds) w) : LW r P ops Q (⟨some d, .indexAddr t x y, ty, ps, af, none⟩ :: rest) (FR n s τ ds) w := by
  refine LW_run rfl (fun c e => by cases e) ?_ (by rw [put_FR]; exact c)
  show Sem.run P (do let v ← Instr.indexAt t ((FR n s τ ds).eval x) ((FR n s τ ds).eval y); pure (Next.value v)) w = _
  rw [eval_of hx, eval_of hy, Sem.run_bind, run_indexAddr (hT _ _ ht) hu (hT _ _ he) h0 h1]; rfl
/-- A call of a Go function. -/
theorem run_callv {f : Operand} {args : Array Operand} {ts : Array TypeId} {g : FuncId} {cap : Array Value} {vs : List Value} {o : Oper} (ho : o.op = .call { callee := .value f, args := args, argTypes := ts }) (hf : EVO n s f = some (.func (.func g) #[] cap)) (hargs : evalL n s args.toList = some vs)
    (he : ∀ args w, (callFunc g args).run P w = .ok (.enter g args) w) : (execOp (FR n s τ ds).eval o).run P w = .ok (.enter g (vs.toArray ++ cap)) w := by
  unfold execOp
  rw [ho]
  show Sem.run P (do let d ← resolve (FR n s τ ds).eval _ o.type; invoke d.target d.args) w = _
  have e1 := evalA_run (ρ := (FR n s τ ds).eval) (fun x v => eval_of) hargs
  simp only [resolve, e1, eval_of hf, Deferred.ofValue, Sem.run_bind, Sem.run_pure, Result.andThen, invoke]
  rw [he]
  congr 2
  simp
theorem Calls.inFW {g : FuncId} {args : Array Value} {R : Ending → World → Prop} (h : Calls P g args w R) (m : Nat) : CallsIn (FW r) m P g args w R := by
  have h1 : CallsIn Fence.wide m P g args w R := callsIn_wide.2 h
  cases r with
  | none => exact h1
  | some l => exact CallsIn.inRound l h1
theorem LW_call {f : Operand} {args : Array Operand} {ts : Array TypeId} {g : FuncId} {cap : List Value} {vs : List Value} {Post : Value → World → Prop} (hf : EVO n s f = some (.func (.func g) #[] cap.toArray)) (hargs : evalL n s args.toList = some vs)
    (he : Ent P g) (hc : Calls P g (vs ++ cap).toArray w (Ret Post)) (k : ∀ v w', Post v w' → LW r P ops Q rest (FR n ((d, v) :: s) τ ds) w') :
    LW r P ops Q (⟨some d, .call { callee := .value f, args := args, argTypes := ts }, ty, ps, af, none⟩ :: rest) (FR n s τ ds) w := by
  refine wpListIn_plain rfl fun K hK => ⟨fun _ _ => trivial, ?_⟩
  rw [Oper.semAt_eq _ _ _ (fun c e => by cases e), run_callv rfl hf hargs he.run]
  refine ⟨fun e => (by cases e), ?_⟩
  have : vs.toArray ++ cap.toArray = (vs ++ cap).toArray := by simp
  rw [this]
  refine (Sl.Calls.inFW hc _).mono fun e w' q => ?_
  cases e with
  | returned v => exact hK _ _ (by rw [put_FR]; exact k v w' q)
  | panicked c => exact q.elim
  | outgrown => exact q.elim
theorem LW_call0 {f : Operand} {args : Array Operand} {ts : Array TypeId} {g : FuncId} {cap : List Value} {vs : List Value} {Post : Value → World → Prop} (hf : EVO n s f = some (.func (.func g) #[] cap.toArray)) (hargs : evalL n s args.toList = some vs)
    (he : Ent P g) (hc : Calls P g (vs ++ cap).toArray w (Ret Post)) (k : ∀ v w', Post v w' → LW r P ops Q rest (FR n s τ ds) w') :
    LW r P ops Q (⟨none, .call { callee := .value f, args := args, argTypes := ts }, ty, ps, af, none⟩ :: rest) (FR n s τ ds) w := by
  refine wpListIn_plain rfl fun K hK => ⟨fun _ _ => trivial, ?_⟩
  rw [Oper.semAt_eq _ _ _ (fun c e => by cases e), run_callv rfl hf hargs he.run]
  refine ⟨fun e => (by cases e), ?_⟩
  have : vs.toArray ++ cap.toArray = (vs ++ cap).toArray := by simp
  rw [this]
  refine (Sl.Calls.inFW hc _).mono fun e w' q => ?_
  cases e with
  | returned v => exact hK _ _ (k v w' q)
  | panicked c => exact q.elim
  | outgrown => exact q.elim
end
end Go.Sl
