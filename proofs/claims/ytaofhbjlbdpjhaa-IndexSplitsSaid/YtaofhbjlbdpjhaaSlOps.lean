/- What an operation that only reckons comes to; the rules of control; loads, stores, new blocks, calls. -/
import Derived.Test.YtaofhbjlbdpjhaaSlWalk
import Derived.Sort.LoopGhostIn
set_option linter.unusedVariables false
set_option linter.unusedSimpArgs false
namespace Go.Sl
open Go.RowKit

def FW (r : Option Nat) : Fence := { Fence.wide with round := r }
theorem FW_none : FW none = Fence.wide := rfl
/-- The goals of a walk. -/
def CW (r : Option Nat) (P : Program) (c : Code) (Q : Exit → Act → World → Prop) (a : Act) (w : World) : Prop := c.wpIn (FW r) 0 P Q a w
def LW (r : Option Nat) (P : Program) (ops : Array Oper) (Q : Exit → Act → World → Prop) (l : List Oper) (a : Act) (w : World) : Prop := wpListIn (FW r) 0 P ops Q l a w

section control
variable {r : Option Nat} {P : Program} {Q : Exit → Act → World → Prop} {a : Act} {w : World}
theorem CW_mono {c : Code} {Q' : Exit → Act → World → Prop} (h : CW r P c Q a w) (hq : ∀ e a w, Q e a w → Q' e a w) : CW r P c Q' a w := wpIn_mono h hq
theorem CW_skip (h : Q .normal a w) : CW r P .skip Q a w := wpIn_skip h
theorem CW_label {l : Nat} (h : Q .normal a w) : CW r P (.label l) Q a w := wpIn_label h
theorem CW_exit {i : Nat} (h : Q (.exit i) a w) : CW r P (.exit i) Q a w := wpIn_exit h
theorem CW_ret (h : Q .ret a w) : CW r P .ret Q a w := wpIn_ret h
theorem CW_seq {x y : Code} (h : CW r P x (Exit.then (CW r P y Q) Q) a w) : CW r P (.seq x y) Q a w := wpIn_seq h
theorem CW_block {i : Nat} {c : Code} (h : CW r P c (Exit.inBlock i Q) a w) : CW r P (.block i c) Q a w := wpIn_block h
theorem CW_region {i : Nat} {l : List Oper} (h : LW r P l.toArray Q l a w) : CW r P (.region i l.toArray false) Q a w := wpIn_region_lit h
theorem LW_nil {ops : Array Oper} (h : Q .normal a w) : LW r P ops Q [] a w := h
theorem then_n {K : Act → World → Prop} (h : K a w) : Exit.then K Q .normal a w := h
theorem then_e {K : Act → World → Prop} {i : Nat} (h : Q (.exit i) a w) : Exit.then K Q (.exit i) a w := h
theorem then_r {K : Act → World → Prop} (h : Q .ret a w) : Exit.then K Q .ret a w := h
theorem blk_n {i : Nat} (h : Q .normal a w) : Exit.inBlock i Q .normal a w := h
theorem blk_r {i : Nat} (h : Q .ret a w) : Exit.inBlock i Q .ret a w := h
theorem blk_same {i : Nat} (h : Q .normal a w) : Exit.inBlock i Q (.exit i) a w := by simp only [Exit.inBlock, if_true]; exact h
theorem blk_other {i j : Nat} (hne : Nat.beq j i = false) (h : Q (.exit j) a w) : Exit.inBlock i Q (.exit j) a w := by
  have : j ≠ i := fun e => by subst e; simp at hne
  simp only [Exit.inBlock, this, if_false]; exact h
variable {n : Nat} {s : List (Nat × Value)} {τ : Nat → Value} {ds : List Deferred}
theorem CW_true {c : Operand} {x y : Code} (hc : EVO n s c = some (.bool true)) (h : CW r P x Q (FR n s τ ds) w) : CW r P (.cond c x y) Q (FR n s τ ds) w :=
  wpIn_cond_true (eval_of hc) h
theorem CW_false {c : Operand} {x y : Code} (hc : EVO n s c = some (.bool false)) (h : CW r P y Q (FR n s τ ds) w) : CW r P (.cond c x y) Q (FR n s τ ds) w :=
  wpIn_cond_false (eval_of hc) h
theorem CW_cond {c : Operand} {x y : Code} {b : Bool} (hc : EVO n s c = some (.bool b)) (ht : b = true → CW r P x Q (FR n s τ ds) w) (hf : b = false → CW r P y Q (FR n s τ ds) w) : CW r P (.cond c x y) Q (FR n s τ ds) w := by
  cases b
  · exact CW_false hc (hf rfl)
  · exact CW_true hc (ht rfl)
/-- Ways that meet again: what both come to. -/
theorem CW_cut {x y : Code} (M : Act → World → Prop) (hx : CW r P x (Exit.then M Q) a w) (hy : ∀ a w, M a w → CW r P y Q a w) : CW r P (.seq x y) Q a w :=
  CW_seq (CW_mono hx fun e a w h => by cases e <;> first | exact hy _ _ h | exact h)
theorem CW_loop {γ : Type} (S : γ → List (Nat × Value)) (H : γ → World → Prop) (μ : γ → Nat) (g0 : γ) {c : Code} (h0 : Agr s (S g0)) (hw : H g0 w)
    (hround : ∀ g τ w, H g w → CW r P c (Exit.then (fun a' w' => ∃ g' τ', a' = FR n (S g') τ' ds ∧ H g' w' ∧ μ g' < μ g) Q) (FR n (S g) τ ds) w) :
    CW r P (.loop c) Q (FR n s τ ds) w := by
  refine wpIn_loop_ghost (fun m a w => ∃ g τ', a = FR n (S g) τ' ds ∧ H g w ∧ μ g = m) (μ g0) ⟨g0, look s τ, FR_forget _ h0, hw, rfl⟩ ?_
  rintro m a w ⟨g, τ', rfl, hH, rfl⟩
  refine wpIn_mono (hround g τ' w hH) ?_
  intro e a' w' hq
  cases e with
  | normal => obtain ⟨g', τ'', e, hH', hlt⟩ := hq; exact ⟨μ g', hlt, g', τ'', e, hH', rfl⟩
  | _ => exact hq
/-- A loop's round has come to its end. -/
theorem round_end {γ : Type} {S : γ → List (Nat × Value)} {H : γ → World → Prop} {μ : γ → Nat} {g : γ} (g' : γ) (ha : Agr s (S g')) (hH : H g' w) (hlt : μ g' < μ g) :
    ∃ g' τ', FR n s τ ds = FR n (S g') τ' ds ∧ H g' w ∧ μ g' < μ g := ⟨g', _, FR_forget _ ha, hH, hlt⟩
end control

section entry
variable {P : Program}
def Ret (Post : Value → World → Prop) : Ending → World → Prop
  | .returned v, w => Post v w
  | _, _ => False
theorem Calls_of {f : FuncId} {fn : Func} {c : Code} {args : List Value} {w : World} {R : Ending → World → Prop} (hf : P.funcs[f]? = some fn) (hb : fn.body = some c) (n : Nat) (hn : fn.ntmps = n) (hle0 : Nat.ble args.length n = true)
    (h : CW none P c (bodyPost P fn R) (FR n (argS 0 args) (fun _ => undef) []) w) : Calls P f args.toArray w R := by
  refine (callsIn_wide (n := 0)).1 (callsIn_of_wp hf hb trivial ?_ rfl)
  rw [hn, FR_args args n (Nat.le_of_ble_eq_true hle0)]
  exact h
theorem Calls.ret {f : FuncId} {args : Array Value} {w : World} {A B : Value → World → Prop} (h : Calls P f args w (Ret A)) (hab : ∀ v w', A v w' → B v w') : Calls P f args w (Ret B) :=
  h.mono fun e w' hr => by cases e <;> first | exact hab _ _ hr | exact hr
end entry

section results
variable {P : Program} {fn : Func} {Post : Value → World → Prop} {n : Nat} {s : List (Nat × Value)} {τ : Nat → Value} {w : World}
theorem RET0 (h : fn.results = #[]) (k : Post (.tuple #[]) w) : bodyPost P fn (Ret Post) .ret (FR n s τ []) w :=
  ⟨rfl, _, by simp [results, h, go_sem], k⟩
theorem RET0n (h : fn.results = #[]) (k : Post (.tuple #[]) w) : bodyPost P fn (Ret Post) .normal (FR n s τ []) w :=
  ⟨rfl, _, by simp [results, h, go_sem], k⟩
theorem slot_of {t : Tmp} {v : Value} (hv : EVO n s (.tmp t) = some v) : (FR n s τ []).tmps[t]?.getD undef = v := by
  have := eval_of (τ := τ) (ds := []) hv
  simpa [Act.eval] using this
theorem RET1 {t : Tmp} {v : Value} (h : fn.results = #[.tmp t]) (hv : EVO n s (.tmp t) = some v) (k : Post v w) : bodyPost P fn (Ret Post) .ret (FR n s τ []) w :=
  ⟨rfl, v, by simp [results, h, go_sem, slot_of hv], k⟩
theorem RET2 {t u : Tmp} {v v' : Value} (h : fn.results = #[.tmp t, .tmp u]) (hv : EVO n s (.tmp t) = some v) (hv' : EVO n s (.tmp u) = some v') (k : Post (.tuple #[v, v']) w) : bodyPost P fn (Ret Post) .ret (FR n s τ []) w :=
  ⟨rfl, _, by simp [results, h, go_sem, slot_of hv, slot_of hv'], k⟩
theorem RET3 {t u x : Tmp} {v v' v'' : Value} (h : fn.results = #[.tmp t, .tmp u, .tmp x]) (hv : EVO n s (.tmp t) = some v) (hv' : EVO n s (.tmp u) = some v') (hv'' : EVO n s (.tmp x) = some v'') (k : Post (.tuple #[v, v', v'']) w) : bodyPost P fn (Ret Post) .ret (FR n s τ []) w :=
  ⟨rfl, _, by simp [results, h, go_sem, slot_of hv, slot_of hv', slot_of hv''], k⟩
end results

/- OPERATIONS THAT ONLY RECKON -/
def intOf2 : Option Value → Option Value → Option (IntKind × Int × Int)
  | some (.int k a), some (.int k' b) => cond (decide (k = k')) (some (k, a, b)) none
  | _, _ => none
theorem intOf2_some {x y : Option Value} {k : IntKind} {a b : Int} (h : intOf2 x y = some (k, a, b)) : x = some (.int k a) ∧ y = some (.int k b) := by
  unfold intOf2 at h
  split at h
  · rename_i k1 a1 k2 b1
    by_cases hk : k1 = k2
    · subst hk; simp at h; obtain ⟨rfl, rfl, rfl⟩ := h; exact ⟨rfl, rfl⟩
    · simp [hk] at h
  · cases h
def evalArith (n : Nat) (s : List (Nat × Value)) : Op → Option (IntKind × Int)
  | .binOp .add _ x y _ => match intOf2 (EVO n s x) (EVO n s y) with
    | some (k, a, b) => some (k, a + b)
    | none => none
  | .binOp .sub _ x y _ => match intOf2 (EVO n s x) (EVO n s y) with
    | some (k, a, b) => some (k, a - b)
    | none => none
  | .binOp .mul _ x y _ => match intOf2 (EVO n s x) (EVO n s y) with
    | some (k, a, b) => some (k, a * b)
    | none => none
  | .unOp .neg _ x => match EVO n s x with
    | some (.int k a) => some (k, 0 - a)
    | _ => none
  | _ => none
def cmpOf (bo : BinOp) (a b : Int) : Option Bool := match bo with
  | .eql => some (decide (a = b))
  | .neq => some (decide (¬ a = b))
  | .lss => some (decide (a < b))
  | .leq => some (decide (a ≤ b))
  | .gtr => some (decide (b < a))
  | .geq => some (decide (b ≤ a))
  | _ => none
def strOf2 : Option Value → Option Value → Option (ByteArray × ByteArray)
  | some (.string a), some (.string b) => some (a, b)
  | _, _ => none
theorem strOf2_some {x y : Option Value} {a b : ByteArray} (h : strOf2 x y = some (a, b)) : x = some (.string a) ∧ y = some (.string b) := by
  unfold strOf2 at h
  split at h
  · cases h; exact ⟨rfl, rfl⟩
  · cases h
def cmpS (bo : BinOp) (a b : ByteArray) : Option Bool := match bo with
  | .eql => some (decide (a = b))
  | .neq => some (decide (¬ a = b))
  | .lss => some (Op.bytesLess a.toList b.toList)
  | _ => none
def evalCmp (n : Nat) (s : List (Nat × Value)) : Op → Option Bool
  | .binOp bo _ x y _ => match intOf2 (EVO n s x) (EVO n s y) with
    | some (_, a, b) => cmpOf bo a b
    | none => match strOf2 (EVO n s x) (EVO n s y) with
      | some (a, b) => cmpS bo a b
      | none => none
  | _ => none
def evalNil (T : List (Nat × TI)) (n : Nat) (s : List (Nat × Value)) : Op → Option Bool
  | .binOp .eql t x y _ => match lookT T t, EVO n s x, EVO n s y with
    | some { u := .bool, .. }, some (.bool a), some (.bool b) => some (decide (a = b))
    | some { u := .pointer _, .. }, some (.pointer (some _)), some (.pointer none) => some false
    | some { u := .pointer _, .. }, some (.pointer none), some (.pointer none) => some true
    | some { u := .func .., .. }, some (.func ..), some .nilFunc => some false
    | some { u := .func .., .. }, some .nilFunc, some .nilFunc => some true
    | some { u := .slice _, .. }, some (.slice (some _) _ _), some (.slice none _ _) => some false
    | some { u := .slice _, .. }, some (.slice none _ _), some (.slice none _ _) => some true
    | some { u := .map .., .. }, some (.map (some _)), some (.map none) => some false
    | some { u := .map .., .. }, some (.map none), some (.map none) => some true
    | _, _, _ => none
  | .binOp .neq t x y _ => match lookT T t, EVO n s x, EVO n s y with
    | some { u := .bool, .. }, some (.bool a), some (.bool b) => some (decide (¬ a = b))
    | some { u := .pointer _, .. }, some (.pointer (some _)), some (.pointer none) => some true
    | some { u := .pointer _, .. }, some (.pointer none), some (.pointer none) => some false
    | some { u := .func .., .. }, some (.func ..), some .nilFunc => some true
    | some { u := .func .., .. }, some .nilFunc, some .nilFunc => some false
    | some { u := .slice _, .. }, some (.slice (some _) _ _), some (.slice none _ _) => some true
    | some { u := .slice _, .. }, some (.slice none _ _), some (.slice none _ _) => some false
    | some { u := .map .., .. }, some (.map (some _)), some (.map none) => some true
    | some { u := .map .., .. }, some (.map none), some (.map none) => some false
    | _, _, _ => none
  | _ => none
def evalL (n : Nat) (s : List (Nat × Value)) : List Operand → Option (List Value)
  | [] => some []
  | x :: l => match EVO n s x, evalL n s l with
    | some v, some vs => some (v :: vs)
    | _, _ => none
theorem evalL_of {n : Nat} {s : List (Nat × Value)} {τ : Nat → Value} {ds : List Deferred} : ∀ {l : List Operand} {vs : List Value}, evalL n s l = some vs → l.map (FR n s τ ds).eval = vs
  | [], vs, h => by cases h; rfl
  | x :: l, vs, h => by
    simp only [evalL] at h
    cases hx : EVO n s x with
    | none => rw [hx] at h; simp at h
    | some v =>
      cases hl : evalL n s l with
      | none => rw [hx, hl] at h; simp at h
      | some ws =>
        rw [hx, hl] at h; cases h
        rw [List.map_cons, eval_of hx, evalL_of hl]
def getA {α : Type} : List α → Nat → Option α
  | [], _ => none
  | x :: _, 0 => some x
  | _ :: l, i + 1 => getA l i
theorem getA_eq {α : Type} : ∀ (l : List α) (i : Nat), getA l i = l[i]?
  | [], _ => rfl
  | _ :: _, 0 => rfl
  | _ :: l, i + 1 => by simpa [getA] using getA_eq l i
def evalOp (T : List (Nat × TI)) (n : Nat) (s : List (Nat × Value)) : Op → Option Value
  | .move x | .assign x => EVO n s x
  | .nilCheck x => match EVO n s x with
    | some (.pointer (some a)) => some (.pointer (some a))
    | some (.func (.func f) a c) => some (.func (.func f) a c)
    | some (.func (.yield f) a c) => some (.func (.yield f) a c)
    | some (.map m) => some (.map m)
    | some (.slice a l c) => some (.slice a l c)
    | _ => none
  | .extract t i => match EVO n s t with
    | some (.tuple vs) => getA vs.toList i
    | _ => none
  | .makeFunc fn first captured => match evalL n s first.toList, evalL n s captured.toList with
    | some a, some c => some (.func fn a.toArray c.toArray)
    | _, _ => none
  | .fieldAddr t x f => match lookT T t, EVO n s x with
    | some { u := .struct fields, .. }, some (.pointer (some ⟨b, o, none⟩)) =>
      match getA fields.toList f with
      | some fd => match lookT T fd.type with
        | some ti => cond (Nat.beq ti.size 0) none (some (.pointer (some ⟨b, o + fd.offset, none⟩)))
        | none => none
      | none => none
    | _, _ => none
  | .pick c a b => match EVO n s c with
    | some (.bool true) => EVO n s a
    | some (.bool false) => EVO n s b
    | _ => none
  | .unOp .not _ x => match EVO n s x with
    | some (.bool b) => some (.bool (!b))
    | _ => none
  | .convert src dst x => match lookT T src, lookT T dst, EVO n s x with
    | some _, some { u := .int k, .. }, some (.int _ a) => some (.int k (k.wrap a))
    | some _, some { u := .string, .. }, some (.string a) => some (.string a)
    | _, _, _ => none
  | .call { callee := .builtin .len, args := xs, argTypes := ts } => match evalL n s xs.toList, ts.toList with
    | some [.slice _ l _], [t] => match lookT T t with
      | some { u := .slice _, .. } => some (.int .i64 (l : Int))
      | _ => none
    | some [.string a], [t] => match lookT T t with
      | some { u := .string, .. } => some (.int .i64 (a.size : Int))
      | _ => none
    | _, _ => none
  | .field t x f => match lookT T t, EVO n s x with
    | some { u := .struct fields, .. }, some (.agg cs) =>
      match getA fields.toList f with
      | some fd => match lookT T fd.type with
        | some ti => cond ti.agg none (getA cs.toList fd.offset)
        | none => none
      | none => none
    | _, _ => none
  | _ => none

section right
variable {P : Program} {T : List (Nat × TI)} {n : Nat} {s : List (Nat × Value)} {ρ : Operand → Value} (hρ : ∀ x v, EVO n s x = some v → ρ x = v)
include hρ
theorem evalArith_run {o : Oper} {k : IntKind} {e : Int} (h : evalArith n s o.op = some (k, e)) (w : World) : (execOp ρ o).run P w = .ok (.value (.int k (k.wrap e))) w := by
  cases ho : o.op with
  | binOp bo t x y yt =>
    rw [ho] at h
    cases hx : intOf2 (EVO n s x) (EVO n s y) with
    | none => cases bo <;> simp [evalArith, hx] at h
    | some p =>
      obtain ⟨k1, a1, b1⟩ := p
      obtain ⟨h1, h2⟩ := intOf2_some hx
      have e1 := hρ _ _ h1
      have e2 := hρ _ _ h2
      cases bo <;> simp only [evalArith, hx] at h <;> first | (cases h; done) | (cases h; simp [execOp, ho, e1, e2, binOp, Op.intArith, eqGuard, go_sem])
  | unOp u t x =>
    rw [ho] at h
    cases u with
    | neg =>
      cases hx : EVO n s x with
      | none => simp [evalArith, hx] at h
      | some v =>
        have e1 := hρ _ _ hx
        cases v <;> simp only [evalArith, hx] at h <;> first | (cases h; done) | (cases h; simp [execOp, ho, e1, Op.unary, Op.intArith, go_sem])
    | _ => simp [evalArith] at h
  | _ => rw [ho] at h; simp [evalArith] at h
omit hρ in
theorem toList_eq {a b : ByteArray} : (a.toList == b.toList) = decide (a = b) := by
  by_cases h : a = b
  · subst h; simp
  · have : ¬ a.toList = b.toList := fun e => h (by
      rw [ByteArray.toList_eq, ByteArray.toList_eq] at e
      exact ByteArray.ext (Array.toList_inj.1 e))
    simp [h, this]
theorem evalCmp_run {o : Oper} {b : Bool} (h : evalCmp n s o.op = some b) (w : World) : (execOp ρ o).run P w = .ok (.value (.bool b)) w := by
  cases ho : o.op with
  | binOp bo t x y yt =>
    rw [ho] at h
    cases hx : intOf2 (EVO n s x) (EVO n s y) with
    | some p =>
      obtain ⟨k1, a1, b1⟩ := p
      obtain ⟨h1, h2⟩ := intOf2_some hx
      have e1 := hρ _ _ h1
      have e2 := hρ _ _ h2
      cases bo <;> simp only [evalCmp, hx, cmpOf] at h <;> first | (cases h; done) | (cases h; simp [execOp, ho, e1, e2, binOp, Op.intCmp, eqGuard, go_sem]; done) | (cases h; simp [execOp, ho, e1, e2, binOp, Op.intCmp, eqGuard, go_sem]; rfl)
    | none =>
      cases hs : strOf2 (EVO n s x) (EVO n s y) with
      | none => simp [evalCmp, hx, hs] at h
      | some p =>
        obtain ⟨a1, b1⟩ := p
        obtain ⟨h1, h2⟩ := strOf2_some hs
        have e1 := hρ _ _ h1
        have e2 := hρ _ _ h2
        cases bo <;> simp only [evalCmp, hx, hs, cmpS] at h <;> first | (cases h; done) | (cases h; simp [execOp, ho, e1, e2, binOp, Op.stringOp, eqGuard, go_sem, toList_eq]; done) | (cases h; simp [execOp, ho, e1, e2, binOp, Op.stringOp, eqGuard, go_sem, toList_eq]; rfl)
  | _ => rw [ho] at h; simp [evalCmp] at h

omit hρ in
theorem exec_bin {o : Oper} {bo : BinOp} {t yt : TypeId} {x y : Operand} {vx vy v : Value} {w : World} (ho : o.op = .binOp bo t x y yt) (e1 : ρ x = vx) (e2 : ρ y = vy) (hg : eqGuard bo t x y vx vy = pure ()) (hb : (binOp bo t vx vy).run P w = .ok v w) :
    (execOp ρ o).run P w = .ok (.value v) w := by
  unfold execOp
  rw [ho]
  show Sem.run P (do let v ← (do eqGuard bo t x y (ρ x) (ρ y); binOp bo t (ρ x) (ρ y)); pure (Next.value v)) w = _
  rw [e1, e2, hg]
  simp only [Sem.run_bind, Sem.run_pure, Result.andThen, hb]
theorem evalNil_run (hT : TyOK P T) {o : Oper} {b : Bool} (h : evalNil T n s o.op = some b) (w : World) : (execOp ρ o).run P w = .ok (.value (.bool b)) w := by
  cases ho : o.op with
  | binOp bo t x y yt =>
    rw [ho] at h
    cases ht : lookT T t with
    | none => cases bo <;> simp [evalNil, ht] at h
    | some i =>
      have hu := ty_under (hT _ _ ht)
      obtain ⟨u, z, sz, by_⟩ := i
      cases hx : EVO n s x with
      | none => cases bo <;> simp [evalNil, ht, hx] at h
      | some vx =>
        cases hy : EVO n s y with
        | none => cases bo <;> simp [evalNil, ht, hx, hy] at h
        | some vy =>
          have e1 := hρ _ _ hx
          have e2 := hρ _ _ hy
          have hm : ∀ vx vy, Op.equal t vx vy = Op.equalIn (9999 + 1) t vx vy := fun _ _ => rfl
          cases bo
          case eql =>
            simp only [evalNil, ht, hx, hy] at h
            split at h <;> (first | (rename_i h0 h1 h2; cases h0; cases h1; cases h2; cases h) | (cases h; done))
            all_goals
              refine exec_bin ho e1 e2 rfl ?_
              show Sem.run P (do pure (Value.bool (← Op.equal t _ _))) w = _
              rw [hm]
              unfold Op.equalIn
              simp only [Sem.run_bind, hu, Result.andThen, Sem.run_pure]
              try rfl
          case neq =>
            simp only [evalNil, ht, hx, hy] at h
            split at h <;> (first | (rename_i h0 h1 h2; cases h0; cases h1; cases h2; cases h) | (cases h; done))
            all_goals
              refine exec_bin ho e1 e2 rfl ?_
              show Sem.run P (do pure (Value.bool (!(← Op.equal t _ _)))) w = _
              rw [hm]
              unfold Op.equalIn
              simp only [Sem.run_bind, hu, Result.andThen, Sem.run_pure]
              first | rfl | (simp; rfl) | simp
          all_goals simp [evalNil] at h
  | _ => rw [ho] at h; simp [evalNil] at h
omit hρ in
theorem getA_arr {α : Type} (a : Array α) (i : Nat) : getA a.toList i = a[i]? := by rw [getA_eq]; simp
theorem evalL_run : ∀ {l : List Operand} {vs : List Value}, evalL n s l = some vs → l.map ρ = vs
  | [], vs, h => by cases h; rfl
  | x :: l, vs, h => by
    simp only [evalL] at h
    cases hx : EVO n s x with
    | none => rw [hx] at h; simp at h
    | some v =>
      cases hl : evalL n s l with
      | none => rw [hx, hl] at h; simp at h
      | some ws =>
        rw [hx, hl] at h; cases h
        rw [List.map_cons, hρ _ _ hx, evalL_run hl]
theorem evalA_run {l : Array Operand} {vs : List Value} (h : evalL n s l.toList = some vs) : l.map ρ = vs.toArray := by
  have := evalL_run hρ h
  rw [← this]
  apply Array.toList_inj.1
  simp
theorem evalOp_run (hT : TyOK P T) {o : Oper} {v : Value} (h : evalOp T n s o.op = some v) (w : World) : (execOp ρ o).run P w = .ok (.value v) w := by
  cases ho : o.op with
  | move x => rw [ho] at h; have := hρ _ _ h; unfold execOp; rw [ho]; show Result.ok (Next.value (ρ x)) w = _; rw [this]
  | assign x => rw [ho] at h; have := hρ _ _ h; unfold execOp; rw [ho]; show Result.ok (Next.value (ρ x)) w = _; rw [this]
  | pick c a b =>
    rw [ho] at h
    cases hc : EVO n s c with
    | none => simp [evalOp, hc] at h
    | some vc =>
      have e0 := hρ _ _ hc
      simp only [evalOp, hc] at h
      split at h <;> first | (cases h; done) | skip
      all_goals
        rename_i h0; cases h0
        have e1 := hρ _ _ h
        unfold execOp; rw [ho]; simp only []; rw [e0, e1]; rfl
  | nilCheck x =>
    rw [ho] at h
    cases hx : EVO n s x with
    | none => simp [evalOp, hx] at h
    | some vx =>
      have e1 := hρ _ _ hx
      simp only [evalOp, hx] at h
      split at h <;> first | (cases h; done) | skip
      all_goals
        rename_i h0; cases h0; cases h
        unfold execOp; rw [ho]; (try simp only []); rw [e1]; rfl
  | extract x i =>
    rw [ho] at h
    cases hx : EVO n s x with
    | none => simp [evalOp, hx] at h
    | some vx =>
      have e1 := hρ _ _ hx
      simp only [evalOp, hx] at h
      split at h <;> first | (cases h; done) | skip
      rename_i h0; cases h0
      rw [getA_arr] at h
      unfold execOp; rw [ho]; simp only []; rw [e1]
      simp only [Instr.extract, h]
      rfl
  | makeFunc fn a c =>
    rw [ho] at h
    simp only [evalOp] at h
    split at h <;> first | (cases h; done) | skip
    rename_i h1 h2
    cases h
    unfold execOp; rw [ho]; simp only []; rw [evalA_run hρ h1, evalA_run hρ h2]; rfl
  | fieldAddr t x f =>
    rw [ho] at h
    simp only [evalOp] at h
    split at h <;> first | (cases h; done) | skip
    rename_i h1 h2
    split at h <;> first | (cases h; done) | skip
    rename_i hf
    split at h <;> first | (cases h; done) | skip
    rename_i ti hti
    have hu := ty_under (hT _ _ h1)
    have hs := ty_sizeOf (hT _ _ hti)
    have e1 := hρ _ _ h2
    rw [getA_arr] at hf
    cases hz : Nat.beq ti.size 0 with
    | true => rw [hz] at h; cases h
    | false =>
      rw [hz] at h; cases h
      have hz' : ti.size ≠ 0 := fun e => by rw [e] at hz; cases hz
      unfold execOp; rw [ho]; simp only []; rw [e1]
      simp only [Instr.fieldAt, Sem.run_bind, hu, Result.andThen, hf, Instr.sureAddr, Sem.run_pure, fieldPlace, hs, hz', if_false]
      simp [Addr.add]
      try (split <;> simp_all)
  | unOp u t x =>
    rw [ho] at h
    cases u <;> (try (simp [evalOp] at h; done))
    simp only [evalOp] at h
    cases hx : EVO n s x with
    | none => simp [hx] at h
    | some vx =>
      have e1 := hρ _ _ hx
      simp only [hx] at h
      split at h <;> first | (cases h; done) | skip
      rename_i h0; cases h0; cases h
      unfold execOp; rw [ho]; simp only []; rw [e1]; rfl
  | convert a b x =>
    rw [ho] at h
    simp only [evalOp] at h
    split at h <;> first | (cases h; done) | skip
    all_goals
      rename_i h1 h2 h3
      cases h
      have hu := ty_under (hT _ _ h1)
      have hu2 := ty_under (hT _ _ h2)
      have e1 := hρ _ _ h3
      unfold execOp; rw [ho]; simp only []; rw [e1]
      simp only [convert, Sem.run_bind, hu, hu2, Result.andThen]
      first | rfl | (simp [Conv.intToInt, go_sem]; done)
  | call c =>
    rw [ho] at h
    obtain ⟨cl, xs, ts⟩ := c
    cases cl with
    | builtin b =>
      cases b <;> (try (simp [evalOp] at h; done))
      simp only [evalOp] at h
      split at h <;> first | (cases h; done) | skip
      all_goals
        rename_i h1 h2
        split at h <;> first | (cases h; done) | skip
        rename_i h3
        cases h
        have hu := ty_under (hT _ _ h3)
        have e1 := evalA_run hρ h1
        have e2 : ts = #[_] := Array.toList_inj.1 h2
        unfold execOp; rw [ho]; simp only []
        simp only [resolve, e1, e2, Sem.run_bind, Sem.run_pure, Result.andThen, invoke, builtin, Builtin.len_]
        simp [go_sem, hu, goInt]
    | value f => simp [evalOp] at h
    | invoke r m => simp [evalOp] at h
  | field t x f =>
    rw [ho] at h
    simp only [evalOp] at h
    split at h <;> first | (cases h; done) | skip
    rename_i h1 h2
    split at h <;> first | (cases h; done) | skip
    rename_i hf
    split at h <;> first | (cases h; done) | skip
    rename_i ti hti
    have hu := ty_under (hT _ _ h1)
    have hs := ty_isAgg (hT _ _ hti)
    have e1 := hρ _ _ h2
    rw [getA_arr] at hf
    cases hz : ti.agg with
    | true => rw [hz] at h; cases h
    | false =>
      rw [hz] at h
      simp only [cond_false, getA_arr] at h
      unfold execOp; rw [ho]; simp only []; rw [e1]
      simp only [Instr.field, Sem.run_bind, hu, Result.andThen, hf, asAgg, Sem.run_pure, part, hs, hz, h]
      rfl
  | _ => rw [ho] at h; simp [evalOp] at h
end right

section steps
variable {r : Option Nat} {P : Program} {T : List (Nat × TI)} {ops : Array Oper} {Q : Exit → Act → World → Prop} {rest : List Oper} {n : Nat} {s : List (Nat × Value)} {τ : Nat → Value} {ds : List Deferred} {w : World}
  {op : Op} {ty : TypeId} {ps : String} {af : Array Edge} {d : Nat}
/-- An operation whose run is known. -/
theorem LW_run {o : Oper} {a : Act} {v : Value} {w' : World} (hg : o.guard = none) (hd : ∀ c, o.op ≠ .defer c) (h : (execOp a.eval o).run P w = .ok (.value v) w') (k : LW r P ops Q rest (a.put o.dst v) w') : LW r P ops Q (o :: rest) a w := by
  refine wpListIn_plain hg fun K hK => ⟨fun _ _ => trivial, ?_⟩
  rw [Oper.semAt_eq _ _ _ hd, h]
  exact hK _ _ k
theorem LW_runSkip {o : Oper} {a : Act} {w' : World} (hg : o.guard = none) (hd : ∀ c, o.op ≠ .defer c) (h : (execOp a.eval o).run P w = .ok .skip w') (k : LW r P ops Q rest (a.put o.dst undef) w') : LW r P ops Q (o :: rest) a w := by
  refine wpListIn_plain hg fun K hK => ⟨fun _ _ => trivial, ?_⟩
  rw [Oper.semAt_eq _ _ _ hd, h]
  exact hK _ _ k
theorem evalOp_defer {c : Call} : evalOp T n s (.defer c) = none := rfl
theorem evalCmp_defer {c : Call} : evalCmp n s (.defer c) = none := rfl
theorem evalNil_defer {c : Call} : evalNil T n s (.defer c) = none := rfl
theorem evalArith_defer {c : Call} : evalArith n s (.defer c) = none := rfl
theorem LW_pure (hT : TyOK P T) {v : Value} (h : evalOp T n s op = some v) (k : LW r P ops Q rest (FR n ((d, v) :: s) τ ds) w) :
    LW r P ops Q (⟨some d, op, ty, ps, af, none⟩ :: rest) (FR n s τ ds) w := by
  refine LW_run rfl (fun c e => ?_) (evalOp_run (o := ⟨some d, op, ty, ps, af, none⟩) (fun x v => eval_of) hT h w) (by rw [put_FR]; exact k)
  rw [show op = _ from e, evalOp_defer] at h; cases h
theorem LW_pure0 (hT : TyOK P T) {v : Value} (h : evalOp T n s op = some v) (k : LW r P ops Q rest (FR n s τ ds) w) :
    LW r P ops Q (⟨none, op, ty, ps, af, none⟩ :: rest) (FR n s τ ds) w := by
  refine LW_run rfl (fun c e => ?_) (evalOp_run (o := ⟨none, op, ty, ps, af, none⟩) (fun x v => eval_of) hT h w) k
  rw [show op = _ from e, evalOp_defer] at h; cases h
theorem LW_cmp {p : Prop} [inst : Decidable p] (h : evalCmp n s op = some (decide p)) (ht : p → LW r P ops Q rest (FR n ((d, .bool true) :: s) τ ds) w) (hf : ¬ p → LW r P ops Q rest (FR n ((d, .bool false) :: s) τ ds) w) :
    LW r P ops Q (⟨some d, op, ty, ps, af, none⟩ :: rest) (FR n s τ ds) w := by
  refine LW_run (v := .bool (decide p)) rfl (fun c e => ?_) (evalCmp_run (o := ⟨some d, op, ty, ps, af, none⟩) (fun x v => eval_of) h w) ?_
  · rw [show op = _ from e, evalCmp_defer] at h; cases h
  · rw [put_FR]
    by_cases hp : p
    · simp only [hp, decide_true]; exact ht hp
    · simp only [hp, decide_false]; exact hf hp
theorem LW_cmpB {b : Bool} (h : evalCmp n s op = some b) (k : LW r P ops Q rest (FR n ((d, .bool b) :: s) τ ds) w) :
    LW r P ops Q (⟨some d, op, ty, ps, af, none⟩ :: rest) (FR n s τ ds) w := by
  refine LW_run (v := .bool b) rfl (fun c e => ?_) (evalCmp_run (o := ⟨some d, op, ty, ps, af, none⟩) (fun x v => eval_of) h w) (by rw [put_FR]; exact k)
  rw [show op = _ from e, evalCmp_defer] at h; cases h
theorem LW_nileq (hT : TyOK P T) {b : Bool} (h : evalNil T n s op = some b) (k : LW r P ops Q rest (FR n ((d, .bool b) :: s) τ ds) w) :
    LW r P ops Q (⟨some d, op, ty, ps, af, none⟩ :: rest) (FR n s τ ds) w := by
  refine LW_run (v := .bool b) rfl (fun c e => ?_) (evalNil_run (o := ⟨some d, op, ty, ps, af, none⟩) (fun x v => eval_of) hT h w) (by rw [put_FR]; exact k)
  rw [show op = _ from e, evalNil_defer] at h; cases h
theorem LW_arith {k : IntKind} {e : Int} (h : evalArith n s op = some (k, e)) (hk : k.wrap e = e) (c : LW r P ops Q rest (FR n ((d, .int k e) :: s) τ ds) w) :
    LW r P ops Q (⟨some d, op, ty, ps, af, none⟩ :: rest) (FR n s τ ds) w := by
  have hr := evalArith_run (P := P) (o := ⟨some d, op, ty, ps, af, none⟩) (ρ := (FR n s τ ds).eval) (fun x v => eval_of) h w
  rw [hk] at hr
  refine LW_run (v := .int k e) rfl (fun c e => ?_) hr (by rw [put_FR]; exact c)
  rw [show op = _ from e, evalArith_defer] at h; cases h
theorem LW_arithW {k : IntKind} {e : Int} (h : evalArith n s op = some (k, e)) (c : LW r P ops Q rest (FR n ((d, .int k (k.wrap e)) :: s) τ ds) w) :
    LW r P ops Q (⟨some d, op, ty, ps, af, none⟩ :: rest) (FR n s τ ds) w := by
  have hr := evalArith_run (P := P) (o := ⟨some d, op, ty, ps, af, none⟩) (ρ := (FR n s τ ds).eval) (fun x v => eval_of) h w
  refine LW_run (v := .int k (k.wrap e)) rfl (fun c e => ?_) hr (by rw [put_FR]; exact c)
  rw [show op = _ from e, evalArith_defer] at h; cases h
theorem LW_i64 {e : Int} (h : evalArith n s op = some (.i64, e)) (h1 : -9223372036854775808 ≤ e) (h2 : e ≤ 9223372036854775807) (c : LW r P ops Q rest (FR n ((d, .int .i64 e) :: s) τ ds) w) :
    LW r P ops Q (⟨some d, op, ty, ps, af, none⟩ :: rest) (FR n s τ ds) w := LW_arith h (IntWalk.i64_in e (by omega)) c
/-- An operation under a guard: the guard says yes; it says no. -/
def yld (s : List (Nat × Value)) (n : Nat) (ops : List Oper) (j : Nat) : Option Bool := match getA ops j with
  | some { dst := some t, .. } => match cond (Nat.blt t n) (lookO s t) none with
    | some (.bool b) => some b
    | _ => none
  | _ => none
theorem yld_yielded {l : List Oper} {j : Nat} {b : Bool} (h : yld s n l j = some b) : yielded l.toArray (FR n s τ ds).tmps j = some b := by
  unfold yld at h
  rw [getA_eq] at h
  split at h
  · rename_i t _ _ _ _ _ ho
    split at h
    · rename_i b' hb
      cases h
      cases ht : Nat.blt t n with
      | false => rw [ht] at hb; cases hb
      | true =>
        rw [ht] at hb
        have hlt : t < n := by rwa [Nat.blt_eq] at ht
        have hl := look_of (τ := τ) (show lookO s t = _ from hb)
        have he : (FR n s τ ds).tmps[t]? = some (.bool b) := by simp [FR, hlt, hl]
        unfold yielded
        simp [ho, he]
    · cases h
  · cases h
theorem LW_take {l : List Oper} {g : Nat × Bool} {dst : Option Tmp} (hy : yld s n l g.1 = some g.2) (k : LW r P l.toArray Q (⟨dst, op, ty, ps, af, none⟩ :: rest) (FR n s τ ds) w) :
    LW r P l.toArray Q (⟨dst, op, ty, ps, af, some g⟩ :: rest) (FR n s τ ds) w := by
  have hy' := yld_yielded (τ := τ) (ds := ds) hy
  unfold LW wpListIn at k ⊢
  simp only [Region.wanted, if_true] at k
  simp only [Region.wanted, hy', beq_self_eq_true, if_true]
  exact k
theorem LW_pass {l : List Oper} {j : Nat} {b b' : Bool} (hy : yld s n l j = some b') (hne : b' = !b) (k : LW r P l.toArray Q rest (FR n ((d, undef) :: s) τ ds) w) :
    LW r P l.toArray Q (⟨some d, op, ty, ps, af, some (j, b)⟩ :: rest) (FR n s τ ds) w := by
  have hy' := yld_yielded (τ := τ) (ds := ds) hy
  subst hne
  unfold LW wpListIn
  simp only [Region.wanted, hy']
  rw [if_neg (by cases b <;> simp)]
  exact ⟨fun _ _ => trivial, by rw [put_FR]; exact k⟩
theorem LW_pass0 {l : List Oper} {j : Nat} {b b' : Bool} (hy : yld s n l j = some b') (hne : b' = !b) (k : LW r P l.toArray Q rest (FR n s τ ds) w) :
    LW r P l.toArray Q (⟨none, op, ty, ps, af, some (j, b)⟩ :: rest) (FR n s τ ds) w := by
  have hy' := yld_yielded (τ := τ) (ds := ds) hy
  subst hne
  unfold LW wpListIn
  simp only [Region.wanted, hy']
  rw [if_neg (by cases b <;> simp)]
  exact ⟨fun _ _ => trivial, k⟩
/-- The guard's own guard said no: nothing was laid there. -/
theorem LW_passU {l : List Oper} {j : Nat} {b : Bool} {dst : Option Tmp} (hy : yielded l.toArray (FR n s τ ds).tmps j = none) (k : LW r P l.toArray Q rest ((FR n s τ ds).put dst undef) w) :
    LW r P l.toArray Q (⟨dst, op, ty, ps, af, some (j, b)⟩ :: rest) (FR n s τ ds) w := by
  unfold LW wpListIn
  simp only [Region.wanted, hy]
  rw [if_neg (by simp)]
  exact ⟨fun _ _ => trivial, k⟩
end steps
end Go.Sl
