/- More steps: parts of slices, new slices, bits and division, stores into rows, boxed results. -/
import Derived.Test.YtaofhbjlbdpjhaaSlMap2
set_option linter.unusedVariables false
set_option linter.unusedSimpArgs false
namespace Go.Sl
open Go.RowKit

/- CUTS -/
structure Stop (p : Prop) : Prop where
  go : p
section
variable {r : Option Nat} {P : Program} {Q : Exit → Act → World → Prop} {a : Act} {w : World}
/-- Here a walk that goes on by itself stands still. -/
theorem CW_stop {i : Nat} {c : Code} (h : Stop (CW r P (.block i c) Q a w)) : CW r P (.block i c) Q a w := h.go
theorem CW_stopR {i : Nat} {l : Array Oper} {b : Bool} {y : Code} (h : Stop (CW r P (.seq (.region i l b) y) Q a w)) : CW r P (.seq (.region i l b) y) Q a w := h.go
/- What stands behind some steps is shown once, for all the ways that lead to it. -/
theorem CW_late1 {x0 z : Code} (M : Act → World → Prop) (hz : ∀ a w, M a w → CW r P z Q a w) (k : (∀ a w, M a w → CW r P z Q a w) → CW r P (.seq x0 z) Q a w) : CW r P (.seq x0 z) Q a w := k hz
theorem CW_late2 {x0 x1 z : Code} (M : Act → World → Prop) (hz : ∀ a w, M a w → CW r P z Q a w) (k : (∀ a w, M a w → CW r P z Q a w) → CW r P (.seq x0 (.seq x1 z)) Q a w) : CW r P (.seq x0 (.seq x1 z)) Q a w := k hz
theorem CW_late3 {x0 x1 x2 z : Code} (M : Act → World → Prop) (hz : ∀ a w, M a w → CW r P z Q a w) (k : (∀ a w, M a w → CW r P z Q a w) → CW r P (.seq x0 (.seq x1 (.seq x2 z))) Q a w) : CW r P (.seq x0 (.seq x1 (.seq x2 z))) Q a w := k hz
theorem CW_late4 {x0 x1 x2 x3 z : Code} (M : Act → World → Prop) (hz : ∀ a w, M a w → CW r P z Q a w) (k : (∀ a w, M a w → CW r P z Q a w) → CW r P (.seq x0 (.seq x1 (.seq x2 (.seq x3 z)))) Q a w) : CW r P (.seq x0 (.seq x1 (.seq x2 (.seq x3 z)))) Q a w := k hz
theorem CW_late5 {x0 x1 x2 x3 x4 z : Code} (M : Act → World → Prop) (hz : ∀ a w, M a w → CW r P z Q a w) (k : (∀ a w, M a w → CW r P z Q a w) → CW r P (.seq x0 (.seq x1 (.seq x2 (.seq x3 (.seq x4 z))))) Q a w) : CW r P (.seq x0 (.seq x1 (.seq x2 (.seq x3 (.seq x4 z))))) Q a w := k hz
theorem CW_late6 {x0 x1 x2 x3 x4 x5 z : Code} (M : Act → World → Prop) (hz : ∀ a w, M a w → CW r P z Q a w) (k : (∀ a w, M a w → CW r P z Q a w) → CW r P (.seq x0 (.seq x1 (.seq x2 (.seq x3 (.seq x4 (.seq x5 z)))))) Q a w) : CW r P (.seq x0 (.seq x1 (.seq x2 (.seq x3 (.seq x4 (.seq x5 z)))))) Q a w := k hz
theorem CW_late7 {x0 x1 x2 x3 x4 x5 x6 z : Code} (M : Act → World → Prop) (hz : ∀ a w, M a w → CW r P z Q a w) (k : (∀ a w, M a w → CW r P z Q a w) → CW r P (.seq x0 (.seq x1 (.seq x2 (.seq x3 (.seq x4 (.seq x5 (.seq x6 z))))))) Q a w) : CW r P (.seq x0 (.seq x1 (.seq x2 (.seq x3 (.seq x4 (.seq x5 (.seq x6 z))))))) Q a w := k hz
theorem CW_late8 {x0 x1 x2 x3 x4 x5 x6 x7 z : Code} (M : Act → World → Prop) (hz : ∀ a w, M a w → CW r P z Q a w) (k : (∀ a w, M a w → CW r P z Q a w) → CW r P (.seq x0 (.seq x1 (.seq x2 (.seq x3 (.seq x4 (.seq x5 (.seq x6 (.seq x7 z)))))))) Q a w) : CW r P (.seq x0 (.seq x1 (.seq x2 (.seq x3 (.seq x4 (.seq x5 (.seq x6 (.seq x7 z)))))))) Q a w := k hz
theorem CW_late9 {x0 x1 x2 x3 x4 x5 x6 x7 x8 z : Code} (M : Act → World → Prop) (hz : ∀ a w, M a w → CW r P z Q a w) (k : (∀ a w, M a w → CW r P z Q a w) → CW r P (.seq x0 (.seq x1 (.seq x2 (.seq x3 (.seq x4 (.seq x5 (.seq x6 (.seq x7 (.seq x8 z))))))))) Q a w) : CW r P (.seq x0 (.seq x1 (.seq x2 (.seq x3 (.seq x4 (.seq x5 (.seq x6 (.seq x7 (.seq x8 z))))))))) Q a w := k hz
theorem CW_late10 {x0 x1 x2 x3 x4 x5 x6 x7 x8 x9 z : Code} (M : Act → World → Prop) (hz : ∀ a w, M a w → CW r P z Q a w) (k : (∀ a w, M a w → CW r P z Q a w) → CW r P (.seq x0 (.seq x1 (.seq x2 (.seq x3 (.seq x4 (.seq x5 (.seq x6 (.seq x7 (.seq x8 (.seq x9 z)))))))))) Q a w) : CW r P (.seq x0 (.seq x1 (.seq x2 (.seq x3 (.seq x4 (.seq x5 (.seq x6 (.seq x7 (.seq x8 (.seq x9 z)))))))))) Q a w := k hz
theorem CW_late11 {x0 x1 x2 x3 x4 x5 x6 x7 x8 x9 x10 z : Code} (M : Act → World → Prop) (hz : ∀ a w, M a w → CW r P z Q a w) (k : (∀ a w, M a w → CW r P z Q a w) → CW r P (.seq x0 (.seq x1 (.seq x2 (.seq x3 (.seq x4 (.seq x5 (.seq x6 (.seq x7 (.seq x8 (.seq x9 (.seq x10 z))))))))))) Q a w) : CW r P (.seq x0 (.seq x1 (.seq x2 (.seq x3 (.seq x4 (.seq x5 (.seq x6 (.seq x7 (.seq x8 (.seq x9 (.seq x10 z))))))))))) Q a w := k hz
theorem CW_late12 {x0 x1 x2 x3 x4 x5 x6 x7 x8 x9 x10 x11 z : Code} (M : Act → World → Prop) (hz : ∀ a w, M a w → CW r P z Q a w) (k : (∀ a w, M a w → CW r P z Q a w) → CW r P (.seq x0 (.seq x1 (.seq x2 (.seq x3 (.seq x4 (.seq x5 (.seq x6 (.seq x7 (.seq x8 (.seq x9 (.seq x10 (.seq x11 z)))))))))))) Q a w) : CW r P (.seq x0 (.seq x1 (.seq x2 (.seq x3 (.seq x4 (.seq x5 (.seq x6 (.seq x7 (.seq x8 (.seq x9 (.seq x10 (.seq x11 z)))))))))))) Q a w := k hz
end
/- BITS, DIVISION, SHIFTS -/
def bitV (bo : BinOp) (k : IntKind) (x y : Int) : Option Int := match bo with
  | .and => some (k.wrap (BitVec.ofInt k.bits x &&& BitVec.ofInt k.bits y).toNat)
  | .or => some (k.wrap (BitVec.ofInt k.bits x ||| BitVec.ofInt k.bits y).toNat)
  | .xor => some (k.wrap (BitVec.ofInt k.bits x ^^^ BitVec.ofInt k.bits y).toNat)
  | _ => none
def divV (bo : BinOp) (k : IntKind) (x y : Int) : Option Int := match bo with
  | .quo => some (k.wrap (x.tdiv y))
  | .rem => some (x.tmod y)
  | _ => none
def shV (bo : BinOp) (k : IntKind) (x y : Int) : Option Int := match bo with
  | .shl => some (k.wrap (x * 2 ^ (min y.toNat k.bits)))
  | .shr => some (x.fdiv (2 ^ (min y.toNat k.bits)))
  | _ => none
section steps
variable {r : Option Nat} {P : Program} {T : List (Nat × TI)} {ops : Array Oper} {Q : Exit → Act → World → Prop} {rest : List Oper} {n : Nat} {s : List (Nat × Value)} {τ : Nat → Value} {ds : List Deferred} {w : World}
  {ty : TypeId} {ps : String} {af : Array Edge} {d : Nat} {W : World} {L : List HProp}
theorem LW_bits {bo : BinOp} {t yt : TypeId} {x y : Operand} {k : IntKind} {a b e : Int} (hx : EVO n s x = some (.int k a)) (hy : EVO n s y = some (.int k b)) (h : bitV bo k a b = some e) (c : LW r P ops Q rest (FR n ((d, .int k e) :: s) τ ds) w) :
    LW r P ops Q (⟨some d, .binOp bo t x y yt, ty, ps, af, none⟩ :: rest) (FR n s τ ds) w := by
  refine LW_run (v := .int k e) rfl (fun c e => by cases e) ?_ (by rw [put_FR]; exact c)
  show Sem.run P (do let v ← (do eqGuard bo t x y ((FR n s τ ds).eval x) ((FR n s τ ds).eval y); binOp bo t ((FR n s τ ds).eval x) ((FR n s τ ds).eval y)); pure (Next.value v)) w = _
  rw [eval_of hx, eval_of hy]
  cases bo <;> simp only [bitV] at h <;> first | (cases h; done) | (cases h; simp [eqGuard, binOp, Op.intBits, go_sem])
theorem LW_div {bo : BinOp} {t yt : TypeId} {x y : Operand} {k : IntKind} {a b e : Int} (hx : EVO n s x = some (.int k a)) (hy : EVO n s y = some (.int k b)) (hb : ¬ b = 0) (h : divV bo k a b = some e) (c : LW r P ops Q rest (FR n ((d, .int k e) :: s) τ ds) w) :
    LW r P ops Q (⟨some d, .binOp bo t x y yt, ty, ps, af, none⟩ :: rest) (FR n s τ ds) w := by
  refine LW_run (v := .int k e) rfl (fun c e => by cases e) ?_ (by rw [put_FR]; exact c)
  show Sem.run P (do let v ← (do eqGuard bo t x y ((FR n s τ ds).eval x) ((FR n s τ ds).eval y); binOp bo t ((FR n s τ ds).eval x) ((FR n s τ ds).eval y)); pure (Next.value v)) w = _
  rw [eval_of hx, eval_of hy]
  cases bo <;> simp only [divV] at h <;> first | (cases h; done) | (cases h; simp [eqGuard, binOp, Op.intDiv, hb, go_sem])
theorem LW_shift {bo : BinOp} {t yt : TypeId} {x y : Operand} {k k' : IntKind} {a b e : Int} (hx : EVO n s x = some (.int k a)) (hy : EVO n s y = some (.int k' b)) (hb : 0 ≤ b) (h : shV bo k a b = some e) (c : LW r P ops Q rest (FR n ((d, .int k e) :: s) τ ds) w) :
    LW r P ops Q (⟨some d, .binOp bo t x y yt, ty, ps, af, none⟩ :: rest) (FR n s τ ds) w := by
  refine LW_run (v := .int k e) rfl (fun c e => by cases e) ?_ (by rw [put_FR]; exact c)
  show Sem.run P (do let v ← (do eqGuard bo t x y ((FR n s τ ds).eval x) ((FR n s τ ds).eval y); binOp bo t ((FR n s τ ds).eval x) ((FR n s τ ds).eval y)); pure (Next.value v)) w = _
  rw [eval_of hx, eval_of hy]
  have hb' : ¬ b < 0 := by omega
  cases bo <;> simp only [shV] at h <;> first | (cases h; done) | (cases h; simp [eqGuard, binOp, Op.shift, hb', go_sem])
/-- The same steps, the number told otherwise. -/
theorem LW_bitsE {bo : BinOp} {t yt : TypeId} {x y : Operand} {k : IntKind} {a b e : Int} (e' : Int) (hx : EVO n s x = some (.int k a)) (hy : EVO n s y = some (.int k b)) (h : bitV bo k a b = some e) (he : e = e') (c : LW r P ops Q rest (FR n ((d, .int k e') :: s) τ ds) w) :
    LW r P ops Q (⟨some d, .binOp bo t x y yt, ty, ps, af, none⟩ :: rest) (FR n s τ ds) w := LW_bits hx hy h (he ▸ c)
theorem LW_divE {bo : BinOp} {t yt : TypeId} {x y : Operand} {k : IntKind} {a b e : Int} (e' : Int) (hx : EVO n s x = some (.int k a)) (hy : EVO n s y = some (.int k b)) (hb : ¬ b = 0) (h : divV bo k a b = some e) (he : e = e') (c : LW r P ops Q rest (FR n ((d, .int k e') :: s) τ ds) w) :
    LW r P ops Q (⟨some d, .binOp bo t x y yt, ty, ps, af, none⟩ :: rest) (FR n s τ ds) w := LW_div hx hy hb h (he ▸ c)
theorem LW_shiftE {bo : BinOp} {t yt : TypeId} {x y : Operand} {k k' : IntKind} {a b e : Int} (e' : Int) (hx : EVO n s x = some (.int k a)) (hy : EVO n s y = some (.int k' b)) (hb : 0 ≤ b) (h : shV bo k a b = some e) (he : e = e') (c : LW r P ops Q rest (FR n ((d, .int k e') :: s) τ ds) w) :
    LW r P ops Q (⟨some d, .binOp bo t x y yt, ty, ps, af, none⟩ :: rest) (FR n s τ ds) w := LW_shift hx hy hb h (he ▸ c)
theorem LW_arithE {op : Op} {k : IntKind} {e : Int} (e' : Int) (h : evalArith n s op = some (k, e)) (he : k.wrap e = e') (c : LW r P ops Q rest (FR n ((d, .int k e') :: s) τ ds) w) :
    LW r P ops Q (⟨some d, op, ty, ps, af, none⟩ :: rest) (FR n s τ ds) w := LW_arithW h (he ▸ c)
theorem LW_u64 {op : Op} {e : Int} (h : evalArith n s op = some (.u64, e)) (h1 : 0 ≤ e) (h2 : e ≤ 18446744073709551615) (c : LW r P ops Q rest (FR n ((d, .int .u64 e) :: s) τ ds) w) :
    LW r P ops Q (⟨some d, op, ty, ps, af, none⟩ :: rest) (FR n s τ ds) w := by
  refine LW_arith h ?_ c
  simp [IntKind.wrap, IntKind.bits, IntKind.signed]; omega
/-- A number of another kind, which holds it. -/
theorem LW_convE {src dst : TypeId} {x : Operand} {k k' : IntKind} {a : Int} {ti tj : TI} (e' : Int) (hT : TyOK P T) (hx : EVO n s x = some (.int k a)) (h1 : lookT T src = some ti) (h2 : lookT T dst = some tj) (hu : tj.u = .int k') (he : k'.wrap a = e') (c : LW r P ops Q rest (FR n ((d, .int k' e') :: s) τ ds) w) :
    LW r P ops Q (⟨some d, .convert src dst x, ty, ps, af, none⟩ :: rest) (FR n s τ ds) w := by
  refine LW_pure (T := T) hT ?_ c
  obtain ⟨a1, a2, a3, a4⟩ := tj
  simp only at hu
  subst hu
  simp [evalOp, h1, h2, hx, he]
/-- The guard's own guard said no. -/
theorem LW_passV {l : List Oper} {op : Op} {j : Nat} {b : Bool} {o' : Oper} {d' : Nat} (hj : getA l j = some o') (hd : o'.dst = some d') (hy : EVO n s (.tmp d') = some undef) (k : LW r P l.toArray Q rest (FR n ((d, undef) :: s) τ ds) w) :
    LW r P l.toArray Q (⟨some d, op, ty, ps, af, some (j, b)⟩ :: rest) (FR n s τ ds) w := by
  refine LW_passU ?_ (by rw [put_FR]; exact k)
  have h1 := eval_of (τ := τ) (ds := ds) hy
  have h2 : (FR n s τ ds).tmps[d']?.getD undef = undef := by simpa [Act.eval] using h1
  rw [getA_eq] at hj
  unfold yielded
  simp only [List.getElem?_toArray, hj, Option.bind_some, hd]
  cases h3 : (FR n s τ ds).tmps[d']? with
  | none => rfl
  | some v => rw [h3] at h2; simp at h2; subst h2; rfl
/- PARTS OF SLICES -/
def movedA (A : Option Addr) (k : Nat) : Option Addr := A.map (·.add k)
theorem movedA_some (b o k : Nat) : movedA (some ⟨b, o, none⟩) k = some ⟨b, o + k, none⟩ := by
  unfold movedA Option.map Addr.add; split <;> simp_all
theorem movedA_zero (A : Option Addr) : movedA A 0 = A := by
  cases A <;> simp [movedA, Addr.add]
variable {t e : TypeId} {ti te : TI} {x y z u : Operand} {A : Option Addr} {len cap : Nat} {k1 k2 k3 : IntKind} {lo hi mx : Int}
theorem elem_of (ht : P.underlying t = some (.slice e)) : P.elem t = e := by simp [Program.elem, ht]
theorem LW_sliceH (hT : TyOK P T) (hx : EVO n s x = some (.slice A len cap)) (hy : EVO n s y = some (.int k1 hi)) (ht : lookT T t = some ti) (hu : ti.u = .slice e) (he : lookT T e = some te) (h0 : 0 ≤ hi) (h1 : hi ≤ cap)
    (c : LW r P ops Q rest (FR n ((d, .slice A hi.toNat cap) :: s) τ ds) w) : LW r P ops Q (⟨some d, .slice t x none (some y) none, ty, ps, af, none⟩ :: rest) (FR n s τ ds) w := by
  refine LW_run (v := .slice A hi.toNat cap) rfl (fun c e => by cases e) ?_ (by rw [put_FR]; exact c)
  show Sem.run P (do let v ← Instr.sliceAt t ((FR n s τ ds).eval x) none (some ((FR n s τ ds).eval y)) none; pure (Next.value v)) w = _
  have hu1 := (ty_info (hT _ _ ht)).1
  rw [hu] at hu1
  have hel := elem_of hu1
  have hu2 : P.underlying t = some (.slice (P.elem t)) := by rw [hel]; exact hu1
  have hm := movedA_zero A
  unfold movedA at hm
  rw [eval_of hx, eval_of hy, Sem.run_bind, run_sliceAt_slice w t _ _ _ _ hu2, run_slice_h w t A len cap hu2 k1 hi h0 h1, hel, ty_sizeOf (hT _ _ he)]
  simp [Result.andThen, sliced, hm]
theorem LW_sliceHM (hT : TyOK P T) (hx : EVO n s x = some (.slice A len cap)) (hy : EVO n s y = some (.int k1 hi)) (hz : EVO n s z = some (.int k2 mx)) (ht : lookT T t = some ti) (hu : ti.u = .slice e) (he : lookT T e = some te) (h0 : 0 ≤ hi) (h1 : hi ≤ mx) (h2 : mx ≤ cap)
    (c : LW r P ops Q rest (FR n ((d, .slice A hi.toNat mx.toNat) :: s) τ ds) w) : LW r P ops Q (⟨some d, .slice t x none (some y) (some z), ty, ps, af, none⟩ :: rest) (FR n s τ ds) w := by
  refine LW_run (v := .slice A hi.toNat mx.toNat) rfl (fun c e => by cases e) ?_ (by rw [put_FR]; exact c)
  show Sem.run P (do let v ← Instr.sliceAt t ((FR n s τ ds).eval x) none (some ((FR n s τ ds).eval y)) (some ((FR n s τ ds).eval z)); pure (Next.value v)) w = _
  have hu1 := (ty_info (hT _ _ ht)).1
  rw [hu] at hu1
  have hel := elem_of hu1
  have hu2 : P.underlying t = some (.slice (P.elem t)) := by rw [hel]; exact hu1
  have hm := movedA_zero A
  unfold movedA at hm
  rw [eval_of hx, eval_of hy, eval_of hz, Sem.run_bind, run_sliceAt_slice w t _ _ _ _ hu2, run_slice_hm w t A len cap hu2 k1 k2 hi mx h0 h1 h2, hel, ty_sizeOf (hT _ _ he)]
  simp [Result.andThen, sliced, hm]
def slicedA (A : Option Addr) (l m k : Nat) : Option Addr := if m = l then A else movedA A k
theorem LW_sliceL (hT : TyOK P T) (hx : EVO n s x = some (.slice A len cap)) (hy : EVO n s y = some (.int k1 lo)) (ht : lookT T t = some ti) (hu : ti.u = .slice e) (he : lookT T e = some te) (h0 : 0 ≤ lo) (h1 : lo ≤ len)
    (c : LW r P ops Q rest (FR n ((d, .slice (slicedA A lo.toNat cap (lo.toNat * te.size)) (len - lo.toNat) (cap - lo.toNat)) :: s) τ ds) w) : LW r P ops Q (⟨some d, .slice t x (some y) none none, ty, ps, af, none⟩ :: rest) (FR n s τ ds) w := by
  refine LW_run (v := .slice (slicedA A lo.toNat cap (lo.toNat * te.size)) (len - lo.toNat) (cap - lo.toNat)) rfl (fun c e => by cases e) ?_ (by rw [put_FR]; exact c)
  show Sem.run P (do let v ← Instr.sliceAt t ((FR n s τ ds).eval x) (some ((FR n s τ ds).eval y)) none none; pure (Next.value v)) w = _
  have hu1 := (ty_info (hT _ _ ht)).1
  rw [hu] at hu1
  have hel := elem_of hu1
  have hu2 : P.underlying t = some (.slice (P.elem t)) := by rw [hel]; exact hu1
  rw [eval_of hx, eval_of hy, Sem.run_bind, run_sliceAt_slice w t _ _ _ _ hu2, run_slice_l w t A len cap hu2 k1 lo h0 h1, hel, ty_sizeOf (hT _ _ he)]
  simp [Result.andThen, sliced, slicedA, movedA]
theorem LW_sliceLH (hT : TyOK P T) (hx : EVO n s x = some (.slice A len cap)) (hy : EVO n s y = some (.int k1 lo)) (hz : EVO n s z = some (.int k2 hi)) (ht : lookT T t = some ti) (hu : ti.u = .slice e) (he : lookT T e = some te) (h0 : 0 ≤ lo) (h1 : lo ≤ hi) (h2 : hi ≤ cap)
    (c : LW r P ops Q rest (FR n ((d, .slice (slicedA A lo.toNat cap (lo.toNat * te.size)) (hi.toNat - lo.toNat) (cap - lo.toNat)) :: s) τ ds) w) : LW r P ops Q (⟨some d, .slice t x (some y) (some z) none, ty, ps, af, none⟩ :: rest) (FR n s τ ds) w := by
  refine LW_run (v := .slice (slicedA A lo.toNat cap (lo.toNat * te.size)) (hi.toNat - lo.toNat) (cap - lo.toNat)) rfl (fun c e => by cases e) ?_ (by rw [put_FR]; exact c)
  show Sem.run P (do let v ← Instr.sliceAt t ((FR n s τ ds).eval x) (some ((FR n s τ ds).eval y)) (some ((FR n s τ ds).eval z)) none; pure (Next.value v)) w = _
  have hu1 := (ty_info (hT _ _ ht)).1
  rw [hu] at hu1
  have hel := elem_of hu1
  have hu2 : P.underlying t = some (.slice (P.elem t)) := by rw [hel]; exact hu1
  rw [eval_of hx, eval_of hy, eval_of hz, Sem.run_bind, run_sliceAt_slice w t _ _ _ _ hu2, run_slice_lh w t A len cap hu2 k1 k2 lo hi h0 h1 h2, hel, ty_sizeOf (hT _ _ he)]
  simp [Result.andThen, sliced, slicedA, movedA]
/- A SLICE OF WHICH IT IS NOT KNOWN WHETHER IT IS NIL -/
theorem LW_sliceNil {bo : BinOp} {yt : TypeId} (hb : bo = .eql) (hT : TyOK P T) (hx : EVO n s x = some (.slice A len cap)) (hy : EVO n s y = some (.slice none 0 0)) (ht : lookT T t = some ti) (hu : ti.u = .slice e)
    (hn : A = none → LW r P ops Q rest (FR n ((d, .bool true) :: s) τ ds) w) (hs : ∀ a, A = some a → LW r P ops Q rest (FR n ((d, .bool false) :: s) τ ds) w) : LW r P ops Q (⟨some d, .binOp bo t x y yt, ty, ps, af, none⟩ :: rest) (FR n s τ ds) w := by
  subst hb
  obtain ⟨a1, a2, a3, a4⟩ := ti
  simp only at hu
  subst hu
  cases A with
  | none => exact LW_nileq hT (b := true) (by simp [evalNil, ht, hx, hy]) (hn rfl)
  | some a => exact LW_nileq hT (b := false) (by simp [evalNil, ht, hx, hy]) (hs a rfl)
/- ROWS -/
theorem Sat.toRow {cells : List Value} {b sz n0 : Nat} (hs : Sat W w L) (i : Nat) (hi : getA L i = some (Cl b cells e)) (hl : cells.length = n0 * sz) (hm : n0 ≤ maxLen) : Sat W w (L.set i (Row e sz (some ⟨b, 0, none⟩) n0 n0 cells)) := by
  rw [getA_eq] at hi
  refine Sat.back hi ?_
  refine (hs.front i hi).imp fun f hf => ?_
  obtain ⟨h1, h2, h3, h4, h5, h6, h7⟩ := hf
  exact ⟨h1, h2, h3, h4, h5, ⟨hl, .inr ⟨b, [], rfl, Nat.le_refl _, hm, by rw [List.append_nil]; exact Nat.le_of_eq hl.symm, by rw [List.append_nil]; exact h6⟩⟩, h7⟩
theorem LW_makeSlice0 {sz : Nat} (hT : TyOK P T) (hs : Sat W w L) (hx : EVO n s x = some (.int k1 0)) (hy : EVO n s y = some (.int k2 mx)) (ht : lookT T t = some ti) (hu : ti.u = .slice e) (he : lookT T e = some te) (hsz : te.size = sz) (h0 : 0 ≤ mx) (h1 : te.bytes * mx.toNat ≤ 281474976710656) (h2 : mx.toNat ≤ maxLen)
    (c : ∀ A w', Sat W w' (Row e sz A 0 mx.toNat [] :: L) → LW r P ops Q rest (FR n ((d, .slice A 0 mx.toNat) :: s) τ ds) w') : LW r P ops Q (⟨some d, .makeSlice t x y, ty, ps, af, none⟩ :: rest) (FR n s τ ds) w := by
  obtain ⟨hu1, _⟩ := ty_info (hT _ _ ht)
  obtain ⟨hu2, fe, hfe, hfe2, hfe3, hfe4⟩ := ty_info (hT _ _ he)
  rw [hu] at hu1
  obtain ⟨w', hr, ho, hg⟩ := run_make_own (P := P) w W.heap.size t e fe te.zero sz hu1 hfe hfe2 (by rw [hfe3, hsz]) k1 k2 mx.toNat (by rw [hfe4]; exact h1) h2 hs.size
  rw [Int.toNat_of_nonneg h0] at hr
  obtain ⟨A', c', e1, hs'⟩ := (hs.nilRow e sz).rowTurn (.of ho) (by simpa [Value.ownBlock] using hg) (.inr rfl)
  cases e1
  refine LW_run (v := .slice (some ⟨w.heap.size, 0, none⟩) 0 mx.toNat) (w' := w') rfl (fun c e => by cases e) ?_ (by rw [put_FR]; exact c _ _ hs')
  show Sem.run P (do let v ← Instr.makeSlice t ((FR n s τ ds).eval x) ((FR n s τ ds).eval y); pure (Next.value v)) w = _
  rw [eval_of hx, eval_of hy, Sem.run_bind, hr]; rfl
end steps
section
variable {W w : World} {L : List HProp} {α : Type} {enc : α → List Value}
theorem Rd.take {A : Option Addr} {xs : List α} (h : Rd enc w A xs) (k : Nat) : Rd enc w A (xs.take k) := by
  rcases h with h | ⟨b, o, hA, h⟩
  · subst h; exact .inl (by simp)
  · refine .inr ⟨b, o, hA, fun j v hj => h j v ?_⟩
    have : xs.flatMap enc = (xs.take k).flatMap enc ++ (xs.drop k).flatMap enc := by rw [← List.flatMap_append, List.take_append_drop]
    rw [this, List.getElem?_append_left (List.getElem?_eq_some_iff.1 hj).1]; exact hj
theorem Rd.drop {A : Option Addr} {xs : List α} {sz : Nat} (hz : ∀ x, (enc x).length = sz) (h : Rd enc w A xs) (k : Nat) (hk : k ≤ xs.length) : Rd enc w (movedA A (k * sz)) (xs.drop k) := by
  rcases h with h | ⟨b, o, hA, h⟩
  · subst h; exact .inl (by simp)
  · subst hA
    refine .inr ⟨b, o + k * sz, by rw [movedA_some], fun j v hj => ?_⟩
    rw [Nat.add_assoc]
    refine h (k * sz + j) v ?_
    have e1 : xs.flatMap enc = (xs.take k).flatMap enc ++ (xs.drop k).flatMap enc := by rw [← List.flatMap_append, List.take_append_drop]
    have e2 : ((xs.take k).flatMap enc).length = k * sz := by rw [flat_len hz, List.length_take, Nat.min_eq_left hk]
    rw [e1, List.getElem?_append_right (by omega), e2, Nat.add_sub_cancel_left]; exact hj
/-- A row's front part, with less room told. -/
theorem Row.cut {e : TypeId} {sz n c n' c' : Nat} {A : Option Addr} {cells : List Value} {f : Frag} (h : Row e sz A n c cells f) (h1 : n' ≤ n) (h2 : n' ≤ c') (h3 : c' ≤ c) : Row e sz A n' c' (cells.take (n' * sz)) f := by
  obtain ⟨hl, h⟩ := h
  have hm : n' * sz ≤ n * sz := Nat.mul_le_mul_right _ h1
  refine ⟨by rw [List.length_take, hl]; omega, ?_⟩
  rcases h with ⟨rfl, rfl, rfl⟩ | ⟨b, spare, rfl, hnc, hcm, hlen, hb⟩
  · exact .inl ⟨rfl, by omega, by omega⟩
  · refine .inr ⟨b, cells.drop (n' * sz) ++ spare, rfl, h2, by omega, ?_, ?_⟩
    · rw [← List.append_assoc, List.take_append_drop]; exact Nat.le_trans (Nat.mul_le_mul_right _ h3) hlen
    · rw [← List.append_assoc, List.take_append_drop]; exact hb
theorem Sat.clip {e : TypeId} {sz n c : Nat} {A : Option Addr} {cells : List Value} (hs : Sat W w (Row e sz A n c cells :: L)) : Sat W w (Row e sz A n n cells :: L) :=
  hs.imp fun f hf => by
    obtain ⟨a1, a2, a3, a4, a5, a6, a7⟩ := hf
    have h := a6.cut (n' := n) (c' := n) (Nat.le_refl _) (Nat.le_refl _) (by rcases a6.2 with ⟨_, h1, h2⟩ | ⟨_, _, _, h, _⟩ <;> omega)
    rw [List.take_of_length_le (by rw [a6.1]; omega)] at h
    exact ⟨a1, a2, a3, a4, a5, h, a7⟩
theorem Sat.rowLe {e : TypeId} {sz n c : Nat} {A : Option Addr} {cells : List Value} (hs : Sat W w (Row e sz A n c cells :: L)) : n ≤ c := by
  obtain ⟨a1, a2, a3, a4, a5, a6, a7⟩ := hs.sep
  rcases a6.2 with ⟨_, h1, h2⟩ | ⟨_, _, _, h, _⟩ <;> omega
end
end Go.Sl
