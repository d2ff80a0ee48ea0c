/- The least and the greatest of some numbers. -/
import Derived.Test.YtbmeafeojcgndaaDoorSlA
import Derived.Test.YtbmeafeojcgndaaDoorSlB
set_option linter.unusedVariables false
set_option linter.unusedSimpArgs false
namespace Go.Sl
open Go.RowKit
section
variable {r : Option Nat} {P : Program} {T : List (Nat × TI)} {ops : Array Oper} {Q : Exit → Act → World → Prop} {rest : List Oper} {n : Nat} {s : List (Nat × Value)} {τ : Nat → Value} {ds : List Deferred} {w : World}
  {ty : TypeId} {ps : String} {af : Array Edge} {d : Nat} {ts : Array TypeId}
theorem LW_max2 {x y : Operand} {k : IntKind} {a b : Int} (e : Int) (hx : EVO n s x = some (.int k a)) (hy : EVO n s y = some (.int k b)) (he : (if b > a then b else a) = e) (c : LW r P ops Q rest (FR n ((d, .int k e) :: s) τ ds) w) :
    LW r P ops Q (⟨some d, .call { callee := .builtin .max, args := #[x, y], argTypes := ts }, ty, ps, af, none⟩ :: rest) (FR n s τ ds) w := by
  refine LW_run (v := .int k e) rfl (fun c e => by cases e) ?_ (by rw [put_FR]; exact c)
  show Sem.run P (do let d ← resolve (FR n s τ ds).eval { callee := .builtin .max, args := #[x, y], argTypes := ts } ty; invoke d.target d.args) w = _
  have e1 : (#[x, y] : Array Operand).map (FR n s τ ds).eval = #[.int k a, .int k b] := by simp [eval_of hx, eval_of hy]
  subst he
  simp only [resolve, e1, Sem.run_bind, Sem.run_pure, Result.andThen, invoke, builtin, Builtin.max_, List.foldlM_cons, List.foldlM_nil, Builtin.max2]
theorem LW_min2 {x y : Operand} {k : IntKind} {a b : Int} (e : Int) (hx : EVO n s x = some (.int k a)) (hy : EVO n s y = some (.int k b)) (he : (if b < a then b else a) = e) (c : LW r P ops Q rest (FR n ((d, .int k e) :: s) τ ds) w) :
    LW r P ops Q (⟨some d, .call { callee := .builtin .min, args := #[x, y], argTypes := ts }, ty, ps, af, none⟩ :: rest) (FR n s τ ds) w := by
  refine LW_run (v := .int k e) rfl (fun c e => by cases e) ?_ (by rw [put_FR]; exact c)
  show Sem.run P (do let d ← resolve (FR n s τ ds).eval { callee := .builtin .min, args := #[x, y], argTypes := ts } ty; invoke d.target d.args) w = _
  have e1 : (#[x, y] : Array Operand).map (FR n s τ ds).eval = #[.int k a, .int k b] := by simp [eval_of hx, eval_of hy]
  subst he
  simp only [resolve, e1, Sem.run_bind, Sem.run_pure, Result.andThen, invoke, builtin, Builtin.min_, List.foldlM_cons, List.foldlM_nil, Builtin.min2]
theorem LW_min3 {x y z : Operand} {k : IntKind} {a b c : Int} (e : Int) (hx : EVO n s x = some (.int k a)) (hy : EVO n s y = some (.int k b)) (hz : EVO n s z = some (.int k c)) (he : (if c < (if b < a then b else a) then c else (if b < a then b else a)) = e) (cc : LW r P ops Q rest (FR n ((d, .int k e) :: s) τ ds) w) :
    LW r P ops Q (⟨some d, .call { callee := .builtin .min, args := #[x, y, z], argTypes := ts }, ty, ps, af, none⟩ :: rest) (FR n s τ ds) w := by
  refine LW_run (v := .int k e) rfl (fun c e => by cases e) ?_ (by rw [put_FR]; exact cc)
  show Sem.run P (do let d ← resolve (FR n s τ ds).eval { callee := .builtin .min, args := #[x, y, z], argTypes := ts } ty; invoke d.target d.args) w = _
  have e1 : (#[x, y, z] : Array Operand).map (FR n s τ ds).eval = #[.int k a, .int k b, .int k c] := by simp [eval_of hx, eval_of hy, eval_of hz]
  subst he
  simp only [resolve, e1, Sem.run_bind, Sem.run_pure, Result.andThen, invoke, builtin, Builtin.min_, List.foldlM_cons, List.foldlM_nil, Builtin.min2]
end
end Go.Sl

/- Texts as rows of bytes: as keys, compared, looked into; zeros appended. -/
set_option linter.unusedVariables false
set_option linter.unusedSimpArgs false
namespace Go.Sl
open Go.RowKit
abbrev sv (n : List UInt8) : Value := .string ⟨n.toArray⟩
theorem sv_inj {a b : List UInt8} : (⟨a.toArray⟩ : ByteArray) = ⟨b.toArray⟩ ↔ a = b := by
  constructor
  · intro h
    have := congrArg (fun x : ByteArray => x.data.toList) h
    simpa using this
  · rintro rfl; rfl
def keyN : KeyE (List UInt8) where
  val a := sv a
  desc := .string
  now a b := by
    show Instr.sameNow .string (.string ⟨a.toArray⟩) (.string ⟨b.toArray⟩) = _
    have := keyS.now ⟨a.toArray⟩ ⟨b.toArray⟩
    simp only [keyS] at this
    rw [this]
    congr 1
    rw [Bool.eq_iff_iff]
    simp only [decide_eq_true_eq]
    exact sv_inj
  bits a := keyS.bits ⟨a.toArray⟩
  plain P t e w a h := keyS.plain P t e w ⟨a.toArray⟩ h
def eN (n : List UInt8) : List Value := [sv n]
theorem eN_ok : (∀ x, (eN x).length = 1) ∧ ∀ x, ∀ u ∈ eN x, u.oneCell' = true := ⟨fun _ => rfl, fun x u h => by simp [eN] at h; subst h; rfl⟩
theorem bytesLess_eq : ∀ a b : List UInt8, Op.bytesLess a b = decide (a < b)
  | _, [] => by simp [Op.bytesLess]
  | [], _ :: _ => by simp [Op.bytesLess]
  | a :: x, b :: y => by
    have ih := bytesLess_eq x y
    simp only [Op.bytesLess, ih]
    rw [Bool.eq_iff_iff]
    simp [List.cons_lt_cons_iff]
section
variable {r : Option Nat} {P : Program} {T : List (Nat × TI)} {ops : Array Oper} {Q : Exit → Act → World → Prop} {rest : List Oper} {n : Nat} {s : List (Nat × Value)} {τ : Nat → Value} {ds : List Deferred} {w W : World} {L : List HProp}
  {ty : TypeId} {ps : String} {af : Array Edge} {d : Nat} {t yt : TypeId} {x y : Operand} {p q : ByteArray} {a b : List UInt8}
theorem toList_of {p : ByteArray} {a : List UInt8} (h : p.data.toList = a) : p = ⟨a.toArray⟩ := by subst h; rfl
theorem LW_strEq (hx : EVO n s x = some (.string p)) (hy : EVO n s y = some (.string q)) (hp : p.data.toList = a) (hq : q.data.toList = b) (ht : a = b → LW r P ops Q rest (FR n ((d, .bool true) :: s) τ ds) w) (hf : ¬ a = b → LW r P ops Q rest (FR n ((d, .bool false) :: s) τ ds) w) :
    LW r P ops Q (⟨some d, .binOp .eql t x y yt, ty, ps, af, none⟩ :: rest) (FR n s τ ds) w := by
  rw [toList_of hp] at hx
  rw [toList_of hq] at hy
  refine LW_cmp (p := (⟨a.toArray⟩ : ByteArray) = ⟨b.toArray⟩) ?_ (fun h => ht (sv_inj.1 h)) (fun h => hf fun e => h (sv_inj.2 e))
  simp [evalCmp, hx, hy, intOf2, strOf2, cmpS]
theorem LW_strNe (hx : EVO n s x = some (.string p)) (hy : EVO n s y = some (.string q)) (hp : p.data.toList = a) (hq : q.data.toList = b) (ht : ¬ a = b → LW r P ops Q rest (FR n ((d, .bool true) :: s) τ ds) w) (hf : a = b → LW r P ops Q rest (FR n ((d, .bool false) :: s) τ ds) w) :
    LW r P ops Q (⟨some d, .binOp .neq t x y yt, ty, ps, af, none⟩ :: rest) (FR n s τ ds) w := by
  rw [toList_of hp] at hx
  rw [toList_of hq] at hy
  refine LW_cmp (p := ¬ (⟨a.toArray⟩ : ByteArray) = ⟨b.toArray⟩) ?_ (fun h => ht fun e => h (sv_inj.2 e)) (fun h => hf (sv_inj.1 (Decidable.not_not.1 h)))
  simp [evalCmp, hx, hy, intOf2, strOf2, cmpS]
theorem LW_strLt (hx : EVO n s x = some (.string p)) (hy : EVO n s y = some (.string q)) (hp : p.data.toList = a) (hq : q.data.toList = b) (ht : a < b → LW r P ops Q rest (FR n ((d, .bool true) :: s) τ ds) w) (hf : ¬ a < b → LW r P ops Q rest (FR n ((d, .bool false) :: s) τ ds) w) :
    LW r P ops Q (⟨some d, .binOp .lss t x y yt, ty, ps, af, none⟩ :: rest) (FR n s τ ds) w := by
  rw [toList_of hp] at hx
  rw [toList_of hq] at hy
  refine LW_cmp (p := a < b) ?_ ht hf
  simp [evalCmp, hx, hy, intOf2, strOf2, cmpS, bytesLess_eq, ByteArray.toList_eq]
theorem LW_lenN {ti : TI} {xs : Array Operand} {m : Int} (hT : TyOK P T) (hx : evalL n s xs.toList = some [.string p]) (ht : lookT T t = some ti) (hu : ti.u = .string) (hp : p.data.toList = a) (hm : (a.length : Int) = m) (c : LW r P ops Q rest (FR n ((d, .int .i64 m) :: s) τ ds) w) :
    LW r P ops Q (⟨some d, .call { callee := .builtin .len, args := xs, argTypes := #[t] }, ty, ps, af, none⟩ :: rest) (FR n s τ ds) w := by
  refine LW_pure (T := T) (v := .int .i64 m) hT ?_ c
  obtain ⟨u, z, sz, by_⟩ := ti
  dsimp only at hu; subst hu
  subst hm; subst hp
  simp only [evalOp, hx, ht]
  congr 2
theorem LW_strIdx {k : IntKind} {ti : TI} {i : Int} (hT : TyOK P T) (hx : EVO n s x = some (.string p)) (hy : EVO n s y = some (.int k i)) (ht : lookT T t = some ti) (hu : ti.u = .string) (hp : p.data.toList = a) (h0 : 0 ≤ i) (h1 : i < a.length) (c : LW r P ops Q rest (FR n ((d, .int .u8 ((rd a i).toNat : Int)) :: s) τ ds) w) :
    LW r P ops Q (⟨some d, .index t x y, ty, ps, af, none⟩ :: rest) (FR n s τ ds) w := by
  rw [toList_of hp] at hx
  refine LW_run (v := .int .u8 ((rd a i).toNat : Int)) rfl (fun c e => by cases e) ?_ (by rw [put_FR]; exact c)
  show Sem.run P (do let v ← Instr.index t ((FR n s τ ds).eval x) ((FR n s τ ds).eval y); pure (Next.value v)) w = _
  have h2 := (ty_info (hT _ _ ht)).1
  rw [hu] at h2
  rw [eval_of hx, eval_of hy, Sem.run_bind, run_index_string w t _ k i h2]
  have hs : (⟨a.toArray⟩ : ByteArray).size = a.length := rfl
  rw [dif_pos ⟨h0, by rw [hs]; exact h1⟩]
  simp only [Result.andThen, Sem.run_pure]
  congr 3
  have hi : i.toNat < a.length := by omega
  unfold rd
  show ((a.toArray[i.toNat]'(by simpa using hi)).toNat : Int) = _
  simp [List.getD, hi]
end
end Go.Sl
