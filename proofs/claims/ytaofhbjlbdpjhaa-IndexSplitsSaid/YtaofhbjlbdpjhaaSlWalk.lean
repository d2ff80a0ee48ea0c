/- Frames as lists of slots, operations that only reckon as a function, and the rules of the walk. -/
import Derived.Test.YtaofhbjlbdpjhaaSlCore
set_option linter.unusedVariables false
set_option linter.unusedSimpArgs false
namespace Go.Sl
open Go.RowKit

def look : List (Nat × Value) → (Nat → Value) → Nat → Value
  | [], τ, t => τ t
  | (d, v) :: s, τ, t => cond (Nat.beq t d) v (look s τ t)

def FR (n : Nat) (s : List (Nat × Value)) (τ : Nat → Value) (ds : List Deferred) : Act :=
  { tmps := Array.ofFn (n := n) fun i => look s τ i.val, defers := ds }

theorem FR_getD (n : Nat) (s : List (Nat × Value)) (τ : Nat → Value) (ds : List Deferred) (t : Nat) : (FR n s τ ds).tmps.getD t undef = cond (Nat.blt t n) (look s τ t) undef := by
  by_cases h : t < n
  · have h' : Nat.blt t n = true := by rw [Nat.blt_eq]; exact h
    simp [FR, Array.getD, h, h']
  · have h' : Nat.blt t n = false := by
      cases e : Nat.blt t n with
      | false => rfl
      | true => rw [Nat.blt_eq] at e; exact absurd e h
    simp [FR, Array.getD, h, h']

theorem put_FR (n : Nat) (s : List (Nat × Value)) (τ : Nat → Value) (ds : List Deferred) (d : Nat) (v : Value) : (FR n s τ ds).put (some d) v = FR n ((d, v) :: s) τ ds := by
  suffices this : (Array.ofFn (n := n) fun i => look s τ i.val).setIfInBounds d v = Array.ofFn (n := n) fun i => look ((d, v) :: s) τ i.val by
    show Act.mk _ _ = Act.mk _ _
    rw [← this]; rfl
  apply Array.ext
  · simp
  · intro i h1 h2
    simp only [Array.getElem_ofFn, look]
    by_cases e : d = i
    · subst e; simp
    · have : Nat.beq i d = false := by
        cases e' : Nat.beq i d with
        | false => rfl
        | true => exact absurd (Nat.eq_of_beq_eq_true e').symm e
      rw [Array.getElem_setIfInBounds_ne (by simpa using h1) e, Array.getElem_ofFn, this]; rfl

/-- What a slot is known to hold. -/
def lookO : List (Nat × Value) → Nat → Option Value
  | [], _ => none
  | (d, v) :: s, t => cond (Nat.beq t d) (some v) (lookO s t)
theorem look_of : ∀ {s : List (Nat × Value)} {τ : Nat → Value} {t : Nat} {v : Value}, lookO s t = some v → look s τ t = v
  | [], _, _, _, h => by cases h
  | (d, u) :: s, τ, t, v, h => by
    simp only [lookO, look] at h ⊢
    cases e : Nat.beq t d with
    | false => rw [e] at h; exact look_of h
    | true => rw [e] at h; cases h; rfl
def EVO (n : Nat) (s : List (Nat × Value)) : Operand → Option Value
  | .tmp t => cond (Nat.blt t n) (lookO s t) none
  | .const v => some v
  | .global g => some (.pointer (some ⟨g, 0, none⟩))
  | .func f => some (.func (.func f) #[] #[])
theorem eval_of {n : Nat} {s : List (Nat × Value)} {τ : Nat → Value} {ds : List Deferred} {x : Operand} {v : Value} (h : EVO n s x = some v) : (FR n s τ ds).eval x = v := by
  cases x with
  | tmp t =>
    simp only [EVO] at h
    cases e : Nat.blt t n with
    | false => rw [e] at h; cases h
    | true =>
      rw [e] at h
      rw [show (FR n s τ ds).eval (.tmp t) = _ from FR_getD n s τ ds t, e]
      exact look_of h
  | const u => cases h; rfl
  | global g => cases h; rfl
  | func f => cases h; rfl
/-- The listed slots hold what is listed. -/
def Agr (s : List (Nat × Value)) : List (Nat × Value) → Prop
  | [] => True
  | (t, v) :: l => lookO s t = some v ∧ Agr s l
theorem look_agr {s : List (Nat × Value)} {τ : Nat → Value} : ∀ {l : List (Nat × Value)}, Agr s l → ∀ t, look l (look s τ) t = look s τ t
  | [], _, t => rfl
  | (d, v) :: l, ⟨h, k⟩, t => by
    simp only [look]
    cases e : Nat.beq t d with
    | false => exact look_agr k t
    | true => obtain rfl := Nat.eq_of_beq_eq_true e; exact (look_of h).symm
theorem FR_forget {n : Nat} {s : List (Nat × Value)} {τ : Nat → Value} {ds : List Deferred} (l : List (Nat × Value)) (h : Agr s l) : FR n s τ ds = FR n l (look s τ) ds := by
  unfold FR; congr 1; congr 1; funext i; exact (look_agr h i.val).symm

def argS : Nat → List Value → List (Nat × Value)
  | _, [] => []
  | k, v :: l => (k, v) :: argS (k + 1) l
theorem look_argS (τ : Nat → Value) : ∀ (l : List Value) (k j : Nat), look (argS k l) τ (k + j) = (l[j]?).getD (τ (k + j))
  | [], k, j => by simp [argS, look]
  | v :: l, k, 0 => by simp [argS, look]
  | v :: l, k, j + 1 => by
    have : Nat.beq (k + (j + 1)) k = false := by
      cases e : Nat.beq (k + (j + 1)) k with
      | false => rfl
      | true => have := Nat.eq_of_beq_eq_true e; omega
    have ih := look_argS τ l (k + 1) j
    simp only [argS, look, this, cond_false]
    rw [show k + (j + 1) = k + 1 + j by omega, ih]
    simp
theorem FR_args (args : List Value) (n : Nat) (h : args.length ≤ n) :
    ({ tmps := args.toArray ++ Array.replicate (n - args.toArray.size) undef, defers := [] } : Act) = FR n (argS 0 args) (fun _ => undef) [] := by
  unfold FR; congr 1
  apply Array.ext
  · simp; omega
  · intro i h1 h2
    simp only [Array.getElem_ofFn]
    have := look_argS (fun _ => undef) args 0 i
    rw [Nat.zero_add] at this
    rw [this]
    by_cases hi : i < args.length
    · simp [Array.getElem_append, hi]
    · simp [Array.getElem_append, hi]

/- THE TYPES: a table that is held against the program once. -/
structure TI where
  u : TypeDesc
  zero : Value
  size : Nat
  bytes : Nat
def TI.agg (i : TI) : Bool := match i.u with | .struct _ | .array _ _ => true | _ => false
def tyOf (P : Program) (t : Nat) : Option TI :=
  match P.underlying t, P.info? t with
  | some u, some i => i.zero.map fun z => ⟨u, z, i.size, i.bytes⟩
  | _, _ => none
def lookT : List (Nat × TI) → Nat → Option TI
  | [], _ => none
  | (d, i) :: l, t => cond (Nat.beq t d) (some i) (lookT l t)
def TyOK (P : Program) (T : List (Nat × TI)) : Prop := ∀ t i, lookT T t = some i → tyOf P t = some i
theorem TyOK.mk {P : Program} : ∀ {T : List (Nat × TI)}, T.map (fun p => tyOf P p.1) = T.map (fun p => some p.2) → TyOK P T
  | [], _, t, i, h => by cases h
  | (d, j) :: T, hm, t, i, h => by
    simp only [List.map_cons, List.cons.injEq] at hm
    simp only [lookT] at h
    cases e : Nat.beq t d with
    | false => rw [e] at h; exact TyOK.mk hm.2 t i h
    | true => rw [e] at h; obtain rfl := Nat.eq_of_beq_eq_true e; cases h; exact hm.1
section
variable {P : Program} {t : Nat} {i : TI}
theorem ty_info (h : tyOf P t = some i) : P.underlying t = some i.u ∧ ∃ f, P.info? t = some f ∧ f.zero = some i.zero ∧ f.size = i.size ∧ f.bytes = i.bytes := by
  unfold tyOf at h
  split at h
  · rename_i u f hu hf
    cases hz : f.zero with
    | none => rw [hz] at h; cases h
    | some z => rw [hz] at h; cases h; exact ⟨hu, f, hf, hz, rfl, rfl⟩
  · cases h
theorem ty_under (h : tyOf P t = some i) (w : World) : (underlying t).run P w = .ok i.u w := run_underlying (ty_info h).1 w
theorem ty_typeInfo (h : tyOf P t = some i) (w : World) : ∃ f, (typeInfo t).run P w = .ok f w ∧ f.zero = some i.zero ∧ f.size = i.size ∧ f.bytes = i.bytes := by
  obtain ⟨f, hf, h1⟩ := (ty_info h).2
  exact ⟨f, by simp [typeInfo, go_sem, hf], h1⟩
theorem ty_sizeOf (h : tyOf P t = some i) (w : World) : (sizeOf t).run P w = .ok i.size w := by
  obtain ⟨f, hf, _, h1, _⟩ := ty_typeInfo h w
  simp [sizeOf, go_sem, hf, h1]
theorem ty_zero (h : tyOf P t = some i) (w : World) : (zeroValue t).run P w = .ok i.zero w := by
  obtain ⟨f, hf, h1, _⟩ := ty_typeInfo h w
  simp [zeroValue, go_sem, hf, h1]
theorem ty_isAgg (h : tyOf P t = some i) (w : World) : (isAgg t).run P w = .ok i.agg w := by
  have := ty_under h w
  unfold isAgg TI.agg
  simp only [Sem.run_bind, this, Result.andThen]
  cases i.u <;> rfl
end
end Go.Sl
