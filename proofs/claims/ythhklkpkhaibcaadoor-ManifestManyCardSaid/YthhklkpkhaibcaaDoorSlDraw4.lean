/- Drawn regions without a plan: several operations may come next, and each is gone through. -/
import Derived.Test.YthhklkpkhaibcaaDoorSlKeep3
set_option linter.unusedVariables false
set_option linter.unusedSimpArgs false
namespace Go.Sl
open Go.RowKit
def DX (r : Option Nat) (P : Program) (l : List Oper) (eff : List Nat) (K : Act → World → Prop) (Cs : List (Nat × (World → Prop))) (fuel : Nat) (listed : Array Bool) (a : Act) (w : World) : Prop :=
  noDefer l.toArray = true → DW r P l eff K Cs fuel listed a w
section
variable {r : Option Nat} {P : Program} {T : List (Nat × TI)} {l : List Oper} {eff : List Nat} {K : Act → World → Prop} {Cs : List (Nat × (World → Prop))} {fuel : Nat} {listed : Array Bool} {a : Act} {w : World} {n : Nat} {s : List (Nat × Value)} {τ : Nat → Value} {ds : List Deferred}
  {W : World} {L : List HProp} {op : Op} {ty : TypeId} {ps : String} {af : Array Edge} {d i : Nat} {α : Type}
/-- Is the plan one for the first operations, each of which only reads? -/
def preOK (l : List Oper) (eff : List Nat) : List Nat → Array Bool → Bool
  | [], _ => true
  | i :: rest, listed => (!eff.contains i) && (Region.free .any l.toArray listed i && (Region.ready .any l.toArray listed).contains i) && preOK l eff rest (listed.setIfInBounds i true)
def DY (r : Option Nat) (P : Program) (l : List Oper) (eff : List Nat) (K : Act → World → Prop) (Cs : List (Nat × (World → Prop))) (plan : List Nat) (fuel : Nat) (listed : Array Bool) (a : Act) (w : World) : Prop :=
  noDefer l.toArray = true → preOK l eff plan listed = true → DW r P l eff K Cs (plan.length + fuel) listed a w
theorem CW_drawX {Q : Exit → Act → World → Prop} {id : Nat} (eff plan : List Nat) (fuel : Nat) (hm : P.follows .mixedOrders = true) (hok : (noDefer l.toArray && preOK l eff plan (Array.replicate l.length false) && Nat.beq (plan.length + fuel) l.length) = true) (hs : Sat W w L)
    (h : Sat W w.drew L → DY r P l eff (fun a w => Q .normal a w) [] plan fuel (Array.replicate l.length false) a w.drew) : CW r P (.region id l.toArray true) Q a w := by
  simp only [Bool.and_eq_true] at hok
  refine CW_draw eff hm hok.1.1 ?_
  have := h hs.drew hok.1.1 hok.1.2
  rwa [Nat.eq_of_beq_eq_true hok.2] at this
theorem DY_nil (h : DX r P l eff K Cs fuel listed a w) : DY r P l eff K Cs [] fuel listed a w := fun hnd _ => by
  have := h hnd
  simpa using this
theorem DY_plain {plan : List Nat} {o : Oper} {v : Value} (hi : getA l i = some o) (hy : YC P l.toArray (fun _ => True) o v a) (k : DY r P l eff K Cs plan fuel (listed.setIfInBounds i true) (a.put o.dst v) w) : DY r P l eff K Cs (i :: plan) fuel listed a w := fun hnd hp => by
  unfold preOK at hp
  simp only [Bool.and_eq_true, Bool.not_eq_true'] at hp
  have e : (i :: plan).length + fuel = (plan.length + fuel) + 1 := by rw [List.length_cons]; omega
  rw [e]
  exact DW_plain i hi hnd hp.1.1 hp.1.2.1 hp.1.2.2 hy (k hnd hp.2)
theorem DY_yield {plan : List Nat} {o : Oper} {v : Value} (c : World → Prop) (hi : getA l i = some o) (hy : YC P l.toArray c o v a) (hc : c w) (hI : Inv l eff Cs listed w) (k : DY r P l eff K ((i, c) :: Cs) plan fuel (listed.setIfInBounds i true) (a.put o.dst v) w) : DY r P l eff K Cs (i :: plan) fuel listed a w := fun hnd hp => by
  unfold preOK at hp
  simp only [Bool.and_eq_true, Bool.not_eq_true'] at hp
  have e : (i :: plan).length + fuel = (plan.length + fuel) + 1 := by rw [List.length_cons]; omega
  rw [e]
  exact DW_yield i c hi hnd hp.1.1 hp.1.2.1 hp.1.2.2 hy hc hI (k hnd hp.2)
theorem DY_pure {plan : List Nat} (hT : TyOK P T) (hi : getA l i = some ⟨some d, op, ty, ps, af, none⟩) {v : Value} (h : evalOp T n s op = some v) (k : DY r P l eff K Cs plan fuel (listed.setIfInBounds i true) (FR n ((d, v) :: s) τ ds) w) :
    DY r P l eff K Cs (i :: plan) fuel listed (FR n s τ ds) w :=
  DY_plain hi (YC.mk rfl fun w _ => evalOp_run (fun x v => eval_of) hT h w) (by rw [put_FR]; exact k)
theorem DY_loadC (j : Nat) {plan : List Nat} {x : Operand} {t : TypeId} {ti : TI} {b o : Nat} {v : Value} {vs : List Value} {te : TypeId} (hs : Sat W w L) (hT : TyOK P T) (hi : getA l i = some ⟨some d, .load t x, ty, ps, af, none⟩) (hx : EVO n s x = some (.pointer (some ⟨b, o, none⟩))) (ht : lookT T t = some ti) (ha : ti.agg = false) (hj : getA L j = some (Cl b vs te)) (hv : getA vs o = some v)
    (hI : Inv l eff Cs listed w) (k : DY r P l eff K ((i, fun w' => w'.cell? ⟨b, o, none⟩ = some v) :: Cs) plan fuel (listed.setIfInBounds i true) (FR n ((d, v) :: s) τ ds) w) : DY r P l eff K Cs (i :: plan) fuel listed (FR n s τ ds) w := by
  rw [getA_eq] at hj hv
  refine DY_yield (v := v) (fun w' => w'.cell? ⟨b, o, none⟩ = some v) hi (YC.mk rfl fun w' hw' => ?_) ((hs.cell j hj o).trans hv) hI (by rw [put_FR]; exact k)
  show Sem.run P (do let v ← Instr.loadAt t ((FR n s τ ds).eval x); pure (Next.value v)) w' = _
  rw [eval_of hx, Sem.run_bind, run_load1 (hT _ _ ht) ha hw']; rfl
theorem DX_end (hr : Region.ready .any l.toArray listed = []) (hI : Inv l eff Cs listed w) (h : K a w) : DX r P l eff K Cs fuel listed a w := fun _ => DW_end ⟨hI, h⟩ hr
theorem DX_mono {o : List Oper} (hnd : noDefer l.toArray = true) (h : LW r P l.toArray (QN (DX r P l eff K Cs fuel listed)) o a w) : LW r P l.toArray (QN (DW r P l eff K Cs fuel listed)) o a w := by
  induction o generalizing a w with
  | nil => exact h hnd
  | cons o os ih =>
    unfold LW wpListIn at h ⊢
    split at h
    · rw [if_pos ‹_›]
      exact ⟨h.1, uponIn_mono (fun a w q => ih q) (fun _ _ _ q => q) (fun _ _ q => q) h.2⟩
    · rw [if_neg ‹_›]; exact ⟨h.1, ih h.2⟩
/-- One alone, two, or three may come next. -/
theorem DX_1 {o : Oper} (i : Nat) (hi : getA l i = some o) (hr : Region.ready .any l.toArray listed = [i]) (hI : Inv l eff Cs listed w) (h : LW r P l.toArray (QN (DX r P l eff K Cs fuel (listed.setIfInBounds i true))) [o] a w) : DX r P l eff K Cs (fuel + 1) listed a w :=
  fun hnd => DW_eff i hi hnd hr hI (DX_mono hnd h)
theorem DX_2 {o1 o2 : Oper} (i j : Nat) (hi : getA l i = some o1) (hj : getA l j = some o2) (hr : Region.ready .any l.toArray listed = [i, j]) (hI : Inv l eff Cs listed w) (h1 : LW r P l.toArray (QN (DX r P l eff K Cs fuel (listed.setIfInBounds i true))) [o1] a w)
    (h2 : LW r P l.toArray (QN (DX r P l eff K Cs fuel (listed.setIfInBounds j true))) [o2] a w) : DX r P l eff K Cs (fuel + 1) listed a w :=
  fun hnd => DW_all hnd hr (by simp) hI fun x hx o ho => by
    simp only [List.mem_cons, List.not_mem_nil, or_false] at hx
    rcases hx with rfl | rfl
    · rw [hi] at ho; cases ho; exact DX_mono hnd h1
    · rw [hj] at ho; cases ho; exact DX_mono hnd h2
theorem DX_3 {o1 o2 o3 : Oper} (i j k : Nat) (hi : getA l i = some o1) (hj : getA l j = some o2) (hk : getA l k = some o3) (hr : Region.ready .any l.toArray listed = [i, j, k]) (hI : Inv l eff Cs listed w) (h1 : LW r P l.toArray (QN (DX r P l eff K Cs fuel (listed.setIfInBounds i true))) [o1] a w)
    (h2 : LW r P l.toArray (QN (DX r P l eff K Cs fuel (listed.setIfInBounds j true))) [o2] a w) (h3 : LW r P l.toArray (QN (DX r P l eff K Cs fuel (listed.setIfInBounds k true))) [o3] a w) : DX r P l eff K Cs (fuel + 1) listed a w :=
  fun hnd => DW_all hnd hr (by simp) hI fun x hx o ho => by
    simp only [List.mem_cons, List.not_mem_nil, or_false] at hx
    rcases hx with rfl | rfl | rfl
    · rw [hi] at ho; cases ho; exact DX_mono hnd h1
    · rw [hj] at ho; cases ho; exact DX_mono hnd h2
    · rw [hk] at ho; cases ho; exact DX_mono hnd h3
end
end Go.Sl
