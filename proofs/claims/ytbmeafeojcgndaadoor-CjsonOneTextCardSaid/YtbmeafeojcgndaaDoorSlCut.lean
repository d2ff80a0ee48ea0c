/- Drawn regions: parts of slices. -/
import Derived.Test.YtbmeafeojcgndaaDoorSlText2
set_option linter.unusedVariables false
set_option linter.unusedSimpArgs false
namespace Go.Sl
open Go.RowKit
section
variable {r : Option Nat} {P : Program} {T : List (Nat × TI)} {l : List Oper} {eff : List Nat} {K : Act → World → Prop} {Cs : List (Nat × (World → Prop))} {plan : List Nat} {listed : Array Bool} {a : Act} {w : World} {n : Nat} {s : List (Nat × Value)} {τ : Nat → Value} {ds : List Deferred}
  {ty : TypeId} {ps : String} {af : Array Edge} {d i : Nat} {gd : Option (Nat × Bool)}
theorem DP_sliceL (A' : Option Addr) (len' cap' : Nat) {t e : TypeId} {x y : Operand} {ti te : TI} {A : Option Addr} {len cap : Nat} {k1 : IntKind} {lo : Int} (hT : TyOK P T) (heff : eff.contains i = false) (hi : getA l i = some ⟨some d, .slice t x (some y) none none, ty, ps, af, gd⟩) (hg : gdOK s n l gd)
    (hx : EVO n s x = some (.slice A len cap)) (hy : EVO n s y = some (.int k1 lo)) (ht : lookT T t = some ti) (hu : ti.u = .slice e) (he : lookT T e = some te) (h0 : 0 ≤ lo) (h1 : lo ≤ len)
    (ea : slicedA A lo.toNat cap (lo.toNat * te.size) = A') (el : len - lo.toNat = len') (ec : cap - lo.toNat = cap')
    (c : DP r P l eff K Cs plan (listed.setIfInBounds i true) (FR n ((d, .slice A' len' cap') :: s) τ ds) w) : DP r P l eff K Cs (i :: plan) listed (FR n s τ ds) w := by
  subst ea el ec
  refine DP_plain (v := .slice (slicedA A lo.toNat cap (lo.toNat * te.size)) (len - lo.toNat) (cap - lo.toNat)) heff hi (YC.mkD hg fun w _ => ?_) (by rw [put_FR]; exact c)
  show Sem.run P (do let v ← Instr.sliceAt t ((FR n s τ ds).eval x) (some ((FR n s τ ds).eval y)) none none; pure (Next.value v)) w = _
  have hu1 := (ty_info (hT _ _ ht)).1
  rw [hu] at hu1
  have hel := elem_of hu1
  have hu2 : P.underlying t = some (.slice (P.elem t)) := by rw [hel]; exact hu1
  rw [eval_of hx, eval_of hy, Sem.run_bind, run_sliceAt_slice w t _ _ _ _ hu2, run_slice_l w t A len cap hu2 k1 lo h0 h1, hel, ty_sizeOf (hT _ _ he)]
  simp [Result.andThen, sliced, slicedA, movedA]
theorem DP_sliceLH (A' : Option Addr) (len' cap' : Nat) {t e : TypeId} {x y z : Operand} {ti te : TI} {A : Option Addr} {len cap : Nat} {k1 k2 : IntKind} {lo hi' : Int} (hT : TyOK P T) (heff : eff.contains i = false) (hi : getA l i = some ⟨some d, .slice t x (some y) (some z) none, ty, ps, af, gd⟩) (hg : gdOK s n l gd)
    (hx : EVO n s x = some (.slice A len cap)) (hy : EVO n s y = some (.int k1 lo)) (hz : EVO n s z = some (.int k2 hi')) (ht : lookT T t = some ti) (hu : ti.u = .slice e) (he : lookT T e = some te) (h0 : 0 ≤ lo) (h1 : lo ≤ hi') (h2 : hi' ≤ cap)
    (ea : slicedA A lo.toNat cap (lo.toNat * te.size) = A') (el : hi'.toNat - lo.toNat = len') (ec : cap - lo.toNat = cap')
    (c : DP r P l eff K Cs plan (listed.setIfInBounds i true) (FR n ((d, .slice A' len' cap') :: s) τ ds) w) : DP r P l eff K Cs (i :: plan) listed (FR n s τ ds) w := by
  subst ea el ec
  refine DP_plain (v := .slice (slicedA A lo.toNat cap (lo.toNat * te.size)) (hi'.toNat - lo.toNat) (cap - lo.toNat)) heff hi (YC.mkD hg fun w _ => ?_) (by rw [put_FR]; exact c)
  show Sem.run P (do let v ← Instr.sliceAt t ((FR n s τ ds).eval x) (some ((FR n s τ ds).eval y)) (some ((FR n s τ ds).eval z)) none; pure (Next.value v)) w = _
  have hu1 := (ty_info (hT _ _ ht)).1
  rw [hu] at hu1
  have hel := elem_of hu1
  have hu2 : P.underlying t = some (.slice (P.elem t)) := by rw [hel]; exact hu1
  rw [eval_of hx, eval_of hy, eval_of hz, Sem.run_bind, run_sliceAt_slice w t _ _ _ _ hu2, run_slice_lh w t A len cap hu2 k1 k2 lo hi' h0 h1 h2, hel, ty_sizeOf (hT _ _ he)]
  simp [Result.andThen, sliced, slicedA, movedA]
end
theorem Sat.of_below {w w' : World} (h : Below w.heap.size w w') : Sat w w' [] := ⟨h, trivial⟩
end Go.Sl
