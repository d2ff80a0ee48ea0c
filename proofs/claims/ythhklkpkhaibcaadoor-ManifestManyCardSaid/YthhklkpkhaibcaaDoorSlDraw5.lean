/- Drawn regions without a plan: an operation that only reckons. -/
import Derived.Test.YthhklkpkhaibcaaDoorSlDraw4
set_option linter.unusedVariables false
set_option linter.unusedSimpArgs false
namespace Go.Sl
open Go.RowKit
section
variable {r : Option Nat} {P : Program} {T : List (Nat × TI)} {l : List Oper} {eff : List Nat} {K : Act → World → Prop} {Cs : List (Nat × (World → Prop))} {fuel : Nat} {listed : Array Bool} {w : World} {n : Nat} {s : List (Nat × Value)} {τ : Nat → Value} {ds : List Deferred} {op : Op} {ty : TypeId} {ps : String} {af : Array Edge} {d : Nat}
theorem DX_pure (i : Nat) (hT : TyOK P T) (hi : getA l i = some ⟨some d, op, ty, ps, af, none⟩) (hc : (!eff.contains i && (Region.free .any l.toArray listed i && (Region.ready .any l.toArray listed).contains i)) = true) {v : Value} (h : evalOp T n s op = some v) (k : DX r P l eff K Cs fuel (listed.setIfInBounds i true) (FR n ((d, v) :: s) τ ds) w) : DX r P l eff K Cs (fuel + 1) listed (FR n s τ ds) w := fun hnd => by
  simp only [Bool.and_eq_true, Bool.not_eq_true'] at hc
  exact DW_plain i hi hnd hc.1 hc.2.1 hc.2.2 (YC.mk rfl fun w _ => evalOp_run (fun x v => eval_of) hT h w) (by rw [put_FR]; exact k hnd)
variable {Cs' : List (Nat × (World → Prop))} {plan : List Nat} {i : Nat} {gd : Option (Nat × Bool)}
theorem DP_build {t : TypeId} {ti : TI} {fields : Array Field} {pl : List (Nat × Nat)} {parts : Array (Nat × Operand)} {pv : List (Nat × Value)} {zs : List Value} {cs : List Value} (hT : TyOK P T) (heff : eff.contains i = false) (hi : getA l i = some ⟨some d, .build t parts, ty, ps, af, gd⟩) (hg : gdOK s n l gd) (ht : lookT T t = some ti) (hu : ti.u = .struct fields) (hp : fieldPl T fields.toList = some pl)
    (he : evalParts n s parts.toList = some pv) (hz : zeroL ti.zero = some zs) (hf0 : fillF (getA pl) zs pv = some cs) (k : DP r P l eff K Cs plan (listed.setIfInBounds i true) (FR n ((d, .agg cs.toArray) :: s) τ ds) w) : DP r P l eff K Cs (i :: plan) listed (FR n s τ ds) w := by
  have hf := fillF_eq hf0
  refine DP_plain (v := .agg cs.toArray) heff hi (YC.mkD hg fun w' _ => ?_) (by rw [put_FR]; exact k)
  show Sem.run P (do let v ← Instr.build t (parts.map fun (i, x) => (i, (FR n s τ ds).eval x)); pure (Next.value v)) w' = _
  have e1 := evalParts_run (ρ := (FR n s τ ds).eval) (fun x v => eval_of) he
  have hz' : ∃ zs', ti.zero = .agg zs' ∧ zs'.toList = zs := by
    cases h : ti.zero with
    | agg c => rw [h] at hz; cases hz; exact ⟨c, rfl, rfl⟩
    | _ => rw [h] at hz; cases hz
  obtain ⟨zs', hz1, hz2⟩ := hz'
  rw [Sem.run_bind, run_build (cs := cs) hT ht hu ⟨zs', hz1, by rw [hz2]; simpa [e1] using hf⟩ hp]; rfl
theorem DP_indexAddr {t e : TypeId} {x y : Operand} {ti te : TI} {k : IntKind} {b o len cap : Nat} {j : Int} (hT : TyOK P T) (heff : eff.contains i = false) (hi : getA l i = some ⟨some d, .indexAddr t x y, ty, ps, af, gd⟩) (hg : gdOK s n l gd)
    (hx : EVO n s x = some (.slice (some ⟨b, o, none⟩) len cap)) (hy : EVO n s y = some (.int k j)) (ht : lookT T t = some ti) (hu : ti.u = .slice e) (he : lookT T e = some te) (h0 : 0 ≤ j) (h1 : j < len)
    (c : DP r P l eff K Cs plan (listed.setIfInBounds i true) (FR n ((d, .pointer (some ⟨b, o + j.toNat * te.size, none⟩)) :: s) τ ds) w) : DP r P l eff K Cs (i :: plan) listed (FR n s τ ds) w := by
  refine DP_plain (v := .pointer (some ⟨b, o + j.toNat * te.size, none⟩)) heff hi (YC.mkD hg fun w _ => ?_) (by rw [put_FR]; exact c)
  show Sem.run P (do let v ← Instr.indexAt t ((FR n s τ ds).eval x) ((FR n s τ ds).eval y); pure (Next.value v)) w = _
  rw [eval_of hx, eval_of hy, Sem.run_bind, run_indexAddr (hT _ _ ht) hu (hT _ _ he) h0 h1]; rfl
theorem DY_build {t : TypeId} {ti : TI} {fields : Array Field} {pl : List (Nat × Nat)} {parts : Array (Nat × Operand)} {pv : List (Nat × Value)} {zs : List Value} {cs : List Value} (hT : TyOK P T) (hi : getA l i = some ⟨some d, .build t parts, ty, ps, af, none⟩) (ht : lookT T t = some ti) (hu : ti.u = .struct fields) (hp : fieldPl T fields.toList = some pl)
    (he : evalParts n s parts.toList = some pv) (hz : zeroL ti.zero = some zs) (hf0 : fillF (getA pl) zs pv = some cs) (k : DY r P l eff K Cs plan fuel (listed.setIfInBounds i true) (FR n ((d, .agg cs.toArray) :: s) τ ds) w) : DY r P l eff K Cs (i :: plan) fuel listed (FR n s τ ds) w := by
  have hf := fillF_eq hf0
  refine DY_plain (v := .agg cs.toArray) hi (YC.mk rfl fun w' _ => ?_) (by rw [put_FR]; exact k)
  show Sem.run P (do let v ← Instr.build t (parts.map fun (i, x) => (i, (FR n s τ ds).eval x)); pure (Next.value v)) w' = _
  have e1 := evalParts_run (ρ := (FR n s τ ds).eval) (fun x v => eval_of) he
  have hz' : ∃ zs', ti.zero = .agg zs' ∧ zs'.toList = zs := by
    cases h : ti.zero with
    | agg c => rw [h] at hz; cases hz; exact ⟨c, rfl, rfl⟩
    | _ => rw [h] at hz; cases hz
  obtain ⟨zs', hz1, hz2⟩ := hz'
  rw [Sem.run_bind, run_build (cs := cs) hT ht hu ⟨zs', hz1, by rw [hz2]; simpa [e1] using hf⟩ hp]; rfl
end
end Go.Sl
