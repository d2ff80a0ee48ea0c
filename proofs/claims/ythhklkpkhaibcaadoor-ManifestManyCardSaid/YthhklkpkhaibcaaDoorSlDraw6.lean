/- Drawn regions: several cells of a block of one's own read at once; the least and the greatest; a slice's front. -/
import Derived.Test.YthhklkpkhaibcaaDoorSlText
set_option linter.unusedVariables false
set_option linter.unusedSimpArgs false
namespace Go.Sl
open Go.RowKit
section
variable {r : Option Nat} {P : Program} {T : List (Nat × TI)} {l : List Oper} {eff : List Nat} {K : Act → World → Prop} {Cs : List (Nat × (World → Prop))} {plan : List Nat} {listed : Array Bool} {a : Act} {w : World} {n : Nat} {s : List (Nat × Value)} {τ : Nat → Value} {ds : List Deferred}
  {W : World} {L : List HProp} {op : Op} {ty : TypeId} {ps : String} {af : Array Edge} {d i : Nat} {gd : Option (Nat × Bool)}
theorem Inv.keepO (j : Nat) {i b : Nat} {o : Obj} (hs : Sat W w L) (hj : getA L j = some (Bk b o)) (k : Inv l eff Cs listed w) : Inv l eff ((i, fun w' => w'.heap[b]? = some o) :: Cs) listed w := by
  rw [getA_eq] at hj
  exact Inv.keep (hs.at j hj).2 k
theorem DP_loadCA (j : Nat) (ws : List Value) {x : Operand} {t : TypeId} {ti : TI} {b o : Nat} {vs : List Value} {te : TypeId} (hs : Sat W w L) (hT : TyOK P T) (heff : eff.contains i = false) (hi : getA l i = some ⟨some d, .load t x, ty, ps, af, gd⟩) (hg : gdOK s n l gd) (hx : EVO n s x = some (.pointer (some ⟨b, o, none⟩))) (ht : lookT T t = some ti) (ha : ti.agg = true) (hj : getA L j = some (Cl b vs te)) (hfit : o + ti.size ≤ vs.length) (hw : (vs.drop o).take ti.size = ws)
    (hI : Inv l eff Cs listed w) (k : DP r P l eff K ((i, fun w' => w'.heap[b]? = some (.cells vs.toArray te (0, 0))) :: Cs) plan (listed.setIfInBounds i true) (FR n ((d, .agg ws.toArray) :: s) τ ds) w) : DP r P l eff K Cs (i :: plan) listed (FR n s τ ds) w := by
  rw [getA_eq] at hj
  refine DP_yield (v := .agg ws.toArray) (fun w' => w'.heap[b]? = some (.cells vs.toArray te (0, 0))) heff hi (YC.mkD hg fun w' hw' => ?_) (hs.at j hj).2 hI (by rw [put_FR]; exact k)
  show Sem.run P (do let v ← Instr.loadAt t ((FR n s τ ds).eval x); pure (Next.value v)) w' = _
  have hl : ws.length = ti.size := by rw [← hw, List.length_take, List.length_drop]; omega
  rw [eval_of hx, Sem.run_bind, run_loadA (hT _ _ ht) ha hl (fun q v hq => by
    simp only [World.cell?, hw', ← hw] at hq ⊢
    rw [List.getElem?_take] at hq
    split at hq
    · rw [List.getElem?_drop] at hq; simpa using hq
    · cases hq)]; rfl
theorem DP_min2 {x y : Operand} {ts : Array TypeId} {k : IntKind} {p q : Int} (e : Int) (heff : eff.contains i = false) (hi : getA l i = some ⟨some d, .call { callee := .builtin .min, args := #[x, y], argTypes := ts }, ty, ps, af, gd⟩) (hg : gdOK s n l gd) (hx : EVO n s x = some (.int k p)) (hy : EVO n s y = some (.int k q)) (he : (if q < p then q else p) = e)
    (c : DP r P l eff K Cs plan (listed.setIfInBounds i true) (FR n ((d, .int k e) :: s) τ ds) w) : DP r P l eff K Cs (i :: plan) listed (FR n s τ ds) w := by
  refine DP_plain (v := .int k e) heff hi (YC.mkD hg fun w _ => ?_) (by rw [put_FR]; exact c)
  show Sem.run P (do let d ← resolve (FR n s τ ds).eval { callee := .builtin .min, args := #[x, y], argTypes := ts } ty; invoke d.target d.args) w = _
  have e1 : (#[x, y] : Array Operand).map (FR n s τ ds).eval = #[.int k p, .int k q] := by simp [eval_of hx, eval_of hy]
  subst he
  simp only [resolve, e1, Sem.run_bind, Sem.run_pure, Result.andThen, invoke, builtin, Builtin.min_, List.foldlM_cons, List.foldlM_nil, Builtin.min2]
theorem DP_max2 {x y : Operand} {ts : Array TypeId} {k : IntKind} {p q : Int} (e : Int) (heff : eff.contains i = false) (hi : getA l i = some ⟨some d, .call { callee := .builtin .max, args := #[x, y], argTypes := ts }, ty, ps, af, gd⟩) (hg : gdOK s n l gd) (hx : EVO n s x = some (.int k p)) (hy : EVO n s y = some (.int k q)) (he : (if q > p then q else p) = e)
    (c : DP r P l eff K Cs plan (listed.setIfInBounds i true) (FR n ((d, .int k e) :: s) τ ds) w) : DP r P l eff K Cs (i :: plan) listed (FR n s τ ds) w := by
  refine DP_plain (v := .int k e) heff hi (YC.mkD hg fun w _ => ?_) (by rw [put_FR]; exact c)
  show Sem.run P (do let d ← resolve (FR n s τ ds).eval { callee := .builtin .max, args := #[x, y], argTypes := ts } ty; invoke d.target d.args) w = _
  have e1 : (#[x, y] : Array Operand).map (FR n s τ ds).eval = #[.int k p, .int k q] := by simp [eval_of hx, eval_of hy]
  subst he
  simp only [resolve, e1, Sem.run_bind, Sem.run_pure, Result.andThen, invoke, builtin, Builtin.max_, List.foldlM_cons, List.foldlM_nil, Builtin.max2]
theorem DP_sliceH {t e : TypeId} {x y : Operand} {ti te : TI} {A : Option Addr} {len cap : Nat} {k1 : IntKind} {hi' : Int} (hT : TyOK P T) (heff : eff.contains i = false) (hi : getA l i = some ⟨some d, .slice t x none (some y) none, ty, ps, af, gd⟩) (hg : gdOK s n l gd)
    (hx : EVO n s x = some (.slice A len cap)) (hy : EVO n s y = some (.int k1 hi')) (ht : lookT T t = some ti) (hu : ti.u = .slice e) (he : lookT T e = some te) (h0 : 0 ≤ hi') (h1 : hi' ≤ cap)
    (c : DP r P l eff K Cs plan (listed.setIfInBounds i true) (FR n ((d, .slice A hi'.toNat cap) :: s) τ ds) w) : DP r P l eff K Cs (i :: plan) listed (FR n s τ ds) w := by
  refine DP_plain (v := .slice A hi'.toNat cap) heff hi (YC.mkD hg fun w _ => ?_) (by rw [put_FR]; exact c)
  show Sem.run P (do let v ← Instr.sliceAt t ((FR n s τ ds).eval x) none (some ((FR n s τ ds).eval y)) none; pure (Next.value v)) w = _
  have hu1 := (ty_info (hT _ _ ht)).1
  rw [hu] at hu1
  have hel := elem_of hu1
  have hu2 : P.underlying t = some (.slice (P.elem t)) := by rw [hel]; exact hu1
  have hm := movedA_zero A
  unfold movedA at hm
  rw [eval_of hx, eval_of hy, Sem.run_bind, run_sliceAt_slice w t _ _ _ _ hu2, run_slice_h w t A len cap hu2 k1 hi' h0 h1, hel, ty_sizeOf (hT _ _ he)]
  simp [Result.andThen, sliced, hm]
end
end Go.Sl
