/- Drawn regions: the length of a text, a part of a text. -/
import Derived.Test.YtbmeafeojcgndaaDoorV12
import Derived.Test.YtbmeafeojcgndaaDoorV31
set_option linter.unusedVariables false
set_option linter.unusedSimpArgs false
namespace Go.Sl
open Go.RowKit
section
variable {r : Option Nat} {P : Program} {T : List (Nat × TI)} {l : List Oper} {eff : List Nat} {K : Act → World → Prop} {Cs : List (Nat × (World → Prop))} {plan : List Nat} {listed : Array Bool} {w : World} {n : Nat} {s : List (Nat × Value)} {τ : Nat → Value} {ds : List Deferred}
  {ty : TypeId} {ps : String} {af : Array Edge} {d : Nat} {gd : Option (Nat × Bool)} {t : TypeId} {x y z : Operand} {p : ByteArray} {a : List UInt8}
theorem DP_strLH {e : Nat} {k k' : IntKind} {ti : TI} {i j : Int} (c : List UInt8) (hT : TyOK P T) (heff : eff.contains e = false) (hi : getA l e = some ⟨some d, .slice t x (some y) (some z) none, ty, ps, af, gd⟩) (hg : gdOK s n l gd) (hx : EVO n s x = some (sv a)) (hy : EVO n s y = some (.int k i)) (hz : EVO n s z = some (.int k' j)) (ht : lookT T t = some ti) (hu : ti.u = .string) (h0 : 0 ≤ i) (h1 : i ≤ j) (h2 : j ≤ a.length) (hc : (a.take j.toNat).drop i.toNat = c)
    (kk : DP r P l eff K Cs plan (listed.setIfInBounds e true) (FR n ((d, sv c) :: s) τ ds) w) : DP r P l eff K Cs (e :: plan) listed (FR n s τ ds) w := by
  refine DP_plain (v := sv c) heff hi (YC.mkD hg fun w _ => ?_) (by rw [put_FR]; exact kk)
  show Sem.run P (do let v ← Instr.sliceAt t ((FR n s τ ds).eval x) (some ((FR n s τ ds).eval y)) (some ((FR n s τ ds).eval z)) none; pure (Next.value v)) w = _
  have hu1 := (ty_info (hT _ _ ht)).1
  rw [hu] at hu1
  have hsz : (ByteArray.mk a.toArray).size = a.length := rfl
  rw [eval_of hx, eval_of hy, eval_of hz, Sem.run_bind, run_sliceAt_string w t _ _ _ _ hu1, run_slice_string w t _ k k' i j hu1 h0 h1 (by rw [hsz]; exact h2), extract_lst, hc]; rfl
theorem DP_lenN {e : Nat} {ti : TI} {xs : Array Operand} {m : Int} (hT : TyOK P T) (heff : eff.contains e = false) (hi : getA l e = some ⟨some d, .call { callee := .builtin .len, args := xs, argTypes := #[t] }, ty, ps, af, gd⟩) (hg : gdOK s n l gd) (hx : evalL n s xs.toList = some [.string p]) (ht : lookT T t = some ti) (hu : ti.u = .string) (hp : p.data.toList = a) (hm : (a.length : Int) = m)
    (kk : DP r P l eff K Cs plan (listed.setIfInBounds e true) (FR n ((d, .int .i64 m) :: s) τ ds) w) : DP r P l eff K Cs (e :: plan) listed (FR n s τ ds) w := by
  refine DP_pure (T := T) (v := .int .i64 m) hT heff hi hg ?_ kk
  obtain ⟨u, z, sz, by_⟩ := ti
  dsimp only at hu; subst hu
  subst hm; subst hp
  simp only [evalOp, hx, ht]
  congr 2
/-- A whole element of a row of one's own, read while other blocks are made. -/
theorem DP_loadRowA {i : Nat} {α : Type} [Inhabited α] {enc : α → List Value} {xs : List α} {A : Option Addr} (hr : Rd enc w A xs) {sz : Nat} (hz : ∀ x, (enc x).length = sz) {x : Operand} {t : TypeId} {ti : TI} {b o : Nat} {j : Int} (hT : TyOK P T) (heff : eff.contains i = false) (hi : getA l i = some ⟨some d, .load t x, ty, ps, af, gd⟩) (hg : gdOK s n l gd) (hx : EVO n s x = some (.pointer (some ⟨b, o + j.toNat * sz, none⟩))) (hA : A = some ⟨b, o, none⟩) (ht : lookT T t = some ti) (ha : ti.agg = true) (hsz : ti.size = sz)
    (h0 : 0 ≤ j) (h1 : j < xs.length) {vs : List Value} (hv : enc (rd xs j) = vs) (hI : Inv l eff Cs listed w) (c : DP r P l eff K ((i, fun w' => ∀ k v, vs[k]? = some v → w'.cell? ⟨b, o + j.toNat * sz + k, none⟩ = some v) :: Cs) plan (listed.setIfInBounds i true) (FR n ((d, .agg vs.toArray) :: s) τ ds) w) : DP r P l eff K Cs (i :: plan) listed (FR n s τ ds) w := by
  refine DP_yield (v := .agg vs.toArray) (fun w' => ∀ k v, vs[k]? = some v → w'.cell? ⟨b, o + j.toNat * sz + k, none⟩ = some v) heff hi (YC.mkD hg fun w' hw' => ?_) (fun k v hk => ?_) hI (by rw [put_FR]; exact c)
  · show Sem.run P (do let v ← Instr.loadAt t ((FR n s τ ds).eval x); pure (Next.value v)) w' = _
    rw [eval_of hx, Sem.run_bind, run_loadA (hT _ _ ht) ha (by rw [← hv, hz, hsz]) (fun j v hj => hw' j v hj)]; rfl
  · exact hr.cell hz hA h0 h1 (k := k) (v := v) (by rw [getA_eq, hv]; exact hk)
theorem Inv.keepRA {i : Nat} {α : Type} [Inhabited α] {enc : α → List Value} {xs : List α} {A : Option Addr} {b o sz : Nat} {j : Int} {vs : List Value} (hr : Rd enc w A xs) (hz : ∀ x, (enc x).length = sz) (hA : A = some ⟨b, o, none⟩) (h0 : 0 ≤ j) (h1 : j < xs.length) (hv : enc (rd xs j) = vs) (k : Inv l eff Cs listed w) : Inv l eff ((i, fun w' => ∀ k v, vs[k]? = some v → w'.cell? ⟨b, o + j.toNat * sz + k, none⟩ = some v) :: Cs) listed w :=
  Inv.keep (fun k v hk => hr.cell hz hA h0 h1 (k := k) (v := v) (by rw [getA_eq, hv]; exact hk)) k
end
end Go.Sl
