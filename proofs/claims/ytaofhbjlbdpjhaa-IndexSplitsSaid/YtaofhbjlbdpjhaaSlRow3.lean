/- Drawn regions: an element of a row of one's own is read, and other rows are made meanwhile. -/
import Derived.Test.YtaofhbjlbdpjhaaSlRow2
set_option linter.unusedVariables false
set_option linter.unusedSimpArgs false
namespace Go.Sl
open Go.RowKit
section
variable {r : Option Nat} {P : Program} {T : List (Nat × TI)} {l : List Oper} {eff : List Nat} {K : Act → World → Prop} {Cs : List (Nat × (World → Prop))} {plan : List Nat} {listed : Array Bool} {w : World} {n : Nat} {s : List (Nat × Value)} {τ : Nat → Value} {ds : List Deferred}
  {ty : TypeId} {ps : String} {af : Array Edge} {d i : Nat} {gd : Option (Nat × Bool)} {α : Type}
theorem DP_loadRow [Inhabited α] {enc : α → List Value} {xs : List α} {A : Option Addr} (hr : Rd enc w A xs) {sz : Nat} (hz : ∀ x, (enc x).length = sz) {x : Operand} {t : TypeId} {ti : TI} {b o k : Nat} {j : Int} {v : Value} (hT : TyOK P T) (heff : eff.contains i = false) (hi : getA l i = some ⟨some d, .load t x, ty, ps, af, gd⟩) (hg : gdOK s n l gd) (hx : EVO n s x = some (.pointer (some ⟨b, o + j.toNat * sz + k, none⟩))) (hA : A = some ⟨b, o, none⟩) (ht : lookT T t = some ti) (ha : ti.agg = false)
    (h0 : 0 ≤ j) (h1 : j < xs.length) (hk : getA (enc (rd xs j)) k = some v) (hI : Inv l eff Cs listed w) (c : DP r P l eff K ((i, fun w' => w'.cell? ⟨b, o + j.toNat * sz + k, none⟩ = some v) :: Cs) plan (listed.setIfInBounds i true) (FR n ((d, v) :: s) τ ds) w) : DP r P l eff K Cs (i :: plan) listed (FR n s τ ds) w := by
  refine DP_yield (v := v) (fun w' => w'.cell? ⟨b, o + j.toNat * sz + k, none⟩ = some v) heff hi (YC.mkD hg fun w' hw' => ?_) (hr.cell hz hA h0 h1 hk) hI (by rw [put_FR]; exact c)
  show Sem.run P (do let v ← Instr.loadAt t ((FR n s τ ds).eval x); pure (Next.value v)) w' = _
  rw [eval_of hx, Sem.run_bind, run_load1 (hT _ _ ht) ha hw']; rfl
theorem DP_loadRow0 [Inhabited α] {enc : α → List Value} {xs : List α} {A : Option Addr} (hr : Rd enc w A xs) (hz : ∀ x, (enc x).length = 1) {x : Operand} {t : TypeId} {ti : TI} {b o : Nat} {j : Int} {v : Value} (hT : TyOK P T) (heff : eff.contains i = false) (hi : getA l i = some ⟨some d, .load t x, ty, ps, af, gd⟩) (hg : gdOK s n l gd) (hx : EVO n s x = some (.pointer (some ⟨b, o + j.toNat * 1, none⟩))) (hA : A = some ⟨b, o, none⟩) (ht : lookT T t = some ti) (ha : ti.agg = false)
    (h0 : 0 ≤ j) (h1 : j < xs.length) (hk : getA (enc (rd xs j)) 0 = some v) (hI : Inv l eff Cs listed w) (c : DP r P l eff K ((i, fun w' => w'.cell? ⟨b, o + j.toNat * 1, none⟩ = some v) :: Cs) plan (listed.setIfInBounds i true) (FR n ((d, v) :: s) τ ds) w) : DP r P l eff K Cs (i :: plan) listed (FR n s τ ds) w := by
  refine DP_yield (v := v) (fun w' => w'.cell? ⟨b, o + j.toNat * 1, none⟩ = some v) heff hi (YC.mkD hg fun w' hw' => ?_) (by have := hr.cell hz hA h0 h1 hk; rwa [Nat.add_zero] at this) hI (by rw [put_FR]; exact c)
  show Sem.run P (do let v ← Instr.loadAt t ((FR n s τ ds).eval x); pure (Next.value v)) w' = _
  rw [eval_of hx, Sem.run_bind, run_load1 (hT _ _ ht) ha hw']; rfl
theorem Inv.keepR0 [Inhabited α] {enc : α → List Value} {xs : List α} {A : Option Addr} {b o : Nat} {j : Int} {v : Value} (hr : Rd enc w A xs) (hz : ∀ x, (enc x).length = 1) (hA : A = some ⟨b, o, none⟩) (h0 : 0 ≤ j) (h1 : j < xs.length) (hk : getA (enc (rd xs j)) 0 = some v) (k : Inv l eff Cs listed w) : Inv l eff ((i, fun w' => w'.cell? ⟨b, o + j.toNat * 1, none⟩ = some v) :: Cs) listed w :=
  Inv.keep (by have := hr.cell hz hA h0 h1 hk; rwa [Nat.add_zero] at this) k
theorem Inv.keepR [Inhabited α] {enc : α → List Value} {xs : List α} {A : Option Addr} {b o sz m : Nat} {j : Int} {v : Value} (hr : Rd enc w A xs) (hz : ∀ x, (enc x).length = sz) (hA : A = some ⟨b, o, none⟩) (h0 : 0 ≤ j) (h1 : j < xs.length) (hk : getA (enc (rd xs j)) m = some v) (k : Inv l eff Cs listed w) : Inv l eff ((i, fun w' => w'.cell? ⟨b, o + j.toNat * sz + m, none⟩ = some v) :: Cs) listed w :=
  Inv.keep (hr.cell hz hA h0 h1 hk) k
end
end Go.Sl
