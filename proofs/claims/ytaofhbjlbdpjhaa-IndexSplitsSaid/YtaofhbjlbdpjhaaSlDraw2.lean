/- A region whose order is drawn, taken by a plan. -/
import Derived.Test.YtaofhbjlbdpjhaaSlRows
set_option linter.unusedVariables false
set_option linter.unusedSimpArgs false
namespace Go.Sl
open Go.RowKit

/-- Is the plan one: each that only reads may be taken first; each other is alone when it is taken. -/
def planOK (l : List Oper) (eff : List Nat) : List Nat → Array Bool → Bool
  | [], listed => match Region.ready .any l.toArray listed with
    | [] => true
    | _ => false
  | i :: rest, listed => (cond (eff.contains i) (match Region.ready .any l.toArray listed with
      | [j] => Nat.beq i j
      | _ => false) (Region.free .any l.toArray listed i && (Region.ready .any l.toArray listed).contains i)) && planOK l eff rest (listed.setIfInBounds i true)
def DP (r : Option Nat) (P : Program) (l : List Oper) (eff : List Nat) (K : Act → World → Prop) (Cs : List (Nat × (World → Prop))) (plan : List Nat) (listed : Array Bool) (a : Act) (w : World) : Prop :=
  noDefer l.toArray = true → planOK l eff plan listed = true → DW r P l eff K Cs plan.length listed a w
section
variable {r : Option Nat} {P : Program} {T : List (Nat × TI)} {l : List Oper} {eff : List Nat} {K : Act → World → Prop} {Cs : List (Nat × (World → Prop))} {plan : List Nat} {listed : Array Bool} {a : Act} {w : World} {n : Nat} {s : List (Nat × Value)} {τ : Nat → Value} {ds : List Deferred}
  {W : World} {L : List HProp} {op : Op} {ty : TypeId} {ps : String} {af : Array Edge} {d i : Nat} {α : Type}
theorem CW_drawP {Q : Exit → Act → World → Prop} {id : Nat} (eff plan : List Nat) (hm : P.follows .mixedOrders = true) (hok : (noDefer l.toArray && planOK l eff plan (Array.replicate l.length false) && Nat.beq plan.length l.length) = true) (hs : Sat W w L)
    (h : Sat W w.drew L → DP r P l eff (fun a w => Q .normal a w) [] plan (Array.replicate l.length false) a w.drew) : CW r P (.region id l.toArray true) Q a w := by
  simp only [Bool.and_eq_true] at hok
  refine CW_draw eff hm hok.1.1 ?_
  have := h hs.drew hok.1.1 hok.1.2
  rwa [Nat.eq_of_beq_eq_true hok.2] at this
theorem QN_n {K : Act → World → Prop} (h : K a w) : QN K .normal a w := h
theorem DP_end (hI : Inv l eff Cs listed w) (h : K a w) : DP r P l eff K Cs [] listed a w := fun _ hp => by
  refine DW_done ?_ hI h
  unfold planOK at hp
  split at hp
  · assumption
  · cases hp
theorem DP_eff {o : Oper} (heff : eff.contains i = true) (hi : getA l i = some o) (hI : Inv l eff Cs listed w) (h : LW r P l.toArray (QN (DP r P l eff K Cs plan (listed.setIfInBounds i true))) [o] a w) : DP r P l eff K Cs (i :: plan) listed a w := fun hnd hp => by
  unfold planOK at hp
  simp only [Bool.and_eq_true, heff, cond_true] at hp
  obtain ⟨h1, h2⟩ := hp
  split at h1
  · rename_i j hr
    obtain rfl := Nat.eq_of_beq_eq_true h1
    refine DW_eff i hi hnd hr hI ?_
    have mono : ∀ {o : List Oper} {a : Act} {w : World}, LW r P l.toArray (QN (DP r P l eff K Cs plan (listed.setIfInBounds i true))) o a w → LW r P l.toArray (QN (DW r P l eff K Cs plan.length (listed.setIfInBounds i true))) o a w := by
      intro o
      induction o with
      | nil => exact fun h => h hnd h2
      | cons o os ih =>
        intro a w h
        unfold LW wpListIn at h ⊢
        split at h
        · rw [if_pos ‹_›]
          refine ⟨h.1, uponIn_mono (fun a w q => ih q) (fun _ _ _ q => q) (fun _ _ q => q) h.2⟩
        · rw [if_neg ‹_›]; exact ⟨h.1, ih h.2⟩
    exact mono h
  · cases h1
theorem DP_plain {o : Oper} {v : Value} (heff : eff.contains i = false) (hi : getA l i = some o) (hy : YC P l.toArray (fun _ => True) o v a) (k : DP r P l eff K Cs plan (listed.setIfInBounds i true) (a.put o.dst v) w) : DP r P l eff K Cs (i :: plan) listed a w := fun hnd hp => by
  unfold planOK at hp
  simp only [Bool.and_eq_true, heff, cond_false] at hp
  exact DW_plain i hi hnd heff hp.1.1 hp.1.2 hy (k hnd hp.2)
theorem DP_yield {o : Oper} {v : Value} (c : World → Prop) (heff : eff.contains i = false) (hi : getA l i = some o) (hy : YC P l.toArray c o v a) (hc : c w) (hI : Inv l eff Cs listed w) (k : DP r P l eff K ((i, c) :: Cs) plan (listed.setIfInBounds i true) (a.put o.dst v) w) : DP r P l eff K Cs (i :: plan) listed a w := fun hnd hp => by
  unfold planOK at hp
  simp only [Bool.and_eq_true, heff, cond_false] at hp
  exact DW_yield i c hi hnd heff hp.1.1 hp.1.2 hy hc hI (k hnd hp.2)
theorem YC.mk {c : World → Prop} {o : Oper} {v : Value} (hg : o.guard = none) (h : ∀ w, c w → (execOp a.eval o).run P w = .ok (.value v) w) : YC P l.toArray c o v a := .inl ⟨by simp [Region.wanted, hg], h⟩
theorem YC.mkG {c : World → Prop} {o : Oper} {v : Value} {j : Nat} {b : Bool} (hg : o.guard = some (j, b)) (hy : yld s n l j = some b) (h : ∀ w, c w → (execOp (FR n s τ ds).eval o).run P w = .ok (.value v) w) : YC P l.toArray c o v (FR n s τ ds) :=
  .inl ⟨by simp [Region.wanted, hg, yld_yielded hy], h⟩
/-- The guard of an operation, where it has one, says yes. -/
def gdOK (s : List (Nat × Value)) (n : Nat) (l : List Oper) : Option (Nat × Bool) → Prop
  | none => True
  | some (j, b) => yld s n l j = some b
theorem YC.mkD {c : World → Prop} {o : Oper} {v : Value} (hg : gdOK s n l o.guard) (h : ∀ w, c w → (execOp (FR n s τ ds).eval o).run P w = .ok (.value v) w) : YC P l.toArray c o v (FR n s τ ds) := by
  cases e : o.guard with
  | none => exact YC.mk e h
  | some g => obtain ⟨j, b⟩ := g; rw [e] at hg; exact YC.mkG e hg h
variable {gd : Option (Nat × Bool)}
theorem DP_pure (hT : TyOK P T) (heff : eff.contains i = false) (hi : getA l i = some ⟨some d, op, ty, ps, af, gd⟩) (hg : gdOK s n l gd) {v : Value} (h : evalOp T n s op = some v) (k : DP r P l eff K Cs plan (listed.setIfInBounds i true) (FR n ((d, v) :: s) τ ds) w) :
    DP r P l eff K Cs (i :: plan) listed (FR n s τ ds) w :=
  DP_plain heff hi (YC.mkD hg fun w _ => evalOp_run (fun x v => eval_of) hT h w) (by rw [put_FR]; exact k)
theorem DP_nileq (hT : TyOK P T) (heff : eff.contains i = false) (hi : getA l i = some ⟨some d, op, ty, ps, af, gd⟩) (hg : gdOK s n l gd) {b : Bool} (h : evalNil T n s op = some b) (k : DP r P l eff K Cs plan (listed.setIfInBounds i true) (FR n ((d, .bool b) :: s) τ ds) w) :
    DP r P l eff K Cs (i :: plan) listed (FR n s τ ds) w :=
  DP_plain heff hi (YC.mkD hg fun w _ => evalNil_run (fun x v => eval_of) hT h w) (by rw [put_FR]; exact k)
theorem DP_cmp {p : Prop} [inst : Decidable p] (heff : eff.contains i = false) (hi : getA l i = some ⟨some d, op, ty, ps, af, gd⟩) (hg : gdOK s n l gd) (h : evalCmp n s op = some (decide p)) (ht : p → DP r P l eff K Cs plan (listed.setIfInBounds i true) (FR n ((d, .bool true) :: s) τ ds) w)
    (hf : ¬ p → DP r P l eff K Cs plan (listed.setIfInBounds i true) (FR n ((d, .bool false) :: s) τ ds) w) : DP r P l eff K Cs (i :: plan) listed (FR n s τ ds) w := by
  refine DP_plain (v := .bool (decide p)) heff hi (YC.mkD hg fun w _ => evalCmp_run (fun x v => eval_of) h w) ?_
  rw [put_FR]
  by_cases hp : p
  · simp only [hp, decide_true]; exact ht hp
  · simp only [hp, decide_false]; exact hf hp
theorem DP_cmpB {b : Bool} (heff : eff.contains i = false) (hi : getA l i = some ⟨some d, op, ty, ps, af, gd⟩) (hg : gdOK s n l gd) (h : evalCmp n s op = some b) (k : DP r P l eff K Cs plan (listed.setIfInBounds i true) (FR n ((d, .bool b) :: s) τ ds) w) : DP r P l eff K Cs (i :: plan) listed (FR n s τ ds) w :=
  DP_plain (v := .bool b) heff hi (YC.mkD hg fun w _ => evalCmp_run (fun x v => eval_of) h w) (by rw [put_FR]; exact k)
theorem DP_i64 {e : Int} (heff : eff.contains i = false) (hi : getA l i = some ⟨some d, op, ty, ps, af, gd⟩) (hg : gdOK s n l gd) (h : evalArith n s op = some (.i64, e)) (h1 : -9223372036854775808 ≤ e) (h2 : e ≤ 9223372036854775807) (k : DP r P l eff K Cs plan (listed.setIfInBounds i true) (FR n ((d, .int .i64 e) :: s) τ ds) w) :
    DP r P l eff K Cs (i :: plan) listed (FR n s τ ds) w :=
  DP_plain (v := .int .i64 e) heff hi (YC.mkD hg fun w _ => by
    have := evalArith_run (P := P) (o := ⟨some d, op, ty, ps, af, gd⟩) (ρ := (FR n s τ ds).eval) (fun x v => eval_of) h w
    rwa [IntWalk.i64_in e (by omega)] at this) (by rw [put_FR]; exact k)
/-- The guard says no. -/
theorem DP_pass {j : Nat} {b b' : Bool} (heff : eff.contains i = false) (hi : getA l i = some ⟨some d, op, ty, ps, af, some (j, b)⟩) (hy : yld s n l j = some b') (hne : b' = !b) (k : DP r P l eff K Cs plan (listed.setIfInBounds i true) (FR n ((d, undef) :: s) τ ds) w) : DP r P l eff K Cs (i :: plan) listed (FR n s τ ds) w :=
  DP_plain heff hi (.inr ⟨by subst hne; simp [Region.wanted, yld_yielded hy], rfl⟩) (by rw [put_FR]; exact k)
theorem DP_passU {j j' : Nat} {b : Bool} {o' : Oper} {d' : Nat} (heff : eff.contains i = false) (hi : getA l i = some ⟨some d, op, ty, ps, af, some (j, b)⟩) (hj : getA l j = some o') (hd : o'.dst = some d') (hy : EVO n s (.tmp d') = some undef) (k : DP r P l eff K Cs plan (listed.setIfInBounds i true) (FR n ((d, undef) :: s) τ ds) w) : DP r P l eff K Cs (i :: plan) listed (FR n s τ ds) w := by
  refine DP_plain heff hi (.inr ⟨?_, rfl⟩) (by rw [put_FR]; exact k)
  have h1 := eval_of (τ := τ) (ds := ds) hy
  have h2 : (FR n s τ ds).tmps[d']?.getD undef = undef := by simpa [Act.eval] using h1
  rw [getA_eq] at hj
  have : yielded l.toArray (FR n s τ ds).tmps j = none := by
    unfold yielded
    simp only [List.getElem?_toArray, hj, Option.bind_some, hd]
    cases h3 : (FR n s τ ds).tmps[d']? with
    | none => rfl
    | some v => rw [h3] at h2; simp at h2; subst h2; rfl
  simp [Region.wanted, this]
/-- An element's place, of a slice that may be read. -/
theorem DP_indexRd [Inhabited α] {enc : α → List Value} {xs : List α} {A : Option Addr} (hr : Rd enc w A xs) {t e : TypeId} {x y : Operand} {ti te : TI} {k : IntKind} {cap : Nat} {j : Int} (hT : TyOK P T) (heff : eff.contains i = false) (hi : getA l i = some ⟨some d, .indexAddr t x y, ty, ps, af, gd⟩) (hg : gdOK s n l gd)
    (hx : EVO n s x = some (.slice A xs.length cap)) (hy : EVO n s y = some (.int k j)) (ht : lookT T t = some ti) (hu : ti.u = .slice e) (he : lookT T e = some te) (h0 : 0 ≤ j) (h1 : j < xs.length)
    (c : ∀ b o, A = some ⟨b, o, none⟩ → DP r P l eff K Cs plan (listed.setIfInBounds i true) (FR n ((d, .pointer (some ⟨b, o + j.toNat * te.size, none⟩)) :: s) τ ds) w) : DP r P l eff K Cs (i :: plan) listed (FR n s τ ds) w := by
  obtain ⟨b, o, hA⟩ := hr.some h0 h1
  subst hA
  refine DP_plain (v := .pointer (some ⟨b, o + j.toNat * te.size, none⟩)) heff hi (YC.mkD hg fun w _ => ?_) (by rw [put_FR]; exact c b o rfl)
  show Sem.run P (do let v ← Instr.indexAt t ((FR n s τ ds).eval x) ((FR n s τ ds).eval y); pure (Next.value v)) w = _
  rw [eval_of hx, eval_of hy, Sem.run_bind, run_indexAddr (hT _ _ ht) hu (hT _ _ he) h0 h1]; rfl
/-- Loads: out of what lay in the base; out of a block of one's own. -/
theorem DP_loadB {x : Operand} {t : TypeId} {ti : TI} {b o : Nat} {v : Value} (hs : Sat W w L) (hT : TyOK P T) (heff : eff.contains i = false) (hi : getA l i = some ⟨some d, .load t x, ty, ps, af, gd⟩) (hg : gdOK s n l gd) (hx : EVO n s x = some (.pointer (some ⟨b, o, none⟩))) (ht : lookT T t = some ti) (ha : ti.agg = false) (hc : W.cell? ⟨b, o, none⟩ = some v)
    (hI : Inv l eff Cs listed w) (k : DP r P l eff K ((i, fun w' => Below W.heap.size W w') :: Cs) plan (listed.setIfInBounds i true) (FR n ((d, v) :: s) τ ds) w) : DP r P l eff K Cs (i :: plan) listed (FR n s τ ds) w := by
  refine DP_yield (v := v) (fun w' => Below W.heap.size W w') heff hi (YC.mkD hg fun w' hw' => ?_) hs.below hI (by rw [put_FR]; exact k)
  show Sem.run P (do let v ← Instr.loadAt t ((FR n s τ ds).eval x); pure (Next.value v)) w' = _
  have hc' : w'.cell? ⟨b, o, none⟩ = some v := (hw'.cell (World.block_lt_of_cell? W _ hc)).trans hc
  rw [eval_of hx, Sem.run_bind, run_load1 (hT _ _ ht) ha hc']; rfl
theorem DP_loadC (j : Nat) {x : Operand} {t : TypeId} {ti : TI} {b o : Nat} {v : Value} {vs : List Value} {te : TypeId} (hs : Sat W w L) (hT : TyOK P T) (heff : eff.contains i = false) (hi : getA l i = some ⟨some d, .load t x, ty, ps, af, gd⟩) (hg : gdOK s n l gd) (hx : EVO n s x = some (.pointer (some ⟨b, o, none⟩))) (ht : lookT T t = some ti) (ha : ti.agg = false) (hj : getA L j = some (Cl b vs te)) (hv : getA vs o = some v)
    (hI : Inv l eff Cs listed w) (k : DP r P l eff K ((i, fun w' => w'.cell? ⟨b, o, none⟩ = some v) :: Cs) plan (listed.setIfInBounds i true) (FR n ((d, v) :: s) τ ds) w) : DP r P l eff K Cs (i :: plan) listed (FR n s τ ds) w := by
  rw [getA_eq] at hj hv
  refine DP_yield (v := v) (fun w' => w'.cell? ⟨b, o, none⟩ = some v) heff hi (YC.mkD hg fun w' hw' => ?_) ((hs.cell j hj o).trans hv) hI (by rw [put_FR]; exact k)
  show Sem.run P (do let v ← Instr.loadAt t ((FR n s τ ds).eval x); pure (Next.value v)) w' = _
  rw [eval_of hx, Sem.run_bind, run_load1 (hT _ _ ht) ha hw']; rfl
theorem Inv.keepC (j : Nat) {i : Nat} {b o : Nat} {v : Value} {vs : List Value} {te : TypeId} (hs : Sat W w L) (hj : getA L j = some (Cl b vs te)) (hv : getA vs o = some v) (k : Inv l eff Cs listed w) : Inv l eff ((i, fun w' => w'.cell? ⟨b, o, none⟩ = some v) :: Cs) listed w := by
  rw [getA_eq] at hj hv
  exact Inv.keep ((hs.cell j hj o).trans hv) k
theorem Inv.keepB {i : Nat} (hs : Sat W w L) (k : Inv l eff Cs listed w) : Inv l eff ((i, fun w' => Below W.heap.size W w') :: Cs) listed w := Inv.keep hs.below k
/-- Loads of an element of a slice in the base. -/
theorem DP_loadRd [Inhabited α] {enc : α → List Value} {xs : List α} {A : Option Addr} (hr : Rd enc W A xs) {sz : Nat} (hz : ∀ x, (enc x).length = sz) {x : Operand} {t : TypeId} {ti : TI} {b o k : Nat} {j : Int} {v : Value} (hs : Sat W w L) (hT : TyOK P T) (heff : eff.contains i = false) (hi : getA l i = some ⟨some d, .load t x, ty, ps, af, gd⟩) (hg : gdOK s n l gd) (hx : EVO n s x = some (.pointer (some ⟨b, o + j.toNat * sz + k, none⟩))) (hA : A = some ⟨b, o, none⟩) (ht : lookT T t = some ti) (ha : ti.agg = false)
    (h0 : 0 ≤ j) (h1 : j < xs.length) (hk : getA (enc (rd xs j)) k = some v) (hI : Inv l eff Cs listed w) (c : DP r P l eff K ((i, fun w' => Below W.heap.size W w') :: Cs) plan (listed.setIfInBounds i true) (FR n ((d, v) :: s) τ ds) w) : DP r P l eff K Cs (i :: plan) listed (FR n s τ ds) w :=
  DP_loadB hs hT heff hi hg hx ht ha (hr.cell hz hA h0 h1 hk) hI c
theorem DP_loadRd0 [Inhabited α] {enc : α → List Value} {xs : List α} {A : Option Addr} (hr : Rd enc W A xs) (hz : ∀ x, (enc x).length = 1) {x : Operand} {t : TypeId} {ti : TI} {b o : Nat} {j : Int} {v : Value} (hs : Sat W w L) (hT : TyOK P T) (heff : eff.contains i = false) (hi : getA l i = some ⟨some d, .load t x, ty, ps, af, gd⟩) (hg : gdOK s n l gd) (hx : EVO n s x = some (.pointer (some ⟨b, o + j.toNat * 1, none⟩))) (hA : A = some ⟨b, o, none⟩) (ht : lookT T t = some ti) (ha : ti.agg = false)
    (h0 : 0 ≤ j) (h1 : j < xs.length) (hk : getA (enc (rd xs j)) 0 = some v) (hI : Inv l eff Cs listed w) (c : DP r P l eff K ((i, fun w' => Below W.heap.size W w') :: Cs) plan (listed.setIfInBounds i true) (FR n ((d, v) :: s) τ ds) w) : DP r P l eff K Cs (i :: plan) listed (FR n s τ ds) w :=
  DP_loadB hs hT heff hi hg hx ht ha (by have := hr.cell hz hA h0 h1 hk; rwa [Nat.add_zero] at this) hI c
theorem DP_loadBA {x : Operand} {t : TypeId} {ti : TI} {b o : Nat} {vs : List Value} (hs : Sat W w L) (hT : TyOK P T) (heff : eff.contains i = false) (hi : getA l i = some ⟨some d, .load t x, ty, ps, af, gd⟩) (hg : gdOK s n l gd) (hx : EVO n s x = some (.pointer (some ⟨b, o, none⟩))) (ht : lookT T t = some ti) (ha : ti.agg = true) (hl : vs.length = ti.size) (hc : ∀ j v, vs[j]? = some v → W.cell? ⟨b, o + j, none⟩ = some v)
    (hI : Inv l eff Cs listed w) (k : DP r P l eff K ((i, fun w' => Below W.heap.size W w') :: Cs) plan (listed.setIfInBounds i true) (FR n ((d, .agg vs.toArray) :: s) τ ds) w) : DP r P l eff K Cs (i :: plan) listed (FR n s τ ds) w := by
  refine DP_yield (v := .agg vs.toArray) (fun w' => Below W.heap.size W w') heff hi (YC.mkD hg fun w' hw' => ?_) hs.below hI (by rw [put_FR]; exact k)
  show Sem.run P (do let v ← Instr.loadAt t ((FR n s τ ds).eval x); pure (Next.value v)) w' = _
  rw [eval_of hx, Sem.run_bind, run_loadA (hT _ _ ht) ha hl (fun j v hj => (hw'.cell (World.block_lt_of_cell? W _ (hc j v hj))).trans (hc j v hj))]; rfl
theorem DP_loadRdA [Inhabited α] {enc : α → List Value} {xs : List α} {A : Option Addr} (hr : Rd enc W A xs) {sz : Nat} (hz : ∀ x, (enc x).length = sz) {x : Operand} {t : TypeId} {ti : TI} {b o : Nat} {j : Int} (hs : Sat W w L) (hT : TyOK P T) (heff : eff.contains i = false) (hi : getA l i = some ⟨some d, .load t x, ty, ps, af, gd⟩) (hg : gdOK s n l gd) (hx : EVO n s x = some (.pointer (some ⟨b, o + j.toNat * sz, none⟩))) (hA : A = some ⟨b, o, none⟩) (ht : lookT T t = some ti) (ha : ti.agg = true) (hsz : ti.size = sz)
    (h0 : 0 ≤ j) (h1 : j < xs.length) {vs : List Value} (hv : enc (rd xs j) = vs) (hI : Inv l eff Cs listed w) (c : DP r P l eff K ((i, fun w' => Below W.heap.size W w') :: Cs) plan (listed.setIfInBounds i true) (FR n ((d, .agg vs.toArray) :: s) τ ds) w) : DP r P l eff K Cs (i :: plan) listed (FR n s τ ds) w :=
  DP_loadBA hs hT heff hi hg hx ht ha (by rw [← hv, hz, hsz]) (fun k v hk => by
    have := hr.cell hz hA h0 h1 (k := k) (v := v) (by rw [getA_eq, hv]; exact hk)
    exact this) hI c
end
end Go.Sl
