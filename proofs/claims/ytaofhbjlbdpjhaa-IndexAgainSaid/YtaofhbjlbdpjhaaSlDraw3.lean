/- Drawn regions, more: bits, division, conversions, places in arrays and in rows that are longer than the slice; opened rows of pairs laid as arrays. -/
import Derived.Test.YtaofhbjlbdpjhaaSlRow4
import Derived.Test.YtaofhbjlbdpjhaaSlOpen
import Derived.OpenShut
set_option linter.unusedVariables false
set_option linter.unusedSimpArgs false
namespace Go.Sl
open Go.RowKit Go.ChangeShapes Go.WideElems Go.Deep
theorem Sat.only {W w : World} {L : List HProp} (h : Sat W w L) (i : Nat) {p : HProp} (hi : getA L i = some p) : Sat W w [p] := by
  rw [getA_eq] at hi
  exact (h.front i hi).imp fun f ⟨h1, h2, d, l1, l2, q, _⟩ => ⟨h1, h2, d, l1, l2, q, trivial⟩
section
variable {r : Option Nat} {P : Program} {T : List (Nat × TI)} {l : List Oper} {eff : List Nat} {K : Act → World → Prop} {Cs : List (Nat × (World → Prop))} {plan : List Nat} {listed : Array Bool} {w : World} {n : Nat} {s : List (Nat × Value)} {τ : Nat → Value} {ds : List Deferred}
  {ty : TypeId} {ps : String} {af : Array Edge} {d i : Nat} {gd : Option (Nat × Bool)} {α : Type}
theorem DP_bitsE {bo : BinOp} {t yt : TypeId} {x y : Operand} {k : IntKind} {a b e : Int} (e' : Int) (heff : eff.contains i = false) (hi : getA l i = some ⟨some d, .binOp bo t x y yt, ty, ps, af, gd⟩) (hg : gdOK s n l gd) (hx : EVO n s x = some (.int k a)) (hy : EVO n s y = some (.int k b)) (h : bitV bo k a b = some e) (he : e = e')
    (c : DP r P l eff K Cs plan (listed.setIfInBounds i true) (FR n ((d, .int k e') :: s) τ ds) w) : DP r P l eff K Cs (i :: plan) listed (FR n s τ ds) w := by
  subst he
  refine DP_plain (v := .int k e) heff hi (YC.mkD hg fun w _ => ?_) (by rw [put_FR]; exact c)
  show Sem.run P (do let v ← (do eqGuard bo t x y ((FR n s τ ds).eval x) ((FR n s τ ds).eval y); binOp bo t ((FR n s τ ds).eval x) ((FR n s τ ds).eval y)); pure (Next.value v)) w = _
  rw [eval_of hx, eval_of hy]
  cases bo <;> simp only [bitV] at h <;> first | (cases h; done) | (cases h; simp [eqGuard, binOp, Op.intBits, go_sem])
theorem DP_divE {bo : BinOp} {t yt : TypeId} {x y : Operand} {k : IntKind} {a b e : Int} (e' : Int) (heff : eff.contains i = false) (hi : getA l i = some ⟨some d, .binOp bo t x y yt, ty, ps, af, gd⟩) (hg : gdOK s n l gd) (hx : EVO n s x = some (.int k a)) (hy : EVO n s y = some (.int k b)) (hb : ¬ b = 0) (h : divV bo k a b = some e) (he : e = e')
    (c : DP r P l eff K Cs plan (listed.setIfInBounds i true) (FR n ((d, .int k e') :: s) τ ds) w) : DP r P l eff K Cs (i :: plan) listed (FR n s τ ds) w := by
  subst he
  refine DP_plain (v := .int k e) heff hi (YC.mkD hg fun w _ => ?_) (by rw [put_FR]; exact c)
  show Sem.run P (do let v ← (do eqGuard bo t x y ((FR n s τ ds).eval x) ((FR n s τ ds).eval y); binOp bo t ((FR n s τ ds).eval x) ((FR n s τ ds).eval y)); pure (Next.value v)) w = _
  rw [eval_of hx, eval_of hy]
  cases bo <;> simp only [divV] at h <;> first | (cases h; done) | (cases h; simp [eqGuard, binOp, Op.intDiv, hb, go_sem])
theorem DP_shiftE {bo : BinOp} {t yt : TypeId} {x y : Operand} {k k' : IntKind} {a b e : Int} (e' : Int) (heff : eff.contains i = false) (hi : getA l i = some ⟨some d, .binOp bo t x y yt, ty, ps, af, gd⟩) (hg : gdOK s n l gd) (hx : EVO n s x = some (.int k a)) (hy : EVO n s y = some (.int k' b)) (hb : 0 ≤ b) (h : shV bo k a b = some e) (he : e = e')
    (c : DP r P l eff K Cs plan (listed.setIfInBounds i true) (FR n ((d, .int k e') :: s) τ ds) w) : DP r P l eff K Cs (i :: plan) listed (FR n s τ ds) w := by
  subst he
  refine DP_plain (v := .int k e) heff hi (YC.mkD hg fun w _ => ?_) (by rw [put_FR]; exact c)
  show Sem.run P (do let v ← (do eqGuard bo t x y ((FR n s τ ds).eval x) ((FR n s τ ds).eval y); binOp bo t ((FR n s τ ds).eval x) ((FR n s τ ds).eval y)); pure (Next.value v)) w = _
  rw [eval_of hx, eval_of hy]
  have hb' : ¬ b < 0 := by omega
  cases bo <;> simp only [shV] at h <;> first | (cases h; done) | (cases h; simp [eqGuard, binOp, Op.shift, hb', go_sem])
theorem DP_convE {src dst : TypeId} {x : Operand} {k k' : IntKind} {a : Int} {ti tj : TI} (e' : Int) (hT : TyOK P T) (heff : eff.contains i = false) (hi : getA l i = some ⟨some d, .convert src dst x, ty, ps, af, gd⟩) (hg : gdOK s n l gd) (hx : EVO n s x = some (.int k a)) (h1 : lookT T src = some ti) (h2 : lookT T dst = some tj) (hu : tj.u = .int k') (he : k'.wrap a = e')
    (c : DP r P l eff K Cs plan (listed.setIfInBounds i true) (FR n ((d, .int k' e') :: s) τ ds) w) : DP r P l eff K Cs (i :: plan) listed (FR n s τ ds) w := by
  refine DP_pure (T := T) hT heff hi hg (v := .int k' e') ?_ c
  obtain ⟨a1, a2, a3, a4⟩ := tj
  simp only at hu
  subst hu
  simp [evalOp, h1, h2, hx, he]
theorem DP_arithE {k : IntKind} {e : Int} {op : Op} (e' : Int) (heff : eff.contains i = false) (hi : getA l i = some ⟨some d, op, ty, ps, af, gd⟩) (hg : gdOK s n l gd) (h : evalArith n s op = some (k, e)) (he : k.wrap e = e') (c : DP r P l eff K Cs plan (listed.setIfInBounds i true) (FR n ((d, .int k e') :: s) τ ds) w) :
    DP r P l eff K Cs (i :: plan) listed (FR n s τ ds) w := by
  subst he
  refine DP_plain (v := .int k (k.wrap e)) heff hi (YC.mkD hg fun w _ => ?_) (by rw [put_FR]; exact c)
  exact evalArith_run (fun _ _ h => eval_of h) h w
theorem DP_indexRdN [Inhabited α] {enc : α → List Value} {xs : List α} {A : Option Addr} (hr : Rd enc w A xs) {t e : TypeId} {x y : Operand} {ti te : TI} {k : IntKind} {len cap : Nat} {j : Int} (hT : TyOK P T) (heff : eff.contains i = false) (hi : getA l i = some ⟨some d, .indexAddr t x y, ty, ps, af, gd⟩) (hg : gdOK s n l gd)
    (hx : EVO n s x = some (.slice A len cap)) (hy : EVO n s y = some (.int k j)) (ht : lookT T t = some ti) (hu : ti.u = .slice e) (he : lookT T e = some te) (h0 : 0 ≤ j) (h1 : j < len) (h2 : j < xs.length)
    (c : ∀ b o, A = some ⟨b, o, none⟩ → DP r P l eff K Cs plan (listed.setIfInBounds i true) (FR n ((d, .pointer (some ⟨b, o + j.toNat * te.size, none⟩)) :: s) τ ds) w) : DP r P l eff K Cs (i :: plan) listed (FR n s τ ds) w := by
  obtain ⟨b, o, hA⟩ := hr.some h0 h2
  subst hA
  refine DP_plain (v := .pointer (some ⟨b, o + j.toNat * te.size, none⟩)) heff hi (YC.mkD hg fun w _ => ?_) (by rw [put_FR]; exact c b o rfl)
  show Sem.run P (do let v ← Instr.indexAt t ((FR n s τ ds).eval x) ((FR n s τ ds).eval y); pure (Next.value v)) w = _
  rw [eval_of hx, eval_of hy, Sem.run_bind, run_indexAddr (hT _ _ ht) hu (hT _ _ he) h0 h1]; rfl
theorem run_indexArr {t e : TypeId} {ti te : TI} {k : IntKind} {b o m : Nat} {i : Int} (ht : tyOf P t = some ti) (hu : ti.u = .array m e) (he : tyOf P e = some te) (h0 : 0 ≤ i) (h1 : i < m) :
    (Instr.indexAt t (.pointer (some ⟨b, o, none⟩)) (.int k i)).run P w = .ok (.pointer (some ⟨b, o + i.toNat * te.size, none⟩)) w := by
  have h2 := ty_under ht w
  have h3 := ty_sizeOf he w
  rw [hu] at h2
  have e : (⟨b, o, none⟩ : Addr).add (i.toNat * te.size) = ⟨b, o + i.toNat * te.size, none⟩ := by unfold Addr.add; split <;> simp_all
  simp only [Instr.indexAt, asIntOf, Sem.run_bind, Sem.run_pure, Result.andThen, h2]
  simp [h0, h1, Sem.run_bind, h3, Result.andThen, e, h2, Instr.sureAddr]
theorem DP_indexArr {t e : TypeId} {x y : Operand} {ti te : TI} {k : IntKind} {b o m : Nat} {j : Int} (p : Nat) (hT : TyOK P T) (heff : eff.contains i = false) (hi : getA l i = some ⟨some d, .indexAddr t x y, ty, ps, af, gd⟩) (hg : gdOK s n l gd)
    (hx : EVO n s x = some (.pointer (some ⟨b, o, none⟩))) (hy : EVO n s y = some (.int k j)) (ht : lookT T t = some ti) (hu : ti.u = .array m e) (he : lookT T e = some te) (h0 : 0 ≤ j) (h1 : j < m) (hp : j.toNat * te.size = p)
    (c : DP r P l eff K Cs plan (listed.setIfInBounds i true) (FR n ((d, .pointer (some ⟨b, o + p, none⟩)) :: s) τ ds) w) : DP r P l eff K Cs (i :: plan) listed (FR n s τ ds) w := by
  subst hp
  refine DP_plain (v := .pointer (some ⟨b, o + j.toNat * te.size, none⟩)) heff hi (YC.mkD hg fun w _ => ?_) (by rw [put_FR]; exact c)
  show Sem.run P (do let v ← Instr.indexAt t ((FR n s τ ds).eval x) ((FR n s τ ds).eval y); pure (Next.value v)) w = _
  rw [eval_of hx, eval_of hy, Sem.run_bind, run_indexArr (hT _ _ ht) hu (hT _ _ he) h0 h1]; rfl
end
section
variable {H : Type} {enc : TypeId × Value → H} {P : Program} {w : World} {base : Nat} {spare : Nat → Bool} {held : Bool} {t e : TypeId} {v : Value} {d : DataW H} {ps : List MemPlace}
/-- A row of arrays of two integers. -/
theorem open_arrs64 {q : TypeId} (ht : P.underlying t = some (.slice e)) (he : P.underlying e = some (.array 2 q)) (ce : P.cellsOf e = 2) (cq : P.cellsOf q = 1) (uq : P.underlying q = some (.int .i64)) {r : Reach} {rb : Nat} (hv : Value.okWide P w r rb t v) (h : DataW.Trod enc P w base spare held t v d ps) :
    ∃ (A : Option Addr) (xs : List (Int × Int)) (c : Nat), v = .slice A xs.length c ∧ Rd eP w A xs ∧ xs.length ≤ c ∧ c ≤ maxLen ∧ ∀ z ∈ xs, (-9223372036854775808 ≤ z.1 ∧ z.1 ≤ 9223372036854775807) ∧ (-9223372036854775808 ≤ z.2 ∧ z.2 ≤ 9223372036854775807) := by
  obtain ⟨va, len, cap, rfl⟩ := Go.WideShapes.okWide_slice ht hv
  obtain ⟨n, hn⟩ := h
  rcases open_slice ht hn with ⟨h1, _⟩ | ⟨a, len', cap', m, n, D, Pl, h1, _, hl, hm, hmm, _, hcell⟩
  · cases h1
    exact ⟨none, [], 0, rfl, .inl rfl, Nat.le_refl _, by simp [maxLen], fun z hz => by cases hz⟩
  · cases h1
    have hlm : len ≤ m := by rw [hmm]; split <;> omega
    obtain ⟨q, hq⟩ := choose_lt (α := Int × Int) (n := len) (p := fun i q => w.cell? (a.add (i * 2)) = some (.int .i64 q.1) ∧ w.cell? (a.add (i * 2 + 1)) = some (.int .i64 q.2) ∧ (-9223372036854775808 ≤ q.1 ∧ q.1 ≤ 9223372036854775807) ∧ (-9223372036854775808 ≤ q.2 ∧ q.2 ≤ 9223372036854775807)) (fun i hi => by
      obtain ⟨cs, g0, g1⟩ := hcell i (by omega)
      rw [ce] at g0
      obtain ⟨_, hlen, hc⟩ := World.cells?_some g0
      obtain ⟨xs, k, _, _, _, hxl, hf⟩ := DataW.trod_array he g1
      match cs, hlen with
      | [v0, v1], _ =>
        have f0 := hf 0 (by omega)
        have f1 := hf 1 (by omega)
        have e0 := hc 0 (by omega)
        have e1 := hc 1 (by omega)
        rw [add_add] at e0 e1
        match xs, hxl with
        | [y0, y1], _ =>
          simp [cq] at f0 f1
          obtain ⟨x, e2, _, w2⟩ := DataW.trod_int uq f0
          obtain ⟨y, e3, _, w3⟩ := DataW.trod_int uq f1
          simp only [List.cons.injEq, and_true] at e2 e3
          exact ⟨(x, y), by simpa [e2] using e0, by simpa [e3] using e1, wf_i64 w2, wf_i64 w3⟩)
    have hl2 : ((List.range len).map q).length = len := by simp
    refine ⟨some a, (List.range len).map q, cap, by rw [hl2], ?_, by rw [hl2]; exact hl, hm, ?_⟩
    · by_cases h0 : len = 0
      · exact .inl (by rw [h0]; rfl)
      · have hsp : a.spot = none := by simpa [Addr.add] using World.cell?_spot (hq 0 (by omega)).1
        refine .inr ⟨a.block, a.off, by rw [← hsp], fun j u hj => ?_⟩
        obtain ⟨x, hx, rfl⟩ := flat2_get (f := fun p : Int × Int => .int .i64 p.1) (g := fun p : Int × Int => .int .i64 p.2) hj
        obtain ⟨hj1, hj2⟩ := List.getElem?_eq_some_iff.1 hx
        simp only [List.getElem_map, List.getElem_range] at hj2
        rw [hl2] at hj1
        subst hj2
        have hqq := hq (j / 2) hj1
        split
        · rename_i hj0
          have := hqq.1
          rw [show j / 2 * 2 = j by omega, add_spot hsp] at this
          exact this
        · rename_i hj0
          have := hqq.2.1
          rw [show j / 2 * 2 + 1 = j by omega, add_spot hsp] at this
          exact this
    · intro z hz
      simp only [List.mem_map, List.mem_range] at hz
      obtain ⟨i, hi, rfl⟩ := hz
      exact (hq i hi).2.2
end
end Go.Sl
