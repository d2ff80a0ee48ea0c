/- Drawn regions: several cells of a block of one's own read at once; the least and the greatest; a slice's front. -/
import Derived.Test.YtoodgenbcfdloaaSlText
import Derived.Test.YtoodgenbcfdloaaG4
set_option linter.unusedVariables false
set_option linter.unusedSimpArgs false
namespace Go.Sl
open Go.RowKit
section
variable {r : Option Nat} {P : Program} {T : List (Nat × TI)} {l : List Oper} {eff : List Nat} {K : Act → World → Prop} {Cs : List (Nat × (World → Prop))} {plan : List Nat} {listed : Array Bool} {a : Act} {w : World} {n : Nat} {s : List (Nat × Value)} {τ : Nat → Value} {ds : List Deferred}
  {W : World} {L : List HProp} {op : Op} {ty : TypeId} {ps : String} {af : Array Edge} {d i : Nat} {gd : Option (Nat × Bool)}
theorem Inv.keepO (j : Nat) {i b : Nat} {o : Obj} (hs : Sat W w L) (hj : getA L j = some (Bk b o)) (k : Inv l eff Cs listed w) : Inv l eff ((i, fun w' => w'.heap[b]? = some o) :: Cs) listed w := by
  rw [getA_eq] at hj
  exact Inv.keep (hs.at j hj).2 k
theorem DP_loadCA (j : Nat) (ws : List Value) {x : Operand} {t : TypeId} {ti : TI} {b o : Nat} {vs : List Value} {te : TypeId} (hs : Sat W w L) (hT : TyOK P T) (heff : eff.contains i = false) (hi : getA l i = some ⟨some d, .load t x, ty, ps, af, gd⟩) (hg : gdOK s n l gd) (hx : EVO n s x = some (.pointer (some ⟨b, o, none⟩))) (ht : lookT T t = some ti) (ha : ti.agg = true) (hj : getA L j = some (Cl b vs te)) (hfit : o + ti.size ≤ vs.length) (hw : (vs.drop o).take ti.size = ws)
    (hI : Inv l eff Cs listed w) (k : DP r P l eff K ((i, fun w' => w'.heap[b]? = some (.cells vs.toArray te (0, 0))) :: Cs) plan (listed.setIfInBounds i true) (FR n ((d, .agg ws.toArray) :: s) τ ds) w) : DP r P l eff K Cs (i :: plan) listed (FR n s τ ds) w := by
  rw [getA_eq] at hj
  refine DP_yield (v := .agg ws.toArray) (fun w' => w'.heap[b]? = some (.cells vs.toArray te (0, 0))) heff hi (YC.mkD hg fun w' hw' => ?_) (hs.at j hj).2 hI (by rw [put_FR]; exact k)
  show Sem.run P (do let v ← Instr.loadAt t ((FR n s τ ds).eval x); pure (Next.value v)) w' = _
  have hl : ws.length = ti.size := by rw [← hw, List.length_take, List.length_drop]; omega
  rw [eval_of hx, Sem.run_bind, run_loadA (hT _ _ ht) ha hl (fun q v hq => by
    simp only [World.cell?, hw', ← hw] at hq ⊢
    rw [List.getElem?_take] at hq
    split at hq
    · rw [List.getElem?_drop] at hq; simpa using hq
    · cases hq)]; rfl
theorem DP_min2 {x y : Operand} {ts : Array TypeId} {k : IntKind} {p q : Int} (e : Int) (heff : eff.contains i = false) (hi : getA l i = some ⟨some d, .call { callee := .builtin .min, args := #[x, y], argTypes := ts }, ty, ps, af, gd⟩) (hg : gdOK s n l gd) (hx : EVO n s x = some (.int k p)) (hy : EVO n s y = some (.int k q)) (he : (if q < p then q else p) = e)
    (c : DP r P l eff K Cs plan (listed.setIfInBounds i true) (FR n ((d, .int k e) :: s) τ ds) w) : DP r P l eff K Cs (i :: plan) listed (FR n s τ ds) w := by
  refine DP_plain (v := .int k e) heff hi (YC.mkD hg fun w _ => ?_) (by rw [put_FR]; exact c)
  show Sem.run P (do let d ← resolve (FR n s τ ds).eval { callee := .builtin .min, args := #[x, y], argTypes := ts } ty; invoke d.target d.args) w = _
  have e1 : (#[x, y] : Array Operand).map (FR n s τ ds).eval = #[.int k p, .int k q] := by simp [eval_of hx, eval_of hy]
  subst he
  simp only [resolve, e1, Sem.run_bind, Sem.run_pure, Result.andThen, invoke, builtin, Builtin.min_, List.foldlM_cons, List.foldlM_nil, Builtin.min2]
theorem DP_max2 {x y : Operand} {ts : Array TypeId} {k : IntKind} {p q : Int} (e : Int) (heff : eff.contains i = false) (hi : getA l i = some ⟨some d, .call { callee := .builtin .max, args := #[x, y], argTypes := ts }, ty, ps, af, gd⟩) (hg : gdOK s n l gd) (hx : EVO n s x = some (.int k p)) (hy : EVO n s y = some (.int k q)) (he : (if q > p then q else p) = e)
    (c : DP r P l eff K Cs plan (listed.setIfInBounds i true) (FR n ((d, .int k e) :: s) τ ds) w) : DP r P l eff K Cs (i :: plan) listed (FR n s τ ds) w := by
  refine DP_plain (v := .int k e) heff hi (YC.mkD hg fun w _ => ?_) (by rw [put_FR]; exact c)
  show Sem.run P (do let d ← resolve (FR n s τ ds).eval { callee := .builtin .max, args := #[x, y], argTypes := ts } ty; invoke d.target d.args) w = _
  have e1 : (#[x, y] : Array Operand).map (FR n s τ ds).eval = #[.int k p, .int k q] := by simp [eval_of hx, eval_of hy]
  subst he
  simp only [resolve, e1, Sem.run_bind, Sem.run_pure, Result.andThen, invoke, builtin, Builtin.max_, List.foldlM_cons, List.foldlM_nil, Builtin.max2]
theorem DP_sliceH {t e : TypeId} {x y : Operand} {ti te : TI} {A : Option Addr} {len cap : Nat} {k1 : IntKind} {hi' : Int} (hT : TyOK P T) (heff : eff.contains i = false) (hi : getA l i = some ⟨some d, .slice t x none (some y) none, ty, ps, af, gd⟩) (hg : gdOK s n l gd)
    (hx : EVO n s x = some (.slice A len cap)) (hy : EVO n s y = some (.int k1 hi')) (ht : lookT T t = some ti) (hu : ti.u = .slice e) (he : lookT T e = some te) (h0 : 0 ≤ hi') (h1 : hi' ≤ cap)
    (c : DP r P l eff K Cs plan (listed.setIfInBounds i true) (FR n ((d, .slice A hi'.toNat cap) :: s) τ ds) w) : DP r P l eff K Cs (i :: plan) listed (FR n s τ ds) w := by
  refine DP_plain (v := .slice A hi'.toNat cap) heff hi (YC.mkD hg fun w _ => ?_) (by rw [put_FR]; exact c)
  show Sem.run P (do let v ← Instr.sliceAt t ((FR n s τ ds).eval x) none (some ((FR n s τ ds).eval y)) none; pure (Next.value v)) w = _
  have hu1 := (ty_info (hT _ _ ht)).1
  rw [hu] at hu1
  have hel := elem_of hu1
  have hu2 : P.underlying t = some (.slice (P.elem t)) := by rw [hel]; exact hu1
  have hm := movedA_zero A
  unfold movedA at hm
  rw [eval_of hx, eval_of hy, Sem.run_bind, run_sliceAt_slice w t _ _ _ _ hu2, run_slice_h w t A len cap hu2 k1 hi' h0 h1, hel, ty_sizeOf (hT _ _ he)]
  simp [Result.andThen, sliced, hm]
end
end Go.Sl

/- Walks: a call counted; a change of names; a change noted; a file found. -/
set_option linter.unusedVariables false
set_option linter.unusedSimpArgs false
namespace Go.Proofs.Ytoodgenbcfdloaa
open Go Go.Sl Go.RowKit
set_option maxRecDepth 100000
attribute [local irreducible] CW LW DW FR DP Calls

theorem turn_call (W w : World) (L : List HProp) (R : Rp) (d : Nat) (D : DS) (hs : Sat W w (R.L d D ++ L)) (ho : R.Of D) :
    Calls Try.prog 70 [Value.pointer (some ⟨d, 0, none⟩)].toArray w (Ret fun v w' => v = .int .i64 D.turn.1 ∧ ∃ lf, (R.wlf lf).Of D.turn.2 ∧ Sat W w' ((R.wlf lf).L d D.turn.2 ++ L)) := by
  refine Calls_of Try.func70 rfl 23 Try.ntmps70 rfl ?_
  obtain ⟨q, fs, now, las, chs, left, down⟩ := D
  have hlf := ho.lf
  have hlb := ho.lb
  dsimp only at hlf
  cases left with
  | none =>
    (repeat' (first | (refine isLW ?_; first | refine LW_nil ?_ | (refine isLload ?_; first | refine LW_loadC 0 TOK hs rfl rfl rfl rfl rfl ?_) | refine LW_pure TOK rfl ?_) | (with_reducible first | refine then_n ?_ | refine CW_seq ?_ | refine CW_region ?_ | refine CW_ret ?_ | refine then_r ?_) | refine CW_true rfl ?_ | refine RET1 Try.results70 rfl ?_))
    exact ⟨rfl, R.lf, ho, hs⟩
  | some k =>
    have hk := hlf k rfl
    cases k with
    | zero =>
      have h0 : R.lf = 0 := by rw [hk]; rfl
      (repeat' (first | (refine isLW ?_; first | refine LW_nil ?_ | (refine isLload ?_; first | refine LW_loadC 0 TOK hs rfl rfl rfl rfl rfl ?_) | (refine isLstore ?_; first | (refine LW_storeC 0 TOK hs rfl rfl rfl rfl rfl rfl rfl ?_; clear hs; intro w hs)) | (refine isLbin ?_; first | (refine LW_cmp rfl (fun _ => ?_) (fun _ => ?_) <;> try (exfalso; omega))) | refine LW_pure TOK rfl ?_) | (with_reducible first | refine then_n ?_ | refine CW_seq ?_ | refine CW_region ?_ | refine CW_skip ?_ | refine CW_ret ?_ | refine then_r ?_) | refine CW_true rfl ?_ | refine CW_false rfl ?_ | refine RET1 Try.results70 rfl ?_))
      · exact ⟨rfl, R.lf, ⟨ho.mN, ho.mL, ho.fs, ho.lf, ho.lb⟩, hs⟩
    | succ k =>
      have h1 : R.lf = (k : Int) + 1 := by rw [hk]; push_cast; rfl
      (repeat' (first | (refine isLW ?_; first | refine LW_nil ?_ | (refine isLload ?_; first | refine LW_loadC 0 TOK hs rfl rfl rfl rfl rfl ?_) | (refine isLstore ?_; first | (refine LW_storeC 0 TOK hs rfl rfl rfl rfl rfl rfl rfl ?_; clear hs; intro w hs)) | (refine isLbin ?_; first | refine LW_i64 rfl (by omega) (by omega) ?_ | (refine LW_cmp rfl (fun _ => ?_) (fun _ => ?_) <;> try (exfalso; omega))) | refine LW_pure TOK rfl ?_) | (with_reducible first | refine then_n ?_ | refine CW_seq ?_ | refine CW_region ?_ | refine CW_skip ?_ | refine CW_ret ?_) | refine CW_false rfl ?_ | refine RET1 Try.results70 rfl ?_))
      · exact ⟨rfl, R.lf - 1, ⟨ho.mN, ho.mL, ho.fs, fun j hj => by cases hj; show R.lf - 1 = _; omega, by show _ ≤ R.lf - 1 ∧ R.lf - 1 ≤ _; omega⟩, hs⟩
theorem do_call (W w : World) (L : List HProp) (E : List Ent') (bs : List Nat) (ck : Nat) (S : Names) (b : Nat) (c : Chg) (hm : MapOf E ck S) (hc : okC S c) (hs : Sat W w (Mp keyN b (kvs bs E) ck :: L)) :
    Calls Try.prog 64 [Value.map (some b), .agg (eC bs c).toArray].toArray w (Ret fun v w' => ∃ E' ck', MapOf E' ck' (doC S c) ∧ Sat W w' (Mp keyN b (kvs bs E') ck' :: L)) := by
  refine Calls_of Try.func64 rfl 24 Try.ntmps64 rfl ?_
  rcases doC_cases hc with ⟨i, hmd, ha, hb, hn, e⟩ | ⟨i, hmd, ha, hf, ⟨hb, e⟩ | ⟨hb, e⟩⟩
  · obtain ⟨E', hp, hm'⟩ := hm.put bs c.b i
    have hbn := pathB_ne hb
    unfold eC
    rw [hmd]
    (repeat' (first | refine LW_strNe (a := c.a) (b := []) rfl rfl rfl rfl (fun hne => absurd ha hne) (fun _ => ?_) | refine LW_strNe (a := c.b) (b := []) rfl rfl rfl rfl (fun _ => ?_) (fun hne => absurd hne hbn) | (refine isLW ?_; first | refine LW_nil ?_ | (refine isLload ?_; first | refine LW_loadC 0 TOK hs rfl rfl rfl rfl rfl ?_) | (refine LW_mapUpdate keyN 1 (k := c.b) hs TOK rfl rfl rfl rfl rfl rfl rfl rfl ?_; clear hs; intro w hs; rw [show ptm bs (some i) = ptv bs i from rfl, hp] at hs) | refine LW_pure TOK rfl ?_ | (refine LW_box hs rfl rfl ?_; clear hs; intro _ w hs)) | (with_reducible first | refine then_n ?_ | refine CW_seq ?_ | refine CW_region ?_ | refine CW_skip ?_) | refine CW_true rfl ?_ | refine CW_false rfl ?_ | refine RET0 Try.results64 ?_))
    exact ⟨E', _, by rw [e]; exact hm', hs.drop1⟩
  · obtain ⟨E', hp, hm'⟩ := hm.del bs c.a
    have han := pathB_ne ha
    have hv : (findV (kvs bs E) c.a).getD (.pointer none) = ptv bs i := by rw [hm.find, hf]; rfl
    unfold eC
    rw [hmd]
    (repeat' (first | refine LW_strNe (a := c.a) (b := []) rfl rfl rfl rfl (fun _ => ?_) (fun hne => absurd hne han) | refine LW_strNe (a := c.b) (b := []) rfl rfl rfl rfl (fun hne => absurd hb hne) (fun _ => ?_) | refine LW_lookup keyN 1 (k := c.a) hs TOK rfl rfl rfl rfl rfl rfl rfl rfl hv ?_ | (refine LW_delete keyN 1 (k := c.a) hs TOK rfl rfl rfl rfl rfl rfl ?_; clear hs; intro w hs; rw [hp] at hs) | (refine isLW ?_; first | refine LW_nil ?_ | (refine isLload ?_; first | refine LW_loadC 0 TOK hs rfl rfl rfl rfl rfl ?_) | refine LW_pure TOK rfl ?_ | (refine LW_box hs rfl rfl ?_; clear hs; intro _ w hs)) | (with_reducible first | refine then_n ?_ | refine CW_seq ?_ | refine CW_region ?_ | refine CW_skip ?_) | refine CW_true rfl ?_ | refine CW_false rfl ?_ | refine RET0 Try.results64 ?_))
    exact ⟨E', _, by rw [e]; exact hm', hs.drop1⟩
  · obtain ⟨E1, hp1, hm1⟩ := hm.del bs c.a
    obtain ⟨E', hp, hm'⟩ := hm1.put bs c.b i
    have han := pathB_ne ha
    have hbn := pathB_ne hb
    have hv : (findV (kvs bs E) c.a).getD (.pointer none) = ptv bs i := by rw [hm.find, hf]; rfl
    unfold eC
    rw [hmd]
    (repeat' (first | refine LW_strNe (a := c.a) (b := []) rfl rfl rfl rfl (fun _ => ?_) (fun hne => absurd hne han) | refine LW_strNe (a := c.b) (b := []) rfl rfl rfl rfl (fun _ => ?_) (fun hne => absurd hne hbn) | refine LW_lookup keyN 1 (k := c.a) hs TOK rfl rfl rfl rfl rfl rfl rfl rfl hv ?_ | (refine LW_delete keyN 1 (k := c.a) hs TOK rfl rfl rfl rfl rfl rfl ?_; clear hs; intro w hs; rw [hp1] at hs) | (refine isLW ?_; first | refine LW_nil ?_ | (refine isLload ?_; first | refine LW_loadC 0 TOK hs rfl rfl rfl rfl rfl ?_) | (refine LW_mapUpdate keyN 1 (k := c.b) hs TOK rfl rfl rfl rfl rfl rfl rfl rfl ?_; clear hs; intro w hs; rw [hp] at hs) | refine LW_pure TOK rfl ?_ | (refine LW_box hs rfl rfl ?_; clear hs; intro _ w hs)) | (with_reducible first | refine then_n ?_ | refine CW_seq ?_ | refine CW_region ?_) | refine CW_true rfl ?_ | refine RET0 Try.results64 ?_))
    exact ⟨E', _, by rw [e]; exact hm', hs.drop1⟩
theorem note_call (W w : World) (L : List HProp) (R : Rp) (d : Nat) (D : DS) (c : Chg) (hs : Sat W w (R.L d D ++ L)) (ho : R.Of D) (hc : okC D.now c) (hl : D.chs.length ≤ 2199023255552) :
    Calls Try.prog 73 [Value.pointer (some ⟨d, 0, none⟩), .agg (eC R.bs c).toArray].toArray w (Ret fun v w' => v = .int .i64 (D.note c).1 ∧ ∃ R' : Rp, R'.F = R.F ∧ R'.Of (D.note c).2 ∧ Sat W w' (R'.L d (D.note c).2 ++ L)) := by
  refine Calls_of Try.func73 rfl 27 Try.ntmps73 rfl ?_
  obtain ⟨e1, e2, e3, e4, e5⟩ := turn_fields D
  unfold DS.note
  obtain ⟨D1, hD1⟩ : ∃ D1, D.turn.2 = D1 := ⟨_, rfl⟩
  rw [hD1] at e1 e2 e3 e4 e5 ⊢
  by_cases h0 : D.turn.1 = 0
  · rw [if_pos h0]
    have hc1 : okC D1.now c := by rw [e2]; exact hc
    have hl1 : D1.chs.length ≤ 2199023255552 := by rw [e4]; exact hl
    unfold eC
    (repeat' (first | refine Inv.keepO 5 hs rfl ?_ | refine Inv.keepO 6 hs rfl ?_ | (refine isLW ?_; first | refine LW_nil ?_ | (refine isLstore ?_; first | (refine LW_storeC 0 TOK hs rfl rfl rfl rfl rfl rfl rfl ?_; clear hs; intro w hs)) | (refine isLcall ?_; first | (refine LW_call (cap := []) rfl rfl ent70 (turn_call W _ _ R d D (hs.picks [1, 1, 1, 1, 1]) ho) ?_; clear hs; rintro _ w ⟨rfl, lf, ho1, hs⟩; rw [h0]; rw [hD1] at hs ho1; replace hs : Sat W w ((R.wlf lf).L d D1 ++ (_ :: L)) := hs) | (refine LW_call (cap := []) rfl rfl ent64 (do_call W _ _ _ R.bs _ D1.now R.bN c ho1.mN hc1 (hs.picks [1])) ?_; clear hs; rintro _ w ⟨E', ck', hm', hs⟩; replace hs := hs.picks [1]) | (refine LW_append1 3 (eC_ok R.bs) (z := c) hs TOK rfl rfl rfl rfl rfl rfl rfl rfl rfl rfl (by unfold maxLen; omega) (by simp only []; omega) ?_; clear hs; intro A2 c2 w hs)) | (refine isLbin ?_; first | (refine LW_cmp rfl (fun _ => ?_) (fun _ => ?_) <;> try (exfalso; omega))) | refine LW_pure TOK rfl ?_ | (refine LW_box hs rfl rfl ?_; clear hs; intro _ w hs) | (refine LW_buildSlice TOK hs rfl rfl rfl rfl rfl rfl rfl ?_; clear hs; intro _ w hs)) | (refine isDP ?_; first | (refine isDnil ?_; first | refine DP_end ?_ ?_) | (refine isDe rfl ?_; first | refine DP_eff rfl rfl ?_ ?_) | (refine isDload rfl ?_; first | refine DP_loadCA 5 [sv c.a, sv c.b, ptm R.bs c.made] hs TOK rfl rfl trivial rfl rfl rfl rfl (Nat.le_of_ble_eq_true rfl) rfl ?_ ?_ | refine DP_loadC 0 hs TOK rfl rfl (by first | exact trivial | rfl) rfl rfl rfl rfl rfl ?_ ?_) | refine DP_pure TOK rfl rfl (by first | exact trivial | rfl) rfl ?_) | (refine isI0 ?_; exact Inv.nil) | (refine isI1 ?_; first | refine Inv.keepC 0 hs rfl rfl ?_ | refine Inv.keepC 1 hs rfl rfl ?_ | refine Inv.gone (by kernel_rfl) ?_) | (with_reducible first | refine then_n ?_ | refine CW_seq ?_ | refine CW_region ?_ | refine CW_skip ?_ | refine CW_ret ?_) | refine CW_false rfl ?_ | (refine CW_drawP (id := 4) [5] [0, 1, 2, 3, 4, 5] mixed (by kernel_rfl) hs ?_; clear hs; intro hs) | (refine CW_drawP (id := 5) [6, 7, 10] [0, 1, 2, 3, 4, 5, 6, 7, 8, 9, 10] mixed (by kernel_rfl) hs ?_; clear hs; intro hs) | refine RET1 Try.results73 rfl ?_))
    refine ⟨rfl, R.wN lf E' ck' A2 c2, rfl, ⟨hm', ho1.mL, ho1.fs, ho1.lf, ho1.lb⟩, ?_⟩
    have h6 := (hs.picks [5]).drop1
    exact h6
  · rw [if_neg h0]
    unfold eC
    (repeat' (first | (refine isLW ?_; first | refine LW_nil ?_ | (refine isLcall ?_; first | (refine LW_call (cap := []) rfl rfl ent70 (turn_call W _ _ R d D (hs.picks [1, 1, 1, 1, 1]) ho) ?_; clear hs; rintro _ w ⟨rfl, lf, ho1, hs⟩)) | (refine isLbin ?_; first | (refine LW_cmp rfl (fun _ => ?_) (fun _ => ?_) <;> try (exfalso; omega))) | refine LW_pure TOK rfl ?_ | (refine LW_box hs rfl rfl ?_; clear hs; intro _ w hs)) | (with_reducible first | refine then_n ?_ | refine CW_seq ?_ | refine CW_region ?_ | refine CW_ret ?_ | refine then_r ?_) | refine CW_true rfl ?_ | refine RET1 Try.results73 rfl ?_))
    exact ⟨rfl, R.wlf lf, rfl, ho1, (hs.picks [5]).drop1⟩
end Go.Proofs.Ytoodgenbcfdloaa

/- Walks: a file found; the changing calls. -/
set_option linter.unusedVariables false
set_option linter.unusedSimpArgs false
namespace Go.Proofs.Ytoodgenbcfdloaa
open Go Go.Sl Go.RowKit
set_option maxRecDepth 100000
attribute [local irreducible] CW LW DW FR DP Calls

def fptr (bs : List Nat) (x : Int × Nat) : Value := if x.1 = 0 then ptv bs x.2 else .pointer none
theorem find_call (W w : World) (L : List HProp) (R : Rp) (d : Nat) (D : DS) (n : Nm) (hs : Sat W w (R.L d D ++ L)) (ho : R.Of D) (hn : n.length ≤ 140737488355328) :
    Calls Try.prog 69 [Value.pointer (some ⟨d, 0, none⟩), sv n].toArray w (Ret fun v w' => v = .tuple #[fptr R.bs (D.find n), .int .i64 (D.find n).1] ∧ Sat W w' (R.L d D ++ L)) := by
  refine Calls_of Try.func69 rfl 29 Try.ntmps69 rfl ?_
  unfold DS.find
  obtain ⟨q, fs, now, las, chs, left, down⟩ := D
  have hv := ho.mN.find R.bs n
  cases down with
  | true =>
    (repeat' (first | (refine isLW ?_; first | refine LW_nil ?_ | (refine isLload ?_; first | refine LW_loadC 0 TOK hs rfl rfl rfl rfl rfl ?_) | refine LW_pure TOK rfl ?_) | (with_reducible first | refine then_n ?_ | refine CW_seq ?_ | refine CW_region ?_ | refine CW_block ?_ | refine CW_ret ?_ | refine then_r ?_ | refine blk_r ?_) | refine CW_true rfl ?_ | refine RET2 Try.results69 rfl rfl ?_))
    exact ⟨rfl, hs⟩
  | false =>
    rw [if_neg (by simp)]
    cases hp : pathB n with
    | false =>
      rw [if_pos rfl]
      (repeat' (first | (refine isLW ?_; first | refine LW_nil ?_ | (refine isLload ?_; first | refine LW_loadC 0 TOK hs rfl rfl rfl rfl rfl ?_) | (refine isLcall ?_; first | (refine LW_call (cap := []) rfl rfl ent58 (path_call _ n hn) ?_; rintro _ w ⟨rfl, hs2⟩; replace hs := hs.and0 hs2; clear hs2; rw [hp])) | refine LW_pure TOK rfl ?_) | (with_reducible first | refine then_n ?_ | refine CW_seq ?_ | refine CW_region ?_ | refine CW_block ?_ | refine CW_ret ?_ | refine then_r ?_ | refine blk_r ?_) | refine CW_true rfl ?_ | refine CW_false rfl ?_ | refine RET2 Try.results69 rfl rfl ?_))
      exact ⟨rfl, hs⟩
    | true =>
      rw [if_neg (by simp)]
      dsimp only at hv ⊢
      cases hf : fnd now n with
      | none =>
        have hv2 : (findV (kvs R.bs R.EN) n).getD (.pointer none) = .pointer none := by rw [hv, hf]; rfl
        (repeat' (first | refine LW_lookup keyN 1 (k := n) hs TOK rfl rfl rfl rfl rfl rfl rfl rfl hv2 ?_ | (refine isLW ?_; first | refine LW_nil ?_ | (refine isLload ?_; first | refine LW_loadC 0 TOK hs rfl rfl rfl rfl rfl ?_) | (refine isLcall ?_; first | (refine LW_call (cap := []) rfl rfl ent58 (path_call _ n hn) ?_; rintro _ w ⟨rfl, hs2⟩; replace hs := hs.and0 hs2; clear hs2; rw [hp])) | (refine isLbin ?_; first | refine LW_nileq TOK rfl ?_) | refine LW_pure TOK rfl ?_) | (with_reducible first | refine then_n ?_ | refine CW_seq ?_ | refine CW_region ?_ | refine CW_block ?_ | refine CW_ret ?_ | refine then_r ?_ | refine blk_r ?_) | refine CW_true rfl ?_ | refine CW_false rfl ?_ | refine RET2 Try.results69 rfl rfl ?_))
        exact ⟨rfl, hs⟩
      | some i =>
        have hv2 : (findV (kvs R.bs R.EN) n).getD (.pointer none) = ptv R.bs i := by rw [hv, hf]; rfl
        (repeat' (first | refine LW_lookup keyN 1 (k := n) hs TOK rfl rfl rfl rfl rfl rfl rfl rfl hv2 ?_ | (refine isLW ?_; first | refine LW_nil ?_ | (refine isLload ?_; first | refine LW_loadC 0 TOK hs rfl rfl rfl rfl rfl ?_) | (refine isLcall ?_; first | (refine LW_call (cap := []) rfl rfl ent58 (path_call _ n hn) ?_; rintro _ w ⟨rfl, hs2⟩; replace hs := hs.and0 hs2; clear hs2; rw [hp])) | (refine isLbin ?_; first | refine LW_nileq TOK rfl ?_) | refine LW_pure TOK rfl ?_) | (with_reducible first | refine then_n ?_ | refine CW_seq ?_ | refine CW_region ?_ | refine CW_block ?_ | refine CW_skip ?_ | refine CW_ret ?_ | refine blk_n ?_) | refine CW_false rfl ?_ | refine RET2 Try.results69 rfl rfl ?_))
        exact ⟨rfl, hs⟩
end Go.Proofs.Ytoodgenbcfdloaa
