/- Drawn regions: several cells of a block of one's own read at once; the least and the greatest; a slice's front. -/
import Derived.Test.YtbmeafeojcgndaaDoorSlText
set_option linter.unusedVariables false
set_option linter.unusedSimpArgs false
namespace Go.Sl
open Go.RowKit
section
variable {r : Option Nat} {P : Program} {T : List (Nat × TI)} {l : List Oper} {eff : List Nat} {K : Act → World → Prop} {Cs : List (Nat × (World → Prop))} {plan : List Nat} {listed : Array Bool} {a : Act} {w : World} {n : Nat} {s : List (Nat × Value)} {τ : Nat → Value} {ds : List Deferred}
  {W : World} {L : List HProp} {op : Op} {ty : TypeId} {ps : String} {af : Array Edge} {d i : Nat} {gd : Option (Nat × Bool)}
theorem Inv.keepO (j : Nat) {i b : Nat} {o : Obj} (hs : Sat W w L) (hj : getA L j = some (Bk b o)) (k : Inv l eff Cs listed w) : Inv l eff ((i, fun w' => w'.heap[b]? = some o) :: Cs) listed w := by
  rw [getA_eq] at hj
  exact Inv.keep (hs.at j hj).2 k
theorem DP_loadCA (j : Nat) (ws : List Value) {x : Operand} {t : TypeId} {ti : TI} {b o : Nat} {vs : List Value} {te : TypeId} (hs : Sat W w L) (hT : TyOK P T) (heff : eff.contains i = false) (hi : getA l i = some ⟨some d, .load t x, ty, ps, af, gd⟩) (hg : gdOK s n l gd) (hx : EVO n s x = some (.pointer (some ⟨b, o, none⟩))) (ht : lookT T t = some ti) (ha : ti.agg = true) (hj : getA L j = some (Cl b vs te)) (hfit : o + ti.size ≤ vs.length) (hw : (vs.drop o).take ti.size = ws)
    (hI : Inv l eff Cs listed w) (k : DP r P l eff K ((i, fun w' => w'.heap[b]? = some (.cells vs.toArray te (0, 0))) :: Cs) plan (listed.setIfInBounds i true) (FR n ((d, .agg ws.toArray) :: s) τ ds) w) : DP r P l eff K Cs (i :: plan) listed (FR n s τ ds) w := by
  rw [getA_eq] at hj
  refine DP_yield (v := .agg ws.toArray) (fun w' => w'.heap[b]? = some (.cells vs.toArray te (0, 0))) heff hi (YC.mkD hg fun w' hw' => ?_) (hs.at j hj).2 hI (by rw [put_FR]; exact k)
  show Sem.run P (do let v ← Instr.loadAt t ((FR n s τ ds).eval x); pure (Next.value v)) w' = _
  have hl : ws.length = ti.size := by rw [← hw, List.length_take, List.length_drop]; omega
  rw [eval_of hx, Sem.run_bind, run_loadA (hT _ _ ht) ha hl (fun q v hq => by
    simp only [World.cell?, hw', ← hw] at hq ⊢
    rw [List.getElem?_take] at hq
    split at hq
    · rw [List.getElem?_drop] at hq; simpa using hq
    · cases hq)]; rfl
theorem DP_min2 {x y : Operand} {ts : Array TypeId} {k : IntKind} {p q : Int} (e : Int) (heff : eff.contains i = false) (hi : getA l i = some ⟨some d, .call { callee := .builtin .min, args := #[x, y], argTypes := ts }, ty, ps, af, gd⟩) (hg : gdOK s n l gd) (hx : EVO n s x = some (.int k p)) (hy : EVO n s y = some (.int k q)) (he : (if q < p then q else p) = e)
    (c : DP r P l eff K Cs plan (listed.setIfInBounds i true) (FR n ((d, .int k e) :: s) τ ds) w) : DP r P l eff K Cs (i :: plan) listed (FR n s τ ds) w := by
  refine DP_plain (v := .int k e) heff hi (YC.mkD hg fun w _ => ?_) (by rw [put_FR]; exact c)
  show Sem.run P (do let d ← resolve (FR n s τ ds).eval { callee := .builtin .min, args := #[x, y], argTypes := ts } ty; invoke d.target d.args) w = _
  have e1 : (#[x, y] : Array Operand).map (FR n s τ ds).eval = #[.int k p, .int k q] := by simp [eval_of hx, eval_of hy]
  subst he
  simp only [resolve, e1, Sem.run_bind, Sem.run_pure, Result.andThen, invoke, builtin, Builtin.min_, List.foldlM_cons, List.foldlM_nil, Builtin.min2]
theorem DP_max2 {x y : Operand} {ts : Array TypeId} {k : IntKind} {p q : Int} (e : Int) (heff : eff.contains i = false) (hi : getA l i = some ⟨some d, .call { callee := .builtin .max, args := #[x, y], argTypes := ts }, ty, ps, af, gd⟩) (hg : gdOK s n l gd) (hx : EVO n s x = some (.int k p)) (hy : EVO n s y = some (.int k q)) (he : (if q > p then q else p) = e)
    (c : DP r P l eff K Cs plan (listed.setIfInBounds i true) (FR n ((d, .int k e) :: s) τ ds) w) : DP r P l eff K Cs (i :: plan) listed (FR n s τ ds) w := by
  refine DP_plain (v := .int k e) heff hi (YC.mkD hg fun w _ => ?_) (by rw [put_FR]; exact c)
  show Sem.run P (do let d ← resolve (FR n s τ ds).eval { callee := .builtin .max, args := #[x, y], argTypes := ts } ty; invoke d.target d.args) w = _
  have e1 : (#[x, y] : Array Operand).map (FR n s τ ds).eval = #[.int k p, .int k q] := by simp [eval_of hx, eval_of hy]
  subst he
  simp only [resolve, e1, Sem.run_bind, Sem.run_pure, Result.andThen, invoke, builtin, Builtin.max_, List.foldlM_cons, List.foldlM_nil, Builtin.max2]
theorem DP_sliceH {t e : TypeId} {x y : Operand} {ti te : TI} {A : Option Addr} {len cap : Nat} {k1 : IntKind} {hi' : Int} (hT : TyOK P T) (heff : eff.contains i = false) (hi : getA l i = some ⟨some d, .slice t x none (some y) none, ty, ps, af, gd⟩) (hg : gdOK s n l gd)
    (hx : EVO n s x = some (.slice A len cap)) (hy : EVO n s y = some (.int k1 hi')) (ht : lookT T t = some ti) (hu : ti.u = .slice e) (he : lookT T e = some te) (h0 : 0 ≤ hi') (h1 : hi' ≤ cap)
    (c : DP r P l eff K Cs plan (listed.setIfInBounds i true) (FR n ((d, .slice A hi'.toNat cap) :: s) τ ds) w) : DP r P l eff K Cs (i :: plan) listed (FR n s τ ds) w := by
  refine DP_plain (v := .slice A hi'.toNat cap) heff hi (YC.mkD hg fun w _ => ?_) (by rw [put_FR]; exact c)
  show Sem.run P (do let v ← Instr.sliceAt t ((FR n s τ ds).eval x) none (some ((FR n s τ ds).eval y)) none; pure (Next.value v)) w = _
  have hu1 := (ty_info (hT _ _ ht)).1
  rw [hu] at hu1
  have hel := elem_of hu1
  have hu2 : P.underlying t = some (.slice (P.elem t)) := by rw [hel]; exact hu1
  have hm := movedA_zero A
  unfold movedA at hm
  rw [eval_of hx, eval_of hy, Sem.run_bind, run_sliceAt_slice w t _ _ _ _ hu2, run_slice_h w t A len cap hu2 k1 hi' h0 h1, hel, ty_sizeOf (hT _ _ he)]
  simp [Result.andThen, sliced, hm]
end
end Go.Sl

/- append of zeros: 'append(s, make([]T, n)...)', of elements of one cell. -/
set_option linter.unusedVariables false
set_option linter.unusedSimpArgs false
namespace Go.Sl
open Go.RowKit
theorem zeroCells_rep (z : Value) (m : Nat) : Builtin.zeroCells #[z] m = (List.replicate m z).toArray := by
  unfold Builtin.zeroCells
  apply Array.ext
  · simp
  · intro i h1 h2
    simp [Nat.mod_one]
theorem run_appendZ0 {P : Program} (w : World) (t u ty e : TypeId) (i : TypeInfo) (ku : IntKind) (ht : P.underlying t = some (.slice e)) (hu : P.underlying u = some (.int ku)) (hi : P.info? e = some i)
    (A : Option Addr) (n c : Nat) (hc : n ≤ c) : (Builtin.append_ #[t, u] ty #[.slice A n c, .int .i64 0]).run P w = .ok (.slice A n c) w := by
  have hw : IntKind.i64.wrap 0 = 0 := by decide
  cases A <;> simp [Builtin.append_, run_underlying ht, run_underlying hu, sizeOf, typeInfo, hi, hw, asInt, asIntOf, hc, storeCells]
theorem run_appendZ_room {P : Program} (w : World) (t u ty e : TypeId) (i : TypeInfo) (ku : IntKind) (z : Value) (ht : P.underlying t = some (.slice e)) (hu : P.underlying u = some (.int ku)) (hi : P.info? e = some i) (hz : i.zero = some z) (hsz : i.size = 1) (hzc : z.cells = #[z]) (h1 : z.oneCell' = true)
    (g sLen sCap : Nat) (cur : Array Value) (hg : w.heap[g]? = some (.cells cur e (0, 0))) (m : Nat) (hm0 : 0 < m) (hm : m ≤ 140737488355328) (hby : m * i.bytes ≤ 281474976710656) (hroom : sLen + m ≤ sCap) (hfit : sLen + m ≤ cur.size) :
    (Builtin.append_ #[t, u] ty #[.slice (some ⟨g, 0, none⟩) sLen sCap, .int .i64 (m : Int)]).run P w =
      .ok (.slice (some ⟨g, 0, none⟩) (sLen + m) sCap) (w.setRow g (cur.toList.take sLen ++ List.replicate m z ++ cur.toList.drop (sLen + m)).toArray) := by
  have hw : IntKind.i64.wrap (m : Int) = m := IntWalk.i64_in _ (by omega)
  have hst := run_storeCells_at P g sLen e (List.replicate m z) 0 cur w hg (by simpa using hfit) (fun u hu => by rw [List.mem_replicate] at hu; rw [hu.2]; exact h1)
  simp only [Nat.add_zero, List.length_replicate] at hst
  have hneg : ¬ ((m : Int) < 0) := by omega
  have hbig : ¬ (281474976710656 < (m : Int) * (i.bytes : Int)) := by
    have : (m : Int) * (i.bytes : Int) = ((m * i.bytes : Nat) : Int) := by push_cast; rfl
    omega
  have hm' : ¬ m = 0 := by omega
  simp [Builtin.append_, run_underlying ht, run_underlying hu, sizeOf, typeInfo, zeroValue, hi, hz, hsz, hw, asInt, asIntOf, hneg, hbig, hroom, hm', hzc, zeroCells_rep, Addr.add_lit, hst]
theorem run_appendZ_grow {P : Program} (w : World) (t u ty e : TypeId) (i : TypeInfo) (ku : IntKind) (z : Value) (ht : P.underlying t = some (.slice e)) (hu : P.underlying u = some (.int ku)) (hi : P.info? e = some i) (hz : i.zero = some z) (hsz : i.size = 1) (hzc : z.cells = #[z])
    (A : Option Addr) (sLen sCap : Nat) (olds : List Value) (hlo : olds.length = sLen) (holds : (A = none ∧ sLen = 0) ∨ ∃ b, A = some b ∧ ∀ j v, olds[j]? = some v → w.cell? (b.add j) = some v) (m : Nat) (hm0 : 0 < m) (hm : m ≤ 140737488355328) (hby : m * i.bytes ≤ 281474976710656)
    (hg : sCap < sLen + m) (h63 : ((sLen + m : Nat) : Int) ≤ 9223372036854775807) (hfit : Builtin.nextslicecap (sLen + m) sCap * i.bytes ≤ 281474976710656) :
    (Builtin.append_ #[t, u] ty #[.slice A sLen sCap, .int .i64 (m : Int)]).run P w =
      .ok (.slice (some ⟨w.heap.size, 0, none⟩) (sLen + m) (grownCap w (sLen + m) sCap e))
        (w.drew.alloc (.cells (olds.toArray ++ (List.replicate m z).toArray ++ Builtin.zeroCells z.cells (grownCap w (sLen + m) sCap e - (sLen + m))) e)) := by
  have hw : IntKind.i64.wrap (m : Int) = m := IntWalk.i64_in _ (by omega)
  have hneg : ¬ ((m : Int) < 0) := by omega
  have hbig : ¬ (281474976710656 < (m : Int) * (i.bytes : Int)) := by
    have : (m : Int) * (i.bytes : Int) = ((m * i.bytes : Nat) : Int) := by push_cast; rfl
    omega
  have hm' : ¬ m = 0 := by omega
  have hn : ¬ (sLen + m ≤ sCap) := by omega
  have h63' : ¬ (9223372036854775807 < ((sLen : Int) + (m : Int))) := by omega
  have h48' : ¬ (281474976710656 < Builtin.nextslicecap (sLen + m) sCap * i.bytes) := by omega
  have hfo : (Builtin.firstCells 1 sLen (.slice A sLen sCap)).run P w.drew = .ok olds.toArray w.drew := by
    rcases holds with ⟨rfl, h0⟩ | ⟨b, rfl, holds⟩
    · subst h0
      have : olds = [] := List.eq_nil_of_length_eq_zero hlo
      subst this
      simp [Builtin.firstCells]
    · exact run_firstCells_some (P := P) w.drew 1 sLen b sLen sCap olds (by omega) (by simpa using holds)
  simp [Builtin.append_, run_underlying ht, run_underlying hu, sizeOf, typeInfo, zeroValue, hi, hz, hsz, hw, asInt, asIntOf, hneg, hbig, hn, h63', h48', hm', Question.forced, hfo, newRow, grownCap, hzc, zeroCells_rep]
theorem run_appendZ {P : Program} (w : World) (base : Nat) (t u ty e : TypeId) (i : TypeInfo) (ku : IntKind) (z : Value) (ht : P.underlying t = some (.slice e)) (hu : P.underlying u = some (.int ku)) (hi : P.info? e = some i) (hz : i.zero = some z) (hsz : i.size = 1) (hzc : z.cells = #[z]) (h1 : z.oneCell' = true)
    (v : Value) (n : Nat) (xs : List Value) (hown : OwnR w base e 1 v n xs) (m : Nat) (h63 : n + m ≤ maxLen) (hbytes : (n + m) * i.bytes ≤ 140737488355328) (hm : m ≤ 140737488355328) (hbase : base ≤ w.heap.size) :
    ∃ v' w', (Builtin.append_ #[t, u] ty #[v, .int .i64 (m : Int)]).run P w = .ok v' w' ∧ OwnR w' base e 1 v' (n + m) (xs ++ List.replicate m z) ∧ w.grownBy w' v.ownBlock ∧ (v'.ownBlock = v.ownBlock ∨ v'.ownBlock = some w.heap.size) := by
  have hmb : m * i.bytes ≤ 281474976710656 := by
    have : m * i.bytes ≤ (n + m) * i.bytes := Nat.mul_le_mul_right _ (by omega)
    omega
  rcases Nat.eq_zero_or_pos m with h0 | hm0
  · subst h0
    rcases hown.2 with ⟨rfl, hn⟩ | ⟨g, cap, cur, rfl, hbg, hgc, hnc, hcm, hcs, htake⟩
    · subst hn
      exact ⟨_, w, run_appendZ0 w t u ty e i ku ht hu hi none 0 0 (Nat.le_refl _), by simpa using hown, World.grownBy.refl _ _, .inl rfl⟩
    · exact ⟨_, w, run_appendZ0 w t u ty e i ku ht hu hi _ _ _ hnc, by simpa using hown, World.grownBy.refl _ _, .inl rfl⟩
  · have hl : (List.replicate m z).length = m := List.length_replicate
    have grow : ∀ (A : Option Addr) (cap : Nat), v = .slice A n cap → cap < n + m → cap ≤ maxLen → ((A = none ∧ n = 0) ∨ ∃ b, A = some b ∧ ∀ j u, xs[j]? = some u → w.cell? (b.add j) = some u) →
        ∃ v' w', (Builtin.append_ #[t, u] ty #[v, .int .i64 (m : Int)]).run P w = .ok v' w' ∧ OwnR w' base e 1 v' (n + m) (xs ++ List.replicate m z) ∧ w.grownBy w' v.ownBlock ∧ (v'.ownBlock = v.ownBlock ∨ v'.ownBlock = some w.heap.size) := by
      intro A cap hv hcap hcm hA
      subst hv
      have h2 := run_appendZ_grow (P := P) w t u ty e i ku z ht hu hi hz hsz hzc A n cap xs (by have := hown.1; omega) hA m hm0 hm hmb hcap (by simp only [maxLen] at h63; omega) (growslice_fits (by omega) hbytes)
      have hge := grownCap_ge w (n + m) cap e
      have hlen : (xs ++ List.replicate m z).length = n + m := by rw [List.length_append, hown.1, hl]; omega
      have hgb : ∀ row, w.grownBy (w.drew.alloc (.cells (xs.toArray ++ (List.replicate m z).toArray ++ Builtin.zeroCells z.cells (grownCap w (n + m) cap e - (n + m))) e)) row := fun row => ⟨rfl, rfl, rfl, by simp, fun k hk _ => Below.heap_alloc w.drew _ k hk⟩
      refine ⟨_, _, h2, ⟨by rw [hlen, Nat.mul_one], .inr ⟨w.heap.size, _, _, rfl, hbase, World.alloc_heap_new w.drew _, hge, grownCap_le_maxLen w (n + m) cap e h63, ?_, ?_⟩⟩, hgb _, .inr rfl⟩
      · have hx := hown.1
        simp only [Array.size_append, List.size_toArray, size_zeroCells, hzc, hl]
        simp only [List.size_toArray, List.length_cons, List.length_nil]
        omega
      · simp only [Array.toList_append, List.append_assoc]
        rw [← List.append_assoc, Nat.mul_one, ← hlen]
        exact List.take_left
    rcases hown.2 with ⟨rfl, hn⟩ | ⟨g, cap, cur, rfl, hbg, hgc, hnc, hcm, hcs, htake⟩
    · subst hn
      exact grow none 0 rfl (by omega) (by simp [maxLen]) (.inl ⟨rfl, rfl⟩)
    · by_cases hroom : n + m ≤ cap
      · have hx := hown.1
        have h2 := run_appendZ_room (P := P) w t u ty e i ku z ht hu hi hz hsz hzc h1 g n cap cur hgc m hm0 hm hmb hroom (by omega)
        rw [Nat.mul_one] at htake
        refine ⟨_, _, h2, ⟨by rw [List.length_append, hl]; omega, .inr ⟨g, cap, _, rfl, hbg, setRow_heap w g cur _ e _ hgc, hroom, hcm, ?_, ?_⟩⟩, ⟨rfl, rfl, rfl, by simp, fun k _ hk => setRow_other w g k _ (fun e => hk (by simp [Value.ownBlock, e]))⟩, .inl rfl⟩
        · simp only [List.size_toArray, List.length_append, List.length_take, List.length_drop, Array.length_toList, hl]
          omega
        · rw [htake, Nat.mul_one]
          rw [List.take_append_of_le_length (by rw [List.length_append, hl]; omega), List.take_of_length_le (by rw [List.length_append, hl]; omega)]
      · exact grow _ cap rfl (by omega) hcm (.inr ⟨_, rfl, hown.cells⟩)
section steps
variable {r : Option Nat} {P : Program} {T : List (Nat × TI)} {ops : Array Oper} {Q : Exit → Act → World → Prop} {rest : List Oper} {n : Nat} {s : List (Nat × Value)} {τ : Nat → Value} {ds : List Deferred} {w : World}
  {ty : TypeId} {ps : String} {af : Array Edge} {d : Nat} {W : World} {L : List HProp} {α : Type}
theorem LW_appendZ (i : Nat) {enc : α → List Value} (hE : ∀ x, (enc x).length = 1) {xs : List α} (zz : α) {A : Option Addr} {c : Nat} {m : Int} {x y : Operand} {t u e : TypeId} {ti tu te : TI} {ku : IntKind} (hs : Sat W w L) (hT : TyOK P T) (hx : EVO n s x = some (.slice A xs.length c)) (hy : EVO n s y = some (.int .i64 m)) (h0 : 0 ≤ m)
    (ht : lookT T t = some ti) (hu : ti.u = .slice e) (hut : lookT T u = some tu) (huu : tu.u = .int ku) (he : lookT T e = some te) (hsz : te.size = 1) (hzc : te.zero.cells = #[te.zero]) (h1 : te.zero.oneCell' = true) (henc : enc zz = [te.zero]) (hi : getA L i = some (RowOf enc e 1 A c xs))
    (hlen : xs.length + m.toNat ≤ maxLen) (hby : (xs.length + m.toNat) * te.bytes ≤ 140737488355328) (hm : m.toNat ≤ 140737488355328)
    (k : ∀ A' c' w', Sat W w' (L.set i (RowOf enc e 1 A' c' (xs ++ List.replicate m.toNat zz))) → LW r P ops Q rest (FR n ((d, .slice A' (xs ++ List.replicate m.toNat zz).length c') :: s) τ ds) w') :
    LW r P ops Q (⟨some d, .call { callee := .builtin .append, args := #[x, y], argTypes := #[t, u] }, ty, ps, af, none⟩ :: rest) (FR n s τ ds) w := by
  have hi' : L[i]? = some (RowOf enc e 1 A c xs) := by rw [← getA_eq]; exact hi
  have hown := hs.row i hi
  have hf := hs.front i hi'
  obtain ⟨hu1, f, hf1, hf2, hf3, hf4⟩ := ty_info (hT _ _ ht)
  obtain ⟨hu2, fe, hfe, hfe2, hfe3, hfe4⟩ := ty_info (hT _ _ he)
  obtain ⟨hu3, _⟩ := ty_info (hT _ _ hut)
  rw [hu] at hu1
  rw [huu] at hu3
  obtain ⟨v', w', hrun, hown', hg, hat⟩ := run_appendZ (P := P) w W.heap.size t u ty e fe ku te.zero hu1 hu3 hfe hfe2 (by rw [hfe3, hsz]) hzc h1 (.slice A xs.length c) xs.length (xs.flatMap enc) hown m.toNat hlen (by rw [hfe4]; exact hby) hm hs.size
  obtain ⟨A', c', rfl, hs'⟩ := hf.rowTurn hown' hg hat
  have hrep : List.replicate m.toNat te.zero = (List.replicate m.toNat zz).flatMap enc := by
    generalize m.toNat = q
    induction q with
    | zero => rfl
    | succ q ih => rw [List.replicate_succ, List.replicate_succ, List.flatMap_cons, henc, ih]; rfl
  have hln : xs.length + m.toNat = (xs ++ List.replicate m.toNat zz).length := by simp
  rw [hrep, ← List.flatMap_append, hln] at hs'
  rw [hln, Int.toNat_of_nonneg h0] at hrun
  refine LW_run (v := .slice A' (xs ++ List.replicate m.toNat zz).length c') (w' := w') rfl (fun c e => by cases e) ?_ (by rw [put_FR]; exact k A' c' w' (Sat.back hi' hs'))
  show Sem.run P (do let d ← resolve (FR n s τ ds).eval { callee := .builtin .append, args := #[x, y], argTypes := #[t, u] } ty; invoke d.target d.args) w = _
  have e1 : (#[x, y] : Array Operand).map (FR n s τ ds).eval = #[.slice A xs.length c, .int .i64 m] := by simp [eval_of hx, eval_of hy]
  simp only [resolve, e1, Sem.run_bind, Sem.run_pure, Result.andThen, invoke, builtin, hrun]
end steps
end Go.Sl

/- Drawn regions: texts compared. -/
set_option linter.unusedVariables false
set_option linter.unusedSimpArgs false
namespace Go.Sl
open Go.RowKit
section
variable {r : Option Nat} {P : Program} {T : List (Nat × TI)} {l : List Oper} {eff : List Nat} {K : Act → World → Prop} {Cs : List (Nat × (World → Prop))} {plan : List Nat} {listed : Array Bool} {w : World} {n : Nat} {s : List (Nat × Value)} {τ : Nat → Value} {ds : List Deferred}
  {ty : TypeId} {ps : String} {af : Array Edge} {d i : Nat} {gd : Option (Nat × Bool)} {t yt : TypeId} {x y : Operand} {p q : ByteArray} {a b : List UInt8}
theorem DP_strNe (heff : eff.contains i = false) (hi : getA l i = some ⟨some d, .binOp .neq t x y yt, ty, ps, af, gd⟩) (hg : gdOK s n l gd) (hx : EVO n s x = some (.string p)) (hy : EVO n s y = some (.string q)) (hp : p.data.toList = a) (hq : q.data.toList = b) (ht : ¬ a = b → DP r P l eff K Cs plan (listed.setIfInBounds i true) (FR n ((d, .bool true) :: s) τ ds) w)
    (hf : a = b → DP r P l eff K Cs plan (listed.setIfInBounds i true) (FR n ((d, .bool false) :: s) τ ds) w) : DP r P l eff K Cs (i :: plan) listed (FR n s τ ds) w := by
  rw [toList_of hp] at hx
  rw [toList_of hq] at hy
  refine DP_cmp (p := ¬ (⟨a.toArray⟩ : ByteArray) = ⟨b.toArray⟩) heff hi hg ?_ (fun h => ht fun e => h (sv_inj.2 e)) (fun h => hf (sv_inj.1 (Decidable.not_not.1 h)))
  simp [evalCmp, hx, hy, intOf2, strOf2, cmpS]
theorem DP_strEq (heff : eff.contains i = false) (hi : getA l i = some ⟨some d, .binOp .eql t x y yt, ty, ps, af, gd⟩) (hg : gdOK s n l gd) (hx : EVO n s x = some (.string p)) (hy : EVO n s y = some (.string q)) (hp : p.data.toList = a) (hq : q.data.toList = b) (ht : a = b → DP r P l eff K Cs plan (listed.setIfInBounds i true) (FR n ((d, .bool true) :: s) τ ds) w)
    (hf : ¬ a = b → DP r P l eff K Cs plan (listed.setIfInBounds i true) (FR n ((d, .bool false) :: s) τ ds) w) : DP r P l eff K Cs (i :: plan) listed (FR n s τ ds) w := by
  rw [toList_of hp] at hx
  rw [toList_of hq] at hy
  refine DP_cmp (p := (⟨a.toArray⟩ : ByteArray) = ⟨b.toArray⟩) heff hi hg ?_ (fun h => ht (sv_inj.1 h)) (fun h => hf fun e => h (sv_inj.2 e))
  simp [evalCmp, hx, hy, intOf2, strOf2, cmpS]
theorem DP_strLt (heff : eff.contains i = false) (hi : getA l i = some ⟨some d, .binOp .lss t x y yt, ty, ps, af, gd⟩) (hg : gdOK s n l gd) (hx : EVO n s x = some (.string p)) (hy : EVO n s y = some (.string q)) (hp : p.data.toList = a) (hq : q.data.toList = b) (ht : a < b → DP r P l eff K Cs plan (listed.setIfInBounds i true) (FR n ((d, .bool true) :: s) τ ds) w)
    (hf : ¬ a < b → DP r P l eff K Cs plan (listed.setIfInBounds i true) (FR n ((d, .bool false) :: s) τ ds) w) : DP r P l eff K Cs (i :: plan) listed (FR n s τ ds) w := by
  rw [toList_of hp] at hx
  rw [toList_of hq] at hy
  refine DP_cmp (p := a < b) heff hi hg ?_ ht hf
  simp [evalCmp, hx, hy, intOf2, strOf2, cmpS, bytesLess_eq, ByteArray.toList_eq]
end
end Go.Sl
