/- The walk's rules at a map's operations. -/
import Derived.Test.YtaofhbjlbdpjhaaSlMap
set_option linter.unusedVariables false
set_option linter.unusedSimpArgs false
namespace Go.Sl
open Go.RowKit

theorem Sat.putObj {W w : World} {L : List HProp} (h : Sat W w L) (i : Nat) {b : Nat} {o : Obj} (hi : L[i]? = some (Bk b o)) (o' : Obj) : Sat W (w.putObj b o') (L.set i (Bk b o')) :=
  h.turn i hi o' (grownBy_putObj' w b o') (World.putObj_heap_same (h.lt i hi))
section
variable {κ : Type} [DecidableEq κ] (E : KeyE κ)
variable {r : Option Nat} {P : Program} {T : List (Nat × TI)} {ops : Array Oper} {Q : Exit → Act → World → Prop} {rest : List Oper} {n : Nat} {s : List (Nat × Value)} {τ : Nat → Value} {ds : List Deferred} {w : World}
  {ty : TypeId} {ps : String} {af : Array Edge} {d : Nat} {W : World} {L : List HProp}
  {l : List Oper} {eff : List Nat} {K : Act → World → Prop} {Cs : List (Nat × (World → Prop))} {plan : List Nat} {listed : Array Bool} {gd : Option (Nat × Bool)}
  {t kt et : TypeId} {ti tk te : TI} {b ck : Nat} {kvs : List (κ × Value × Nat)} {x y z : Operand}
theorem LW_lookup (i : Nat) {k : κ} {v : Value} (hs : Sat W w L) (hT : TyOK P T) (hx : EVO n s x = some (.map (some b))) (hy : EVO n s y = some (E.val k)) (ht : lookT T t = some ti) (hu : ti.u = .map kt et) (hk : lookT T kt = some tk) (hku : tk.u = E.desc) (he : lookT T et = some te) (hi : getA L i = some (Mp E b kvs ck)) (hv : (findV kvs k).getD te.zero = v)
    (c : LW r P ops Q rest (FR n ((d, v) :: s) τ ds) w) : LW r P ops Q (⟨some d, .lookup t x y false, ty, ps, af, none⟩ :: rest) (FR n s τ ds) w := by
  rw [getA_eq] at hi
  refine LW_run (v := v) rfl (fun c e => by cases e) ?_ (by rw [put_FR]; exact c)
  show Sem.run P (do let v ← Instr.lookup t ((FR n s τ ds).eval x) ((FR n s τ ds).eval y) false; pure (Next.value v)) w = _
  rw [eval_of hx, eval_of hy, Sem.run_bind, run_lookup E (hT _ _ ht) hu (hT _ _ hk) hku (hT _ _ he) (hs.at i hi).2, hv]; rfl
theorem LW_lookupOk (i : Nat) {k : κ} {v : Value} (hs : Sat W w L) (hT : TyOK P T) (hx : EVO n s x = some (.map (some b))) (hy : EVO n s y = some (E.val k)) (ht : lookT T t = some ti) (hu : ti.u = .map kt et) (hk : lookT T kt = some tk) (hku : tk.u = E.desc) (he : lookT T et = some te) (hi : getA L i = some (Mp E b kvs ck)) (hv : (findV kvs k).getD te.zero = v) {q : Bool} (hq : (findV kvs k).isSome = q)
    (c : LW r P ops Q rest (FR n ((d, .tuple #[v, .bool q]) :: s) τ ds) w) : LW r P ops Q (⟨some d, .lookup t x y true, ty, ps, af, none⟩ :: rest) (FR n s τ ds) w := by
  rw [getA_eq] at hi
  refine LW_run (v := .tuple #[v, .bool q]) rfl (fun c e => by cases e) ?_ (by rw [put_FR]; exact c)
  show Sem.run P (do let v ← Instr.lookup t ((FR n s τ ds).eval x) ((FR n s τ ds).eval y) true; pure (Next.value v)) w = _
  rw [eval_of hx, eval_of hy, Sem.run_bind, run_lookupOk E (hT _ _ ht) hu (hT _ _ hk) hku (hT _ _ he) (hs.at i hi).2, hv, hq]; rfl
theorem DP_lookup (j : Nat) {i : Nat} {k : κ} {v : Value} (hs : Sat W w L) (hT : TyOK P T) (heff : eff.contains i = false) (ho : getA l i = some ⟨some d, .lookup t x y false, ty, ps, af, gd⟩) (hg : gdOK s n l gd) (hx : EVO n s x = some (.map (some b))) (hy : EVO n s y = some (E.val k)) (ht : lookT T t = some ti) (hu : ti.u = .map kt et) (hk : lookT T kt = some tk) (hku : tk.u = E.desc) (he : lookT T et = some te) (hj : getA L j = some (Mp E b kvs ck)) (hv : (findV kvs k).getD te.zero = v)
    (hI : Inv l eff Cs listed w) (c : DP r P l eff K ((i, fun w' => w'.heap[b]? = some (.map (ents E kvs).toArray ck)) :: Cs) plan (listed.setIfInBounds i true) (FR n ((d, v) :: s) τ ds) w) : DP r P l eff K Cs (i :: plan) listed (FR n s τ ds) w := by
  rw [getA_eq] at hj
  refine DP_yield (v := v) _ heff ho (YC.mkD hg fun w' hw' => ?_) (hs.at j hj).2 hI (by rw [put_FR]; exact c)
  show Sem.run P (do let v ← Instr.lookup t ((FR n s τ ds).eval x) ((FR n s τ ds).eval y) false; pure (Next.value v)) w' = _
  rw [eval_of hx, eval_of hy, Sem.run_bind, run_lookup E (hT _ _ ht) hu (hT _ _ hk) hku (hT _ _ he) hw', hv]; rfl
theorem Inv.keepM (j : Nat) {i : Nat} (hs : Sat W w L) (hj : getA L j = some (Mp E b kvs ck)) (k : Inv l eff Cs listed w) : Inv l eff ((i, fun w' => w'.heap[b]? = some (.map (ents E kvs).toArray ck)) :: Cs) listed w := by
  rw [getA_eq] at hj
  exact Inv.keep (hs.at j hj).2 k
theorem LW_mapUpdate (i : Nat) {k : κ} {v : Value} (hs : Sat W w L) (hT : TyOK P T) (hx : EVO n s x = some (.map (some b))) (hy : EVO n s y = some (E.val k)) (hz : EVO n s z = some v) (ht : lookT T t = some ti) (hu : ti.u = .map kt et) (hk : lookT T kt = some tk) (hku : tk.u = E.desc) (hi : getA L i = some (Mp E b kvs ck))
    (c : ∀ w', Sat W w' (L.set i (Mp E b (putV kvs ck k v) (putCk kvs ck k))) → LW r P ops Q rest (FR n s τ ds) w') : LW r P ops Q (⟨none, .mapUpdate t x y z, ty, ps, af, none⟩ :: rest) (FR n s τ ds) w := by
  rw [getA_eq] at hi
  refine LW_runSkip rfl (fun c e => by cases e) ?_ (c _ (hs.putObj i hi _))
  show Sem.run P (do Instr.mapUpdate t ((FR n s τ ds).eval x) ((FR n s τ ds).eval y) ((FR n s τ ds).eval z); pure Next.skip) w = _
  rw [eval_of hx, eval_of hy, eval_of hz, Sem.run_bind, run_mapUpdate E (hT _ _ ht) hu (hT _ _ hk) hku (hs.at i hi).2]; rfl
theorem LW_delete (i : Nat) {k : κ} {t2 : TypeId} {xs : Array Operand} (hs : Sat W w L) (hT : TyOK P T) (he : evalL n s xs.toList = some [.map (some b), E.val k]) (ht : lookT T t = some ti) (hu : ti.u = .map kt et) (hk : lookT T kt = some tk) (hku : tk.u = E.desc) (hi : getA L i = some (Mp E b kvs ck))
    (c : ∀ w', Sat W w' (L.set i (Mp E b (delV kvs k) ck)) → LW r P ops Q rest (FR n s τ ds) w') : LW r P ops Q (⟨none, .call { callee := .builtin .delete, args := xs, argTypes := #[t, t2] }, ty, ps, af, none⟩ :: rest) (FR n s τ ds) w := by
  rw [getA_eq] at hi
  refine LW_run (v := .tuple #[]) rfl (fun c e => by cases e) ?_ (c _ (hs.putObj i hi _))
  show Sem.run P (do let d ← resolve (FR n s τ ds).eval { callee := .builtin .delete, args := xs, argTypes := #[t, t2] } ty; invoke d.target d.args) w = _
  have e1 := evalA_run (ρ := (FR n s τ ds).eval) (fun x v => eval_of) he
  simp only [resolve, e1, Sem.run_bind, Sem.run_pure, Result.andThen, invoke, builtin, run_delete E (hT _ _ ht) hu (hT _ _ hk) hku (hs.at i hi).2]
theorem LW_lenMap (i : Nat) {xs : Array Operand} (hs : Sat W w L) (hT : TyOK P T) (he : evalL n s xs.toList = some [.map (some b)]) (ht : lookT T t = some ti) (hu : ti.u = .map kt et) (hi : getA L i = some (Mp E b kvs ck))
    (c : LW r P ops Q rest (FR n ((d, .int .i64 (kvs.length : Int)) :: s) τ ds) w) : LW r P ops Q (⟨some d, .call { callee := .builtin .len, args := xs, argTypes := #[t] }, ty, ps, af, none⟩ :: rest) (FR n s τ ds) w := by
  rw [getA_eq] at hi
  refine LW_run (v := .int .i64 (kvs.length : Int)) rfl (fun c e => by cases e) ?_ (by rw [put_FR]; exact c)
  show Sem.run P (do let d ← resolve (FR n s τ ds).eval { callee := .builtin .len, args := xs, argTypes := #[t] } ty; invoke d.target d.args) w = _
  have e1 := evalA_run (ρ := (FR n s τ ds).eval) (fun x v => eval_of) he
  have h1 := ty_under (hT _ _ ht) w
  rw [hu] at h1
  simp only [resolve, e1, Sem.run_bind, Sem.run_pure, Result.andThen, invoke, builtin, Builtin.len_]
  simp [Sem.run_bind, h1, Result.andThen, run_getMap E (hs.at i hi).2, goInt, ents]
/- A range over the map. -/
def stamps (vs : List (κ × Value × Nat)) : Array Nat := (vs.map (·.2.2)).toArray
abbrev It (r b ck : Nat) (vs : List (κ × Value × Nat)) : HProp := Bk r (.mapIter (some b) ck (stamps vs) ck)
theorem LW_range (i : Nat) (hs : Sat W w L) (hT : TyOK P T) (hx : EVO n s x = some (.map (some b))) (ht : lookT T t = some ti) (hu : ti.u = .map kt et) (hi : getA L i = some (Mp E b kvs ck))
    (c : ∀ q w', Sat W w' (It q b ck ([] : List (κ × Value × Nat)) :: L) → LW r P ops Q rest (FR n ((d, .pointer (some ⟨q, 0, none⟩)) :: s) τ ds) w') : LW r P ops Q (⟨some d, .range t x, ty, ps, af, none⟩ :: rest) (FR n s τ ds) w := by
  rw [getA_eq] at hi
  refine LW_run (v := .pointer (some ⟨w.heap.size, 0, none⟩)) (w' := w.alloc (.mapIter (some b) ck #[] ck)) rfl (fun c e => by cases e) ?_ (by rw [put_FR]; exact c _ _ (hs.alloc _))
  show Sem.run P (do let v ← Instr.range t ((FR n s τ ds).eval x); pure (Next.value v)) w = _
  have h1 := ty_under (hT _ _ ht) w
  rw [hu] at h1
  rw [eval_of hx]
  simp only [Instr.range, Sem.run_bind, h1, Result.andThen, run_getMap E (hs.at i hi).2, Sem.run_pure, newObj, Sem.run]
  rfl
theorem run_next {q : Nat} {vs : List (κ × Value × Nat)} (hb : w.heap[b]? = some (.map (ents E kvs).toArray ck)) (hq : w.heap[q]? = some (.mapIter (some b) ck (stamps vs) ck)) (hborn : ∀ p ∈ kvs, p.2.2 < ck) (ty : TypeId) :
    ((∀ p ∈ kvs, p.2.2 ∈ vs.map (·.2.2)) ∧ (Instr.next (.pointer (some ⟨q, 0, none⟩)) false ty).run P w = .ok (.tuple #[.bool false]) w) ∨
    ∃ p w', p ∈ kvs ∧ p.2.2 ∉ vs.map (·.2.2) ∧ (w' = w ∨ w' = w.drew) ∧ (Instr.next (.pointer (some ⟨q, 0, none⟩)) false ty).run P w = .ok (.tuple #[.bool true, E.val p.1, p.2.1]) (w'.putObj q (.mapIter (some b) ck (stamps (vs ++ [p])) ck)) := by
  have hgm := run_getMap (P := P) E hb
  have hgi : (getObj q).run P w = .ok (.mapIter (some b) ck (stamps vs) ck) w := by simp [getObj, Sem.run, hq]
  have hchk : (!(stamps vs).isEmpty && !(ents E kvs).toArray.isEmpty && (ents E kvs).toArray.all fun e => decide (e.born ≥ ck)) = false := by
    cases hk : kvs with
    | nil => simp [ents]
    | cons p rest =>
      have := hborn p (by rw [hk]; exact List.mem_cons_self)
      simp [ents]
      intro _ h; omega
  obtain ⟨lf, hlf⟩ : ∃ lf, lf = kvs.filter fun p => !(vs.map (·.2.2)).contains p.2.2 := ⟨_, rfl⟩
  have hleft : ((ents E kvs).toArray.filter fun e => !(stamps vs).contains e.born) = (ents E lf).toArray := by
    rw [hlf, List.filter_toArray]; congr 1
    simp only [ents, List.filter_map]
    congr 1
    congr 1
    funext p
    simp [stamps]
  have hbl : ∀ p ∈ lf, p.2.2 < ck := fun p hp => hborn p (by rw [hlf] at hp; exact (List.mem_filter.1 hp).1)
  have hold : ((ents E lf).toArray.filter fun e => decide (e.born < ck)) = (ents E lf).toArray := by
    rw [List.filter_toArray]; congr 1
    rw [List.filter_eq_self]
    intro e he
    simp only [ents, List.mem_map] at he
    obtain ⟨p, hp, rfl⟩ := he
    simpa using hbl p hp
  have hnew : ((ents E lf).toArray.filter fun e => decide (e.born ≥ ck)) = #[] := by
    rw [List.filter_toArray]; congr 1
    rw [List.filter_eq_nil_iff]
    intro e he
    simp only [ents, List.mem_map] at he
    obtain ⟨p, hp, rfl⟩ := he
    have := hbl p hp
    simp; omega
  cases hl : lf with
  | nil =>
    left
    refine ⟨fun p hp => ?_, ?_⟩
    · apply Classical.byContradiction
      intro hn
      have : p ∈ lf := by rw [hlf]; exact List.mem_filter.2 ⟨hp, by simpa using hn⟩
      rw [hl] at this; cases this
    · simp only [Instr.next, Sem.run_bind, hgi, Result.andThen, hgm, hchk, hleft, hold, hnew, hl]
      simp [ents, choose, Sem.run, Question.forced, Result.andThen, Sem.run_bind]
  | cons p0 rest0 =>
    right
    have hpos : 0 < lf.length := by rw [hl]; simp
    have hne : (ents E lf).toArray.isEmpty = false := by simp [ents, hl]
    have key : ∀ (k : Nat) (hk : k < lf.length), ((#[] : Array (Option MapEntry)) ++ ((ents E lf).toArray ++ #[]).map some)[k]? = some (some ⟨E.val lf[k].1, lf[k].2.1, lf[k].2.2⟩) := by
      intro k hk
      simp [ents, hk]
    have hsz : ((#[] : Array (Option MapEntry)) ++ ((ents E lf).toArray ++ #[]).map some).size = lf.length := by simp [ents]
    have hmem : ∀ (k : Nat) (hk : k < lf.length), lf[k] ∈ kvs ∧ lf[k].2.2 ∉ vs.map (·.2.2) := by
      intro k hk
      have h1 : lf[k] ∈ lf := List.getElem_mem hk
      have hsub : ∀ p ∈ lf, p ∈ kvs ∧ p.2.2 ∉ vs.map (·.2.2) := fun p hp => by
        rw [hlf] at hp
        have h2 := List.mem_filter.1 hp
        exact ⟨h2.1, by simpa using h2.2⟩
      exact hsub _ h1
    have hpush : ∀ p : κ × Value × Nat, (stamps vs).push p.2.2 = stamps (vs ++ [p]) := fun p => by simp [stamps]
    have hqlt := block_lt hq
    by_cases hone : lf.length ≤ 1
    · refine ⟨lf[0], w, (hmem 0 hpos).1, (hmem 0 hpos).2, .inl rfl, ?_⟩
      simp only [Instr.next, Sem.run_bind, hgi, Result.andThen, hgm, hchk, hleft, hold, hnew, hne, Bool.false_eq_true, if_false, hsz]
      simp only [choose, Sem.run, Question.forced, hone, decide_true, if_true]
      rw [key 0 hpos]
      simp only [setObj, Sem.run_bind, Sem.run, hq, Result.andThen, hpush]
      rfl
    · obtain ⟨k, hk⟩ : ∃ k, k = w.tape w.drawn (.mapNext lf.length) % lf.length := ⟨_, rfl⟩
      have hklt : k < lf.length := by rw [hk]; exact Nat.mod_lt _ hpos
      refine ⟨lf[k], w.drew, (hmem k hklt).1, (hmem k hklt).2, .inr rfl, ?_⟩
      simp only [Instr.next, Sem.run_bind, hgi, Result.andThen, hgm, hchk, hleft, hold, hnew, hne, Bool.false_eq_true, if_false, hsz]
      simp only [choose, Sem.run, Question.forced, hone, decide_false, Bool.false_eq_true, if_false, Question.cut]
      rw [← hk, key k hklt]
      simp only [setObj, Sem.run_bind, Sem.run, hq, Result.andThen, hpush]
      rfl
theorem LW_next (i j : Nat) {q : Nat} {vs : List (κ × Value × Nat)} (hs : Sat W w L) (hx : EVO n s x = some (.pointer (some ⟨q, 0, none⟩))) (hi : getA L i = some (Mp E b kvs ck)) (hj : getA L j = some (It q b ck vs)) (hborn : ∀ p ∈ kvs, p.2.2 < ck)
    (cend : (∀ p ∈ kvs, p.2.2 ∈ vs.map (·.2.2)) → LW r P ops Q rest (FR n ((d, .tuple #[.bool false]) :: s) τ ds) w)
    (cgo : ∀ p w', p ∈ kvs → p.2.2 ∉ vs.map (·.2.2) → Sat W w' (L.set j (It q b ck (vs ++ [p]))) → LW r P ops Q rest (FR n ((d, .tuple #[.bool true, E.val p.1, p.2.1]) :: s) τ ds) w') : LW r P ops Q (⟨some d, .next x false, ty, ps, af, none⟩ :: rest) (FR n s τ ds) w := by
  rw [getA_eq] at hi hj
  rcases run_next (P := P) E (hs.at i hi).2 (hs.at j hj).2 hborn ty with ⟨h1, h2⟩ | ⟨p, w', h1, h2, h3, h4⟩
  · refine LW_run rfl (fun c e => by cases e) ?_ (by rw [put_FR]; exact cend h1)
    show Sem.run P (do let v ← Instr.next ((FR n s τ ds).eval x) false ty; pure (Next.value v)) w = _
    rw [eval_of hx, Sem.run_bind, h2]; rfl
  · have hs' : Sat W w' L := by
      rcases h3 with rfl | rfl
      · exact hs
      · exact hs.drew
    refine LW_run rfl (fun c e => by cases e) ?_ (by rw [put_FR]; exact cgo p _ h1 h2 (hs'.putObj j hj _))
    show Sem.run P (do let v ← Instr.next ((FR n s τ ds).eval x) false ty; pure (Next.value v)) w = _
    rw [eval_of hx, Sem.run_bind, h4]; rfl
omit [DecidableEq κ] in
theorem find_born [DecidableEq κ] (E : KeyE κ) {p : κ × Value × Nat} : ∀ {kvs : List (κ × Value × Nat)}, p ∈ kvs → (kvs.map (·.2.2)).Nodup → (ents E kvs).find? (fun e => e.born == p.2.2) = some ⟨E.val p.1, p.2.1, p.2.2⟩
  | [], hp, _ => by cases hp
  | u :: kvs, hp, hnd => by
    simp only [List.map_cons, List.nodup_cons] at hnd
    rcases List.mem_cons.1 hp with rfl | hp'
    · simp [ents]
    · have hne : u.2.2 ≠ p.2.2 := fun e => hnd.1 (by rw [e]; exact List.mem_map_of_mem hp')
      have ih := find_born E hp' hnd.2
      simp only [ents, List.map_cons]
      rw [List.find?_cons_of_neg (by simpa using hne)]
      exact ih
theorem LW_entry (i j : Nat) {q : Nat} {vs : List (κ × Value × Nat)} {p : κ × Value × Nat} (hs : Sat W w L) (hx : EVO n s x = some (.pointer (some ⟨q, 0, none⟩))) (hi : getA L i = some (Mp E b kvs ck)) (hj : getA L j = some (It q b ck (vs ++ [p]))) (hp : p ∈ kvs) (hnd : (kvs.map (·.2.2)).Nodup)
    (c : LW r P ops Q rest (FR n ((d, .tuple #[E.val p.1, p.2.1]) :: s) τ ds) w) : LW r P ops Q (⟨some d, .entry x, ty, ps, af, none⟩ :: rest) (FR n s τ ds) w := by
  rw [getA_eq] at hi hj
  refine LW_run (v := .tuple #[E.val p.1, p.2.1]) rfl (fun c e => by cases e) ?_ (by rw [put_FR]; exact c)
  show Sem.run P (do let v ← Instr.entry ((FR n s τ ds).eval x); pure (Next.value v)) w = _
  have hgm := run_getMap (P := P) E (hs.at i hi).2
  have hgi : (getObj q).run P w = .ok (.mapIter (some b) ck (stamps (vs ++ [p])) ck) w := by simp [getObj, Sem.run, (hs.at j hj).2]
  have hback : (stamps (vs ++ [p])).back? = some p.2.2 := by simp [stamps]
  have hfind : (ents E kvs).toArray.find? (fun e => e.born == p.2.2) = some ⟨E.val p.1, p.2.1, p.2.2⟩ := by
    rw [List.find?_toArray]
    exact find_born E hp hnd
  rw [eval_of hx]
  simp only [Instr.entry, Sem.run_bind, hgi, Result.andThen, hback, hgm, hfind]
  simp
end
end Go.Sl
