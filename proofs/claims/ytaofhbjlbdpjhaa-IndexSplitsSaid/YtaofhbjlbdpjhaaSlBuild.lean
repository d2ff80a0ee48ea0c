/- Structs and slices that are written out. -/
import Derived.Test.YtaofhbjlbdpjhaaSlHeap
import Derived.Great.BuildSlice
set_option linter.unusedVariables false
set_option linter.unusedSimpArgs false
namespace Go.Sl
open Go.RowKit

def setL : Nat → Value → List Value → Option (List Value)
  | _, _, [] => none
  | 0, v, _ :: l => some (v :: l)
  | i + 1, v, x :: l => match setL i v l with
    | some l' => some (x :: l')
    | none => none
def setRun : Nat → List Value → List Value → Option (List Value)
  | _, [], l => some l
  | o, v :: vs, l => match setL o v l with
    | some l' => setRun (o + 1) vs l'
    | none => none
theorem setL_eq : ∀ {i : Nat} {v : Value} {l l' : List Value}, setL i v l = some l' → i < l.length ∧ l' = l.set i v
  | _, _, [], _, h => by simp [setL] at h
  | 0, v, x :: l, l', h => by cases h; simp
  | i + 1, v, x :: l, l', h => by
    simp only [setL] at h
    split at h
    · rename_i l1 hl
      cases h
      obtain ⟨h1, h2⟩ := setL_eq hl
      exact ⟨by simp; omega, by simp [h2]⟩
    · cases h
theorem setRun_eq : ∀ {vs : List Value} {o k : Nat} {l l' : List Value}, setRun (o + k) vs l = some l' → o + k + vs.length ≤ l.length ∨ vs = [] := fun {vs} => by
  induction vs with
  | nil => exact fun _ => .inr rfl
  | cons v vs ih =>
    intro o k l l' h
    refine .inl ?_
    simp only [setRun] at h
    split at h
    · rename_i l1 hl
      obtain ⟨h1, rfl⟩ := setL_eq hl
      rcases ih (o := o) (k := k + 1) h with h2 | rfl
      · simp at h2 ⊢; omega
      · simp; omega
    · cases h
theorem setRun_fold : ∀ {vs : List Value} {o k : Nat} {l l' : List Value}, setRun (o + k) vs l = some l' →
    (vs.zipIdx k).foldl (fun (cs : Array Value) (x : Value × Nat) => cs.setIfInBounds (o + x.2) x.1) l.toArray = l'.toArray := fun {vs} => by
  induction vs with
  | nil => intro o k l l' h; cases h; rfl
  | cons v vs ih =>
    intro o k l l' h
    simp only [setRun] at h
    split at h
    · rename_i l1 hl
      obtain ⟨h1, rfl⟩ := setL_eq hl
      have := ih (o := o) (k := k + 1) h
      simp only [List.zipIdx_cons, List.foldl_cons]
      rw [← this]
      congr 1
      simp
    · cases h
theorem setRun_len : ∀ {vs : List Value} {o : Nat} {l l' : List Value}, setRun o vs l = some l' → l'.length = l.length
  | [], _, _, _, h => by cases h; rfl
  | v :: vs, o, l, l', h => by
    simp only [setRun] at h
    split at h
    · rename_i l1 hl
      obtain ⟨_, rfl⟩ := setL_eq hl
      rw [setRun_len h, List.length_set]
    · cases h
def fillL (place : Nat → Option (Nat × Nat)) : List Value → List (Nat × Value) → Option (List Value)
  | cells, [] => some cells
  | cells, (i, v) :: rest => match place i with
    | some (off, size) => cond (Nat.beq (cellsOf v).length size) (match setRun off (cellsOf v) cells with
      | some c => fillL place c rest
      | none => none) none
    | none => none
theorem fillL_eq {place : Nat → Option (Nat × Nat)} (hpos : ∀ i o s, place i = some (o, s) → 0 < s) : ∀ {parts : List (Nat × Value)} {cells c : List Value}, fillL place cells parts = some c → Instr.fill place cells.toArray parts = some c.toArray := fun {parts} => by
  induction parts with
  | nil => intro cells c h; cases h; rfl
  | cons p rest ih =>
    obtain ⟨i, v⟩ := p
    intro cells c h
    simp only [fillL] at h
    split at h
    · rename_i off size hp
      cases hb : Nat.beq (cellsOf v).length size with
      | false => rw [hb] at h; cases h
      | true =>
        rw [hb] at h
        simp only [cond_true] at h
        split at h
        · rename_i c1 hc1
          have hsz : (cellsOf v).length = size := Nat.eq_of_beq_eq_true hb
          have hlen : off + (cellsOf v).length ≤ cells.length := by
            rcases setRun_eq (o := off) (k := 0) (by simpa using hc1) with h1 | h1
            · simpa using h1
            · rw [h1] at hsz; have := hpos _ _ _ hp; simp at hsz; omega
          have hf := setRun_fold (o := off) (k := 0) (l := cells) (l' := c1) (by simpa using hc1)
          have := ih h
          simp only [Instr.fill, hp, cellsOf_eq]
          rw [if_neg (by simp [hsz]; omega)]
          rw [← this]
          congr 1
          simpa using hf
        · cases h
    · cases h
def forceL : List Value → Option (List Value)
  | [] => some []
  | x :: l => match forceL l with
    | some l' => some (x :: l')
    | none => none
theorem forceL_eq : ∀ {l l' : List Value}, forceL l = some l' → l' = l
  | [], _, h => by cases h; rfl
  | x :: l, l', h => by
    simp only [forceL] at h
    split at h
    · rename_i l1 h1
      cases h; rw [forceL_eq h1]
    · cases h
def fillF (place : Nat → Option (Nat × Nat)) (cells : List Value) (parts : List (Nat × Value)) : Option (List Value) := match fillL place cells parts with
  | some c => forceL c
  | none => none
theorem fillF_eq {place : Nat → Option (Nat × Nat)} {cells c : List Value} {parts : List (Nat × Value)} (h : fillF place cells parts = some c) : fillL place cells parts = some c := by
  unfold fillF at h
  split at h
  · rename_i c1 h1; rw [h1, forceL_eq h]
  · cases h
def evalParts (n : Nat) (s : List (Nat × Value)) : List (Nat × Operand) → Option (List (Nat × Value))
  | [] => some []
  | (i, x) :: l => match EVO n s x, evalParts n s l with
    | some v, some vs => some ((i, v) :: vs)
    | _, _ => none
theorem evalParts_run {n : Nat} {s : List (Nat × Value)} {ρ : Operand → Value} (hρ : ∀ x v, EVO n s x = some v → ρ x = v) : ∀ {l : List (Nat × Operand)} {vs : List (Nat × Value)}, evalParts n s l = some vs → l.map (fun (i, x) => (i, ρ x)) = vs
  | [], vs, h => by cases h; rfl
  | (i, x) :: l, vs, h => by
    simp only [evalParts] at h
    cases hx : EVO n s x with
    | none => rw [hx] at h; simp at h
    | some v =>
      cases hl : evalParts n s l with
      | none => rw [hx, hl] at h; simp at h
      | some ws =>
        rw [hx, hl] at h; cases h
        rw [List.map_cons, evalParts_run hρ hl]
        show (i, ρ x) :: ws = _
        rw [hρ _ _ hx]
/-- The fields' places. -/
def fieldPl (T : List (Nat × TI)) : List Field → Option (List (Nat × Nat))
  | [] => some []
  | f :: l => match lookT T f.type, fieldPl T l with
    | some ti, some ps => cond (Nat.beq ti.size 0) none (some ((f.offset, ti.size) :: ps))
    | _, _ => none
theorem fieldPl_run {P : Program} {T : List (Nat × TI)} (hT : TyOK P T) : ∀ {l : List Field} {ps : List (Nat × Nat)}, fieldPl T l = some ps → (∀ w : World, (l.mapM (m := Sem) fun f => do pure (f.offset, ← sizeOf f.type)).run P w = .ok ps w) ∧ ∀ i o s, getA ps i = some (o, s) → 0 < s
  | [], ps, h => by cases h; exact ⟨fun w => rfl, fun i o s h => by simp [getA] at h⟩
  | f :: l, ps, h => by
    simp only [fieldPl] at h
    split at h
    · rename_i ti ps' ht hl
      cases hz : Nat.beq ti.size 0 with
      | true => rw [hz] at h; cases h
      | false =>
        rw [hz] at h; cases h
        obtain ⟨h1, h2⟩ := fieldPl_run hT hl
        refine ⟨fun w => ?_, fun i o s hi => ?_⟩
        · have := ty_sizeOf (hT _ _ ht) w
          rw [List.mapM_cons]
          simp only [Sem.run_bind, this, Result.andThen, Sem.run_pure, h1]
        · cases i with
          | zero => simp [getA] at hi; have : ti.size ≠ 0 := fun e => by rw [e] at hz; cases hz
                    omega
          | succ i => exact h2 i o s (by simpa [getA] using hi)
    · cases h
def zeroL : Value → Option (List Value)
  | .agg cs => some cs.toList
  | _ => none
section
variable {r : Option Nat} {P : Program} {T : List (Nat × TI)} {ops : Array Oper} {Q : Exit → Act → World → Prop} {rest : List Oper} {n : Nat} {s : List (Nat × Value)} {τ : Nat → Value} {ds : List Deferred} {w : World}
  {ty : TypeId} {ps : String} {af : Array Edge} {d : Nat} {W : World} {L : List HProp}
theorem run_build {t : TypeId} {ti : TI} {fields : Array Field} {pl : List (Nat × Nat)} {parts : Array (Nat × Value)} {cs : List Value} (hT : TyOK P T) (ht : lookT T t = some ti) (hu : ti.u = .struct fields) (hz : ∃ zs, ti.zero = .agg zs ∧ fillL (getA pl) zs.toList parts.toList = some cs) (hp : fieldPl T fields.toList = some pl) :
    (Instr.build t parts).run P w = .ok (.agg cs.toArray) w := by
  obtain ⟨zs, hz, hf⟩ := hz
  have h1 := ty_zero (hT _ _ ht) w
  have h2 := ty_under (hT _ _ ht) w
  rw [hu] at h2
  obtain ⟨h3, hpos⟩ := fieldPl_run hT hp
  have hfill := fillL_eq hpos hf
  have hm : (fields.mapM (m := Sem) fun f => do pure (f.offset, ← sizeOf f.type)).run P w = .ok pl.toArray w := by
    have hff : fields = fields.toList.toArray := by simp
    rw [hff, List.mapM_toArray]
    have := h3 w
    simp only [Sem.run_map, this]
    rfl
  simp only [Instr.build, Sem.run_bind, h1, h2, Result.andThen, hm, hz, Value.cells]
  have e : (fun i => pl.toArray[i]?) = getA pl := by funext i; rw [getA_eq]; simp
  rw [e]
  have hzz : zs.toList.toArray = zs := by simp
  rw [hzz] at hfill
  rw [hfill]; rfl
theorem LW_build {t : TypeId} {ti : TI} {fields : Array Field} {pl : List (Nat × Nat)} {parts : Array (Nat × Operand)} {pv : List (Nat × Value)} {zs : List Value} {cs : List Value} (hT : TyOK P T) (ht : lookT T t = some ti) (hu : ti.u = .struct fields) (hp : fieldPl T fields.toList = some pl)
    (he : evalParts n s parts.toList = some pv) (hz : zeroL ti.zero = some zs) (hf0 : fillF (getA pl) zs pv = some cs) (k : LW r P ops Q rest (FR n ((d, .agg cs.toArray) :: s) τ ds) w) :
    LW r P ops Q (⟨some d, .build t parts, ty, ps, af, none⟩ :: rest) (FR n s τ ds) w := by
  have hf := fillF_eq hf0
  refine LW_run (v := .agg cs.toArray) rfl (fun c e => by cases e) ?_ (by rw [put_FR]; exact k)
  show Sem.run P (do let v ← Instr.build t (parts.map fun (i, x) => (i, (FR n s τ ds).eval x)); pure (Next.value v)) w = _
  have e1 := evalParts_run (ρ := (FR n s τ ds).eval) (fun x v => eval_of) he
  have hz' : ∃ zs', ti.zero = .agg zs' ∧ zs'.toList = zs := by
    cases h : ti.zero with
    | agg c => rw [h] at hz; cases hz; exact ⟨c, rfl, rfl⟩
    | _ => rw [h] at hz; cases hz
  obtain ⟨zs', hz1, hz2⟩ := hz'
  rw [Sem.run_bind, run_build (cs := cs) hT ht hu ⟨zs', hz1, by rw [hz2]; simpa [e1] using hf⟩ hp]; rfl
def repL : Nat → List Value → List Value
  | 0, _ => []
  | k + 1, zs => zs ++ repL k zs
theorem repL_len (k : Nat) (zs : List Value) : (repL k zs).length = k * zs.length := by
  induction k with
  | zero => simp [repL]
  | succ k ih => simp [repL, ih, Nat.succ_mul]; omega
theorem repL_get : ∀ (k : Nat) (zs : List Value) (j : Nat), j < k * zs.length → (repL k zs)[j]? = some (zs[j % zs.length]!)
  | 0, zs, j, h => by simp at h
  | k + 1, zs, j, h => by
    have hpos : 0 < zs.length := by
      rcases Nat.eq_zero_or_pos zs.length with e | e
      · rw [e] at h; simp at h
      · exact e
    simp only [repL]
    by_cases hj : j < zs.length
    · rw [List.getElem?_append_left hj, Nat.mod_eq_of_lt hj, List.getElem?_eq_getElem hj]
      simp [hj]
    · rw [List.getElem?_append_right (by omega), repL_get k zs (j - zs.length) (by rw [Nat.add_mul, Nat.one_mul] at h; omega)]
      rw [Nat.mod_eq_sub_mod (a := j) (by omega)]
theorem run_buildSlice' {t e : TypeId} {ti te : TI} {len : Nat} {parts : Array (Nat × Value)} {zs cs : List Value} (hT : TyOK P T) (ht : lookT T t = some ti) (hu : ti.u = .slice e) (he : lookT T e = some te) (hsz : Nat.ble 1 te.size = true) (hz : te.zero.cells.toList = zs) (hzl : zs.length = te.size) (hle : Nat.ble (len * te.size) 16777216 = true)
    (hf : fillL (fun i => some (i * te.size, te.size)) (repL len zs) parts.toList = some cs) :
    (Instr.buildSlice t len parts).run P w = .ok (.slice (some ⟨w.heap.size, 0, none⟩) len len) (w.alloc (.cells cs.toArray e (0, 0))) := by
  have h1 := ty_under (hT _ _ ht) w
  rw [hu] at h1
  have h2 := ty_sizeOf (hT _ _ he) w
  have h3 := ty_zero (hT _ _ he) w
  have hs1 : 1 ≤ te.size := Nat.le_of_ble_eq_true hsz
  have hle' : len * te.size ≤ 16777216 := Nat.le_of_ble_eq_true hle
  have hfill := fillL_eq (fun i o s h => by cases h; exact hs1) hf
  have hz2 : te.zero.cells = zs.toArray := by rw [← hz]
  have hinit : (Array.range (len * te.size)).map (fun x => zs.toArray[x % zs.toArray.size]!) = (repL len zs).toArray := by
    apply Array.ext
    · simp [repL_len, hzl]
    · intro i h1 h2
      have hi : i < len * zs.length := by simp at h1; rw [hzl]; exact h1
      have := repL_get len zs i hi
      rw [List.getElem?_eq_getElem (by rw [repL_len]; exact hi)] at this
      simp only [Array.getElem_map, Array.getElem_range, List.getElem_toArray]
      have e2 := Option.some.inj this
      rw [e2]
      simp
  simp only [Instr.buildSlice, Sem.run_bind, h1, h2, Result.andThen]
  rw [if_neg (by omega)]
  by_cases h0 : len * te.size = 0
  · have hl0 : len = 0 := by
      rcases Nat.mul_eq_zero.1 h0 with h | h
      · exact h
      · omega
    subst hl0
    simp only [repL] at hfill
    simp [hfill, newRow, newObj, Sem.run, go_sem]
  · simp only [h0, if_false, Sem.run_bind, h3, Result.andThen, Sem.run_pure, hz2, hinit, hfill]
    simp only [newRow, newObj, Sem.run, Sem.run_bind, Sem.run_pure, Result.andThen]
    rfl
theorem LW_buildSlice {t e : TypeId} {ti te : TI} {len : Nat} {parts : Array (Nat × Operand)} {pv : List (Nat × Value)} {zs cs : List Value} (hT : TyOK P T) (hs : Sat W w L) (ht : lookT T t = some ti) (hu : ti.u = .slice e) (he : lookT T e = some te) (hz : cellsOf te.zero = zs) (hc : (Nat.beq zs.length te.size && Nat.ble 1 te.size && Nat.ble (len * te.size) 16777216) = true)
    (hp : evalParts n s parts.toList = some pv) (hf0 : fillF (fun i => some (i * te.size, te.size)) (repL len zs) pv = some cs)
    (k : ∀ b w', Sat W w' (Cl b cs e :: L) → LW r P ops Q rest (FR n ((d, .slice (some ⟨b, 0, none⟩) len len) :: s) τ ds) w') :
    LW r P ops Q (⟨some d, .buildSlice t len parts, ty, ps, af, none⟩ :: rest) (FR n s τ ds) w := by
  have hf := fillF_eq hf0
  simp only [Bool.and_eq_true] at hc
  have e1 := evalParts_run (ρ := (FR n s τ ds).eval) (fun x v => eval_of) hp
  have hz' : te.zero.cells.toList = zs := by rw [cellsOf_eq, ← hz]
  refine LW_run (v := .slice (some ⟨w.heap.size, 0, none⟩) len len) (w' := w.alloc (.cells cs.toArray e (0, 0))) rfl (fun c e => by cases e) ?_ (by rw [put_FR]; exact k _ _ (hs.alloc _))
  show Sem.run P (do let v ← Instr.buildSlice t len (parts.map fun (i, x) => (i, (FR n s τ ds).eval x)); pure (Next.value v)) w = _
  rw [Sem.run_bind, run_buildSlice' (cs := cs) hT ht hu he hc.1.2 hz' (Nat.eq_of_beq_eq_true hc.1.1) hc.2 (by simpa [e1] using hf)]; rfl
end
end Go.Sl
