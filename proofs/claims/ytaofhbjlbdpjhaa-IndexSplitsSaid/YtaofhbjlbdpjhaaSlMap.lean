/- Maps keyed by integers (and by strings), in blocks of one's own. -/
import Derived.Test.YtaofhbjlbdpjhaaSlEq
set_option linter.unusedVariables false
set_option linter.unusedSimpArgs false
namespace Go.Sl
open Go.RowKit

/-- What a type's key is: its value and that keys of it are told apart at once. -/
structure KeyE (κ : Type) [DecidableEq κ] where
  val : κ → Value
  desc : TypeDesc
  now : ∀ a b, Instr.sameNow desc (val a) (val b) = some (decide (a = b))
  bits : ∀ a, Instr.sameBits 10000 (val a) (val a) = true
  plain : ∀ (P : Program) (t : TypeId) (e : Bool) (w : World) (a : κ), (underlying t).run P w = .ok desc w → (Instr.checkKey e 10000 t (val a)).run P w = .ok () w
def keyI : KeyE Int where
  val a := .int .i64 a
  desc := .int .i64
  now a b := by
    simp only [Instr.sameNow, if_true]
    congr 1
  bits a := by simp [Instr.sameBits]
  plain P t e w a h := by
    show Sem.run P (Instr.checkKey e (9999 + 1) t _) w = _
    unfold Instr.checkKey
    simp only [Sem.run_bind, h, Result.andThen]
    rfl
def keyS : KeyE ByteArray where
  val a := .string a
  desc := .string
  now a b := by
    simp only [Instr.sameNow]
    congr 1
    rw [beq_toListBytes, toList_eq]
  bits a := by simp [Instr.sameBits, beq_toListBytes]
  plain P t e w a h := by
    show Sem.run P (Instr.checkKey e (9999 + 1) t _) w = _
    unfold Instr.checkKey
    simp only [Sem.run_bind, h, Result.andThen]
    rfl

section
variable {κ : Type} [DecidableEq κ] (E : KeyE κ)
/-- The entries of a map: key, value, stamp. -/
def ents (kvs : List (κ × Value × Nat)) : List MapEntry := kvs.map fun p => ⟨E.val p.1, p.2.1, p.2.2⟩
abbrev Mp (b : Nat) (kvs : List (κ × Value × Nat)) (ck : Nat) : HProp := Bk b (.map (ents E kvs).toArray ck)
def idxOf (kvs : List (κ × Value × Nat)) (k : κ) : Nat := kvs.findIdx fun p => decide (k = p.1)
def findV (kvs : List (κ × Value × Nat)) (k : κ) : Option Value := (kvs.find? fun p => decide (k = p.1)).map (·.2.1)
def putV (kvs : List (κ × Value × Nat)) (ck : Nat) (k : κ) (v : Value) : List (κ × Value × Nat) :=
  if (findV kvs k).isSome then kvs.modify (idxOf kvs k) (fun p => (k, v, p.2.2)) else kvs ++ [(k, v, ck)]
def putCk (kvs : List (κ × Value × Nat)) (ck : Nat) (k : κ) : Nat := if (findV kvs k).isSome then ck else ck + 1
def delV (kvs : List (κ × Value × Nat)) (k : κ) : List (κ × Value × Nat) := if (findV kvs k).isSome then kvs.eraseIdx (idxOf kvs k) else kvs
theorem findNow_ents (k : κ) : ∀ (kvs : List (κ × Value × Nat)) (i : Nat), Instr.findNow E.desc (E.val k) (ents E kvs) i = some ((findV kvs k).map fun v => (i + idxOf kvs k, v))
  | [], i => rfl
  | p :: kvs, i => by
    have ih := findNow_ents k kvs (i + 1)
    simp only [ents, List.map_cons, Instr.findNow, E.now]
    by_cases h : k = p.1
    · simp [h, findV, idxOf, List.findIdx_cons]
    · simp only [h, decide_false]
      rw [show (kvs.map fun p => (⟨E.val p.1, p.2.1, p.2.2⟩ : MapEntry)) = ents E kvs from rfl, ih]
      simp only [findV, idxOf, List.find?_cons, List.findIdx_cons, h, decide_false, cond_false]
      congr 1
      cases (kvs.find? fun p => decide (k = p.1)) with
      | none => rfl
      | some q => simp; omega
theorem idx_lt {kvs : List (κ × Value × Nat)} {k : κ} {u : Value} (hf : findV kvs k = some u) : idxOf kvs k < kvs.length ∧ ∀ h : idxOf kvs k < kvs.length, kvs[idxOf kvs k].1 = k := by
  have hidx : idxOf kvs k < kvs.length := by
    unfold findV at hf
    simp only [Option.map_eq_some_iff] at hf
    obtain ⟨q, hq, _⟩ := hf
    have h1 := List.find?_some (p := fun p : κ × Value × Nat => decide (k = p.1)) hq
    exact List.findIdx_lt_length_of_exists ⟨q, List.mem_of_find?_eq_some hq, h1⟩
  refine ⟨hidx, fun h => ?_⟩
  have := List.findIdx_getElem (p := fun p : κ × Value × Nat => decide (k = p.1)) (xs := kvs) (w := hidx)
  simp at this; exact this.symm
theorem modify_map {α β : Type} (f : α → β) (g : α → α) (h : β → β) (hfg : ∀ x, f (g x) = h (f x)) : ∀ (l : List α) (i : Nat), (l.map f).modify i h = (l.modify i g).map f
  | [], i => by cases i <;> simp
  | x :: l, 0 => by simp [hfg]
  | x :: l, i + 1 => by simp [modify_map f g h hfg l i]
theorem eraseIdx_map' {α β : Type} (f : α → β) : ∀ (l : List α) (i : Nat), (l.map f).eraseIdx i = (l.eraseIdx i).map f
  | [], i => by simp
  | x :: l, 0 => by simp
  | x :: l, i + 1 => by simp [eraseIdx_map' f l i]
variable {P : Program} {w : World} {b ck : Nat} {kvs : List (κ × Value × Nat)} {t kt et : TypeId} {ti tk te : TI}
theorem run_findKey (hk : tyOf P kt = some tk) (hu : tk.u = E.desc) (k : κ) (w : World) : (Instr.findKey kt (E.val k) (ents E kvs)).run P w = .ok ((findV kvs k).map fun v => (idxOf kvs k, v)) w := by
  have h1 := ty_under hk w
  rw [hu] at h1
  simp only [Instr.findKey, Sem.run_bind, h1, Result.andThen, findNow_ents]
  simp only [Nat.zero_add]
  rfl
theorem run_getMap (hb : w.heap[b]? = some (.map (ents E kvs).toArray ck)) : (getObj b).run P w = .ok (.map (ents E kvs).toArray ck) w := by
  simp [getObj, Sem.run, hb]
theorem run_lookup (ht : tyOf P t = some ti) (hu : ti.u = .map kt et) (hk : tyOf P kt = some tk) (hku : tk.u = E.desc) (he : tyOf P et = some te) (hb : w.heap[b]? = some (.map (ents E kvs).toArray ck)) (k : κ) :
    (Instr.lookup t (.map (some b)) (E.val k) false).run P w = .ok ((findV kvs k).getD te.zero) w := by
  have h1 := ty_under ht w
  rw [hu] at h1
  have h2 := ty_under hk w
  rw [hku] at h2
  have h3 := E.plain P kt (ents E kvs).toArray.isEmpty w k h2
  simp only [Instr.lookup, Sem.run_bind, h1, Result.andThen, run_getMap E hb, Sem.run_pure, h3]
  rw [run_findKey E hk hku]
  cases findV kvs k with
  | none => simp [Sem.run_bind, ty_zero he w, Result.andThen]
  | some v => simp
theorem run_lookupOk (ht : tyOf P t = some ti) (hu : ti.u = .map kt et) (hk : tyOf P kt = some tk) (hku : tk.u = E.desc) (he : tyOf P et = some te) (hb : w.heap[b]? = some (.map (ents E kvs).toArray ck)) (k : κ) :
    (Instr.lookup t (.map (some b)) (E.val k) true).run P w = .ok (.tuple #[(findV kvs k).getD te.zero, .bool (findV kvs k).isSome]) w := by
  have h1 := ty_under ht w
  rw [hu] at h1
  have h2 := ty_under hk w
  rw [hku] at h2
  have h3 := E.plain P kt (ents E kvs).toArray.isEmpty w k h2
  simp only [Instr.lookup, Sem.run_bind, h1, Result.andThen, run_getMap E hb, Sem.run_pure, h3]
  rw [run_findKey E hk hku]
  cases findV kvs k with
  | none => simp [Sem.run_bind, ty_zero he w, Result.andThen]
  | some v => simp
theorem run_mapUpdate (ht : tyOf P t = some ti) (hu : ti.u = .map kt et) (hk : tyOf P kt = some tk) (hku : tk.u = E.desc) (hb : w.heap[b]? = some (.map (ents E kvs).toArray ck)) (k : κ) (v : Value) :
    (Instr.mapUpdate t (.map (some b)) (E.val k) v).run P w = .ok () (w.putObj b (.map (ents E (putV kvs ck k v)).toArray (putCk kvs ck k))) := by
  have h1 := ty_under ht w
  rw [hu] at h1
  have h2 := ty_under hk w
  rw [hku] at h2
  have h3 := E.plain P kt false w k h2
  have hlt := block_lt hb
  simp only [Instr.mapUpdate, Sem.run_bind, h1, Result.andThen, run_getMap E hb, h3]
  rw [run_findKey E hk hku]
  cases hf : findV kvs k with
  | none =>
    simp only [Option.map_none]
    simp [setObj, Sem.run, hb, putV, putCk, hf, World.putObj, ents]
  | some u =>
    simp only [Option.map_some]
    obtain ⟨hidx, hkey⟩ := idx_lt hf
    have hkey := hkey hidx
    have hold : ((((ents E kvs).toArray[idxOf kvs k]?).map (·.key)).getD (E.val k)) = E.val k := by
      simp [ents, hidx, hkey]
    simp only [hold, Instr.keyThatStays, E.bits, if_true, Sem.run_bind, Sem.run_pure, Result.andThen]
    simp only [setObj, Sem.run, hb]
    simp only [putV, putCk, hf, Option.isSome_some, if_true, World.putObj]
    congr 4
    simp only [ents]
    rw [List.modify_toArray]
    rw [modify_map (fun p : κ × Value × Nat => (⟨E.val p.1, p.2.1, p.2.2⟩ : MapEntry)) (fun p => (k, v, p.2.2)) _ (fun x => rfl)]
theorem run_delete (ht : tyOf P t = some ti) (hu : ti.u = .map kt et) (hk : tyOf P kt = some tk) (hku : tk.u = E.desc) (hb : w.heap[b]? = some (.map (ents E kvs).toArray ck)) (k : κ) {ty : TypeId} {t2 : TypeId} :
    (Builtin.delete_ #[t, t2] ty #[.map (some b), E.val k]).run P w = .ok (.tuple #[]) (w.putObj b (.map (ents E (delV kvs k)).toArray ck)) := by
  have h1 := ty_under ht w
  rw [hu] at h1
  have h2 := ty_under hk w
  rw [hku] at h2
  have h3 := E.plain P kt (ents E kvs).toArray.isEmpty w k h2
  simp only [Builtin.delete_, Sem.run_bind, Result.andThen]
  simp [Sem.run_bind, h1, Result.andThen, run_getMap E hb]
  have h3' : (Instr.checkKey (ents E kvs).isEmpty 10000 kt (E.val k)).run P w = .ok () w := by simpa using h3
  simp only [h3', run_findKey E hk hku]
  cases hf : findV kvs k with
  | none => simp [setObj, Sem.run, hb, delV, hf, World.putObj]
  | some u =>
    obtain ⟨hidx, _⟩ := idx_lt hf
    simp [setObj, Sem.run, hb, delV, hf, World.putObj, ents, Array.eraseIdxIfInBounds, hidx, eraseIdx_map']
end
end Go.Sl
