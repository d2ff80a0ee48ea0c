/- Bytes of a constant text: the conversion of a row to its own type marks the place behind it. -/
import Derived.Test.YthhklkpkhaibcaaDoorSlB
set_option linter.unusedVariables false
set_option linter.unusedSimpArgs false
namespace Go.Sl
open Go.RowKit
/-- A block of cells that bears the mark. -/
abbrev ClM (b : Nat) (vs : List Value) (t : TypeId) : HProp := Bk b (.cells vs.toArray t (vs.length, vs.length + 1))
section
variable {r : Option Nat} {P : Program} {T : List (Nat × TI)} {ops : Array Oper} {Q : Exit → Act → World → Prop} {rest : List Oper} {n : Nat} {s : List (Nat × Value)} {τ : Nat → Value} {ds : List Deferred} {w W : World} {L : List HProp} {d : Nat} {ty : TypeId} {ps : String} {af : Array Edge}
theorem run_convMark {t e ee : TypeId} {b m c : Nat} {cs : List Value} (ht : P.underlying t = some (.slice e)) (he : P.underlying e = some (.int .u8)) (hb : w.heap[b]? = some (.cells cs.toArray ee (0, 0))) :
    ∃ w', (convert t t (.slice (some ⟨b, 0, none⟩) m c)).run P w = .ok (.slice (some ⟨b, 0, none⟩) m c) w' ∧ w.grownBy w' (some b) ∧ w'.heap[b]? = some (.cells cs.toArray ee (cs.length, cs.length + 1)) := by
  have hsh : w.shape? b = some (ee, cs.length) := by
    unfold World.shape?
    rw [hb]; simp
  refine ⟨w.freeze ⟨b, cs.length, none⟩ 1, ?_, ?_, ?_⟩
  · simp [convert, run_underlying ht, run_underlying he, markStringish, hsh]
  · refine ⟨rfl, rfl, rfl, by simp [World.freeze], fun k hk hne => ?_⟩
    have hne' : b ≠ k := fun e => hne (by rw [e])
    simp [World.freeze, Array.getElem?_modify, hne']
  · simp [World.freeze, Array.getElem?_modify, hb]
theorem LW_convMark (i : Nat) {t e ee : TypeId} {x : Operand} {ti te : TI} {b m c : Nat} {cs : List Value} (hT : TyOK P T) (hs : Sat W w L) (hx : EVO n s x = some (.slice (some ⟨b, 0, none⟩) m c)) (ht : lookT T t = some ti) (hu : ti.u = .slice e) (he : lookT T e = some te) (hue : te.u = .int .u8) (hi : getA L i = some (Cl b cs ee))
    (k : ∀ w', Sat W w' (L.set i (ClM b cs ee)) → LW r P ops Q rest (FR n ((d, .slice (some ⟨b, 0, none⟩) m c) :: s) τ ds) w') :
    LW r P ops Q (⟨some d, .convert t t x, ty, ps, af, none⟩ :: rest) (FR n s τ ds) w := by
  rw [getA_eq] at hi
  have u1 := (ty_info (hT _ _ ht)).1
  have u2 := (ty_info (hT _ _ he)).1
  rw [hu] at u1
  rw [hue] at u2
  obtain ⟨w', h1, h2, h3⟩ := run_convMark (m := m) (c := c) u1 u2 (hs.at i hi).2
  refine LW_run (v := .slice (some ⟨b, 0, none⟩) m c) (w' := w') rfl (fun c e => by cases e) ?_ (by rw [put_FR]; exact k w' (hs.turn i hi _ h2 h3))
  show Sem.run P (do let v ← convert t t ((FR n s τ ds).eval x); pure (Next.value v)) w = _
  rw [eval_of hx, Sem.run_bind, h1]; rfl
theorem Sat.rdM {α : Type} {enc : α → List Value} {xs : List α} {b : Nat} {t : TypeId} {f : Nat × Nat} (hs : Sat W w L) (i : Nat) (hi : getA L i = some (Bk b (.cells (xs.flatMap enc).toArray t f))) : Rd enc w (some ⟨b, 0, none⟩) xs := by
  rw [getA_eq] at hi
  refine .inr ⟨b, 0, rfl, fun j u h => ?_⟩
  have hb := (hs.at i hi).2
  simp only [World.cell?, hb, Nat.zero_add]
  simpa using h
end
end Go.Sl
