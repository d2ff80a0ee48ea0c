/- A store into one cell of an element of a row of one's own. -/
import Derived.Test.YthhklkpkhaibcaaDoorSlB
set_option linter.unusedVariables false
set_option linter.unusedSimpArgs false
namespace Go.Sl
open Go.RowKit
theorem set_cut {α : Type} (l : List α) (a sz f : Nat) (e : List α) (u : α) (he : (l.drop a).take sz = e) (hl : e.length = sz) (hf : f < sz) (hfit : a + sz ≤ l.length) :
    l.take (a + f) ++ [u] ++ l.drop (a + f + 1) = l.take a ++ e.set f u ++ l.drop (a + sz) := by
  have h1 : l = l.take a ++ e ++ l.drop (a + sz) := by
    rw [← he, List.append_assoc]
    have : (l.drop a).take sz ++ l.drop (a + sz) = l.drop a := by
      rw [← List.drop_drop, List.take_append_drop]
    rw [this, List.take_append_drop]
  have h2 : (l.take a).length = a := by rw [List.length_take]; omega
  have h3 : e.set f u = e.take f ++ [u] ++ e.drop (f + 1) := by
    rw [List.set_eq_take_append_cons_drop, if_pos (by omega)]; simp
  have h4 : l.take (a + f) = l.take a ++ e.take f := by
    conv => lhs; rw [h1]
    rw [List.append_assoc, List.take_append, h2, List.take_of_length_le (by omega), show a + f - a = f by omega, List.take_append_of_le_length (by omega)]
  have h5 : l.drop (a + f + 1) = e.drop (f + 1) ++ l.drop (a + sz) := by
    conv => lhs; rw [h1]
    rw [List.append_assoc, List.drop_append, h2, List.drop_eq_nil_of_le (by omega), show a + f + 1 - a = f + 1 by omega, List.drop_append_of_le_length (by omega), List.nil_append]
  rw [h3, h4, h5]
  simp [List.append_assoc]
section
variable {r : Option Nat} {P : Program} {T : List (Nat × TI)} {W w : World} {L : List HProp} {n : Nat} {s : List (Nat × Value)} {τ : Nat → Value} {ds : List Deferred} {Q : Exit → Act → World → Prop} {rest : List Oper} {ops : Array Oper} {ty : TypeId} {ps : String} {af : Array Edge}
theorem LW_storeRowF (i f : Nat) {α : Type} [Inhabited α] {enc : α → List Value} {sz : Nat} (hE : (∀ x, (enc x).length = sz) ∧ ∀ x, ∀ u ∈ enc x, u.oneCell' = true) {xs : List α} (z : α) {A : Option Addr} {c b o : Nat} {j : Int} {x y : Operand} {t e : TypeId} {ti : TI} {v u : Value} (hs : Sat W w L) (hT : TyOK P T) (hx : EVO n s x = some (.pointer (some ⟨b, o + j.toNat * sz + f, none⟩))) (hA : A = some ⟨b, o, none⟩) (hy : EVO n s y = some v) (ht : lookT T t = some ti) (hv : cellsO v = some [u]) (h1 : u.oneCell' = true) (hsz : ti.size = 1)
    (hi : getA L i = some (RowOf enc e sz A c xs)) (hf : Nat.blt f sz = true) (hz : (enc (rd xs j)).set f u = enc z) (h0 : 0 ≤ j) (hj : j < xs.length) (k : ∀ w', Sat W w' (L.set i (RowOf enc e sz A c (xs.set j.toNat z))) → LW r P ops Q rest (FR n s τ ds) w') : LW r P ops Q (⟨none, .store t x y, ty, ps, af, none⟩ :: rest) (FR n s τ ds) w := by
  have hf : f < sz := by have := Nat.le_of_ble_eq_true hf; omega
  have hrd : Rd enc w A xs := hs.rd i hi
  rw [getA_eq] at hi
  obtain ⟨g, cur, hA2, hcur, hfit, hnew⟩ := (hs.front i hi).rowSet hE.1 (j := j.toNat) (by omega)
  rw [hA] at hA2
  injection hA2 with hA2
  injection hA2 with hb ho
  subst hb; subst ho
  have hcut : (cur.toList.drop (j.toNat * sz)).take sz = enc (rd xs j) := by
    apply List.ext_getElem?
    intro m
    by_cases hm : m < sz
    · have hmz : m < (enc (rd xs j)).length := by rw [hE.1]; exact hm
      have := hrd.cell hE.1 hA h0 hj (k := m) (v := (enc (rd xs j))[m]) (by rw [getA_eq]; exact List.getElem?_eq_getElem hmz)
      rw [Nat.zero_add] at this
      rw [List.getElem?_take, if_pos hm, List.getElem?_drop, List.getElem?_eq_getElem hmz, ← this]
      simp [World.cell?, hcur]
    · rw [List.getElem?_eq_none (by rw [List.length_take]; omega), List.getElem?_eq_none (by rw [hE.1]; omega)]
  have heq := set_cut cur.toList (j.toNat * sz) sz f (enc (rd xs j)) u hcut (hE.1 _) hf (by simpa using hfit)
  rw [hz] at heq
  refine LW_runSkip (w' := w.setRow b (cur.toList.take (j.toNat * sz) ++ enc z ++ cur.toList.drop (j.toNat * sz + sz)).toArray) rfl (fun c e => by cases e) ?_ (k _ (Sat.back hi (hnew z)))
  show Sem.run P (do Instr.storeAt t ((FR n s τ ds).eval x) ((FR n s τ ds).eval y); pure Next.skip) w = _
  rw [Nat.zero_add] at hx
  rw [eval_of hx, eval_of hy, Sem.run_bind, run_storeW (hT _ _ ht) hv (by rw [hsz]; rfl) hcur (by simp; omega) (by simpa using h1), ← heq]; rfl
end
end Go.Sl
