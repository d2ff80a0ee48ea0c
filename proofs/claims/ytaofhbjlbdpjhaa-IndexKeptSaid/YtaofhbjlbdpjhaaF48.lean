/- Lists of lists: each a row of its own; written full of marks, lengthened, kept. -/
import Derived.Test.YtaofhbjlbdpjhaaF47
set_option linter.unusedVariables false
set_option linter.unusedSimpArgs false
namespace Go.Proofs.Ytaofhbjlbdpjhaa
open Go Go.Sl Go.RowKit
set_option maxRecDepth 100000
set_option linter.unusedSectionVars false

abbrev Trip (α : Type) := Option Addr × List α × Nat
abbrev hdT {α : Type} (p : Trip α) : Option Addr × Nat × Nat := (p.1, p.2.1.length, p.2.2)
abbrev rwT {α : Type} (enc : α → List Value) (t : TypeId) (p : Trip α) : HProp := RowOf enc t 1 p.1 p.2.2 p.2.1
abbrev rowsT {α : Type} (enc : α → List Value) (t : TypeId) (q : List (Trip α)) : List HProp := q.map (rwT enc t)
section
variable {α : Type} [Inhabited α] {enc : α → List Value} {t : TypeId} {q : List (Trip α)} {W w : World} {L : List HProp} {i : Nat}
theorem split_at {β : Type} [Inhabited β] {q : List β} (h : i < q.length) : q = q.take i ++ rd q (i : Int) :: q.drop (i + 1) := by
  rw [rdN h, ← List.drop_eq_getElem_cons h, List.take_append_drop]
theorem drop_at {β : Type} [Inhabited β] {q : List β} (h : i < q.length) : q.drop i = rd q (i : Int) :: q.drop (i + 1) := by
  rw [rdN h, ← List.drop_eq_getElem_cons h]
theorem set_at {β : Type} {q : List β} (h : i < q.length) (y : β) : q.set i y = q.take i ++ y :: q.drop (i + 1) := by
  rw [List.set_eq_take_append_cons_drop, if_pos h]
theorem Sat.openT (h : Sat W w (Big (rowsT enc t q) :: L)) (hi : i < q.length) : Sat W w (rwT enc t (rd q (i : Int)) :: Big (rowsT enc t (q.take i ++ q.drop (i + 1))) :: L) := by
  have e : rowsT enc t q = rowsT enc t (q.take i) ++ rwT enc t (rd q (i : Int)) :: rowsT enc t (q.drop (i + 1)) := by
    conv => lhs; rw [split_at hi]
    simp only [rowsT, List.map_append, List.map_cons]
  rw [e] at h
  have h1 : Sat W w (rwT enc t (rd q (i : Int)) :: (rowsT enc t (q.take i) ++ (rowsT enc t (q.drop (i + 1)) ++ L))) := (Sat.big h).perm (by
    rw [List.append_assoc, List.cons_append]; exact List.perm_middle)
  have e2 : rowsT enc t (q.take i ++ q.drop (i + 1)) = rowsT enc t (q.take i) ++ rowsT enc t (q.drop (i + 1)) := List.map_append
  have h2 : Sat W w (rowsT enc t (q.take i ++ q.drop (i + 1)) ++ (rwT enc t (rd q (i : Int)) :: L)) := h1.perm (by
    rw [e2, List.append_assoc, ← List.append_assoc]
    refine List.Perm.trans List.perm_middle.symm ?_
    simp only [List.append_assoc]; exact List.Perm.refl _)
  exact (Sat.mkBig h2).picks [1]
theorem Sat.closeT {y : Trip α} (h : Sat W w (rwT enc t y :: Big (rowsT enc t (q.take i ++ q.drop (i + 1))) :: L)) (hi : i < q.length) : Sat W w (Big (rowsT enc t (q.set i y)) :: L) := by
  have e2 : rowsT enc t (q.take i ++ q.drop (i + 1)) = rowsT enc t (q.take i) ++ rowsT enc t (q.drop (i + 1)) := List.map_append
  have h1 := Sat.big (h.picks [1])
  rw [e2] at h1
  rw [set_at hi]
  have e : rowsT enc t (q.take i ++ y :: q.drop (i + 1)) = rowsT enc t (q.take i) ++ rwT enc t y :: rowsT enc t (q.drop (i + 1)) := by
    simp only [rowsT, List.map_append, List.map_cons]
  rw [e]
  refine Sat.mkBig (h1.perm ?_)
  rw [List.append_assoc, List.append_assoc, List.cons_append]
  exact List.Perm.append_left _ List.perm_middle
theorem hd_set {H : List (Option Addr × Nat × Nat)} {y : Trip α} (hq : q.map hdT = H) (hi : i < q.length) (hy : hdT y = hdT (rd q (i : Int))) : (q.set i y).map hdT = H := by
  rw [List.map_set, hy, hq, rdN hi]
  refine List.ext_getElem (by simp) fun n h1 h2 => ?_
  rw [List.getElem_set]
  split
  · rename_i h; subst h; subst hq; simp
  · rfl
theorem rd_hd {H : List (Option Addr × Nat × Nat)} (hq : q.map hdT = H) (hi : i < q.length) : rd H (i : Int) = hdT (rd q (i : Int)) := by
  subst hq
  rw [rdN (by simpa using hi), rdN hi, List.getElem_map]
theorem rd_setE {β : Type} [Inhabited β] {q : List β} {y : β} (hi : i < q.length) : rd (q.set i y) (i : Int) = y := by
  rw [rdN (by simpa using hi), List.getElem_set_self]
theorem rd_setN {β : Type} [Inhabited β] {q : List β} {y : β} {j : Nat} (hj : j < q.length) (h : i ≠ j) : rd (q.set i y) (j : Int) = rd q (j : Int) := by
  rw [rdN (by simpa using hj), rdN hj, List.getElem_set_ne h]
/-- All lists ahead of i are full of their marks. -/
def Full (mk : Nat → α) (q : List (Trip α)) (i : Nat) : Prop := ∀ j : Nat, j < i → (rd q (j : Int)).2.1 = List.replicate (rd q (j : Int)).2.1.length (mk j)
theorem Full.set {mk : Nat → α} {A : Option Addr} {c n : Nat} (h : Full mk q i) (hi : i < q.length) : Full mk (q.set i (A, List.replicate n (mk i), c)) (i + 1) := by
  intro j hj
  by_cases hji : j = i
  · subst hji
    rw [rd_setE hi]; dsimp only; rw [List.length_replicate]
  · rw [rd_setN (by omega) (fun e => hji e.symm)]
    exact h j (by omega)
/-- What is kept of the lists that were lengthened: each reads as its marks. -/
structure Kept (enc : α → List Value) (W : World) (mk : Nat → α) (H M : List (Option Addr × Nat × Nat)) (K : List HProp) (i : Nat) : Prop where
  len : M.length = 2 * i
  old : ∀ w', Sat W w' K → ∀ j : Nat, j < i → Rd enc w' (rd H (j : Int)).1 (List.replicate (rd H (j : Int)).2.1 (mk j))
  new : ∀ w', Sat W w' K → ∀ j : Nat, j < 2 * i → Rd enc w' (rd M (j : Int)).1 (List.replicate (rd M (j : Int)).2.1 (mk (j / 2)))
  sz : ∀ x ∈ M, x.2.1 ≤ 1000000080
theorem Kept.nil (enc : α → List Value) (W : World) (mk : Nat → α) (H : List (Option Addr × Nat × Nat)) : Kept enc W mk H [] [] 0 :=
  ⟨rfl, fun _ _ j hj => by omega, fun _ _ j hj => by omega, fun x hx => by cases hx⟩
theorem rd_apL {β : Type} [Inhabited β] {a b : List β} {j : Nat} (h : j < a.length) : rd (a ++ b) (j : Int) = rd a (j : Int) := by
  rw [rdN (by rw [List.length_append]; omega), rdN h, List.getElem_append_left h]
theorem rd_apR {β : Type} [Inhabited β] {a b : List β} {j : Nat} (h : j < b.length) : rd (a ++ b) ((a.length + j : Nat) : Int) = rd b (j : Int) := by
  rw [rdN (by rw [List.length_append]; omega), rdN h, List.getElem_append_right (by omega)]
  simp only [Nat.add_sub_cancel_left]
theorem Kept.next {mk : Nat → α} {H M : List (Option Addr × Nat × Nat)} {K Z1 Z2 : List HProp} {A1 A2 : Option Addr} {c1 c2 k1 k2 : Nat} (h : Kept enc W mk H M K i)
    (z1 : MkOKc enc t (rd H (i : Int)).1 (rd H (i : Int)).2.2 k1 (mk i) A1 ((rd H (i : Int)).2.1 + 1) c1 Z1) (z2 : MkOKc enc t (rd H (i : Int)).1 (rd H (i : Int)).2.2 k2 (mk i) A2 ((rd H (i : Int)).2.1 + 80) c2 Z2) (hk : k1 ≤ k2) (hn : (rd H (i : Int)).2.1 ≤ k1) (hl : (rd H (i : Int)).2.1 ≤ 1000000000) :
    Kept enc W mk H (M ++ [(A1, (rd H (i : Int)).2.1 + 1, c1), (A2, (rd H (i : Int)).2.1 + 80, c2)]) ([RowOf enc t 1 (rd H (i : Int)).1 (rd H (i : Int)).2.2 (List.replicate k2 (mk i)), Big Z2, Big Z1] ++ K) (i + 1) := by
  obtain ⟨A, n, c, hA⟩ : ∃ A n c, rd H (i : Int) = (A, n, c) := ⟨_, _, _, rfl⟩
  rw [hA] at z1 z2 hn hl
  dsimp only at z1 z2 hn hl
  have hM := h.len
  refine ⟨by rw [List.length_append, hM]; simp; omega, fun w' hs j hj => ?_, fun w' hs j hj => ?_, fun x hx => ?_⟩
  · by_cases hji : j = i
    · subst hji
      rw [hA] at hs ⊢; dsimp only at hs ⊢
      exact (hs.rd 0 rfl).ahead (rep_take (by omega) _)
    · exact h.old w' hs.drop1.drop1.drop1 j (by omega)
  · by_cases hji : j < 2 * i
    · rw [rd_apL (by omega)]
      exact h.new w' hs.drop1.drop1.drop1 j hji
    · rw [hA] at hs ⊢; dsimp only at hs ⊢
      obtain ⟨r, hr⟩ : ∃ r, j = M.length + r := ⟨j - M.length, by omega⟩
      subst hr
      rw [rd_apR (by simp; omega), show (M.length + r) / 2 = i by omega]
      rcases (show r = 0 ∨ r = 1 by omega) with rfl | rfl
      · exact MkOK.rd (MkOK.up z1.ok hk) (hs.picks [0, 1])
      · exact MkOK.rd z2.ok (hs.picks [0, 0])
  · rcases List.mem_append.1 hx with hx | hx
    · exact h.sz x hx
    · rw [hA] at hx
      simp only [List.mem_cons, List.not_mem_nil, or_false] at hx
      rcases hx with rfl | rfl <;> dsimp only <;> omega
end
end Go.Proofs.Ytaofhbjlbdpjhaa
