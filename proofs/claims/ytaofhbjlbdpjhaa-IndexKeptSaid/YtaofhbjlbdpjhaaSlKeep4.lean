/- As SlKeep3's append, and the room it has is told. -/
import Derived.Test.YtaofhbjlbdpjhaaSlKeep3
set_option linter.unusedVariables false
set_option linter.unusedSimpArgs false
namespace Go.Sl
open Go.RowKit
def MkOKc {α : Type} (enc : α → List Value) (e : TypeId) (A : Option Addr) (c k : Nat) (m : α) (A' : Option Addr) (n' c' : Nat) (Z : List HProp) : Prop :=
  (Z = [] ∧ A' = A ∧ c' = c ∧ n' ≤ k) ∨ Z = [RowOf enc e 1 A' c' (List.replicate n' m)]
theorem MkOKc.ok {α : Type} {enc : α → List Value} {e : TypeId} {A : Option Addr} {c k : Nat} {m : α} {A' : Option Addr} {n' c' : Nat} {Z : List HProp} (h : MkOKc enc e A c k m A' n' c' Z) : MkOK enc e A k m A' n' c' Z := h.imp (fun h => ⟨h.2.1, h.2.2.2⟩) id
section steps
variable {r : Option Nat} {P : Program} {T : List (Nat × TI)} {ops : Array Oper} {Q : Exit → Act → World → Prop} {rest : List Oper} {n : Nat} {s : List (Nat × Value)} {τ : Nat → Value} {ds : List Deferred} {w : World}
  {ty : TypeId} {ps : String} {af : Array Edge} {d : Nat} {W : World} {L : List HProp} {α : Type} {e' : TypeId}
/-- append of j marks onto the front part (nn elements) of a row of marks: it lies there with the same room, or anew. -/
theorem LW_appendMc (i1 i2 : Nat) {enc : α → List Value} (hE : (∀ x, (enc x).length = 1) ∧ ∀ x, ∀ u ∈ enc x, u.oneCell' = true) {mk : α} {k : Nat} {A : Option Addr} {c bx m nn : Nat} {x y : Operand} {t e : TypeId} {ti te : TI} {cs : List Value} (hs : Sat W w L) (hT : TyOK P T) (hx : EVO n s x = some (.slice A nn c)) (hy : EVO n s y = some (.slice (some ⟨bx, 0, none⟩) m m))
    (hi1 : getA L i1 = some (Cl bx cs e')) (hcs : (List.replicate m mk).flatMap enc = cs) (hi2 : getA (L.eraseIdx i1) i2 = some (RowOf enc e 1 A c (List.replicate k mk))) (hn : nn ≤ k) (hk : k ≤ nn + m) (hm : 0 < m) (hnc : nn ≤ c)
    (ht : lookT T t = some ti) (hu : ti.u = .slice e) (he : lookT T e = some te) (hsz : te.size = 1) (hzc : te.zero.cells.size = te.size)
    (hlen : nn + m ≤ maxLen) (hby : (nn + m) * te.bytes ≤ 140737488355328)
    (kk : ∀ A' c' k' Z w', k ≤ k' → k' ≤ nn + m → MkOKc enc e A c k' mk A' (nn + m) c' Z → Sat W w' (RowOf enc e 1 A c (List.replicate k' mk) :: Big Z :: ((L.eraseIdx i1).eraseIdx i2)) → LW r P ops Q rest (FR n ((d, .slice A' (nn + m) c') :: s) τ ds) w') :
    LW r P ops Q (⟨some d, .call { callee := .builtin .append, args := #[x, y], argTypes := #[t, t] }, ty, ps, af, none⟩ :: rest) (FR n s τ ds) w := by
  rw [getA_eq] at hi1 hi2
  have hs0 := hs.front i1 hi1
  have hcells := (hs0.at 0 rfl).2
  have hs' : Sat W w (RowOf enc e 1 A c (List.replicate k mk) :: ((L.eraseIdx i1).eraseIdx i2)) := hs0.drop1.front i2 hi2
  subst hcs
  have hxl : (List.replicate k mk).length = k := List.length_replicate
  have hcut : ((List.replicate k mk).flatMap enc).take (nn * 1) = (List.replicate nn mk).flatMap enc := by
    have h1 : List.replicate k mk = List.replicate nn mk ++ List.replicate (k - nn) mk := by rw [List.replicate_append_replicate]; congr 1; omega
    rw [h1, List.flatMap_append, List.take_left' (by rw [flat_len hE.1, List.length_replicate])]
  have hown := (hs'.cutFront (n := nn) (by rw [hxl]; exact hn) hnc).row0
  rw [hcut] at hown
  obtain ⟨hu1, f, hf1, hf2, hf3, hf4⟩ := ty_info (hT _ _ ht)
  obtain ⟨hu2, fe, hfe, hfe2, hfe3, hfe4⟩ := ty_info (hT _ _ he)
  rw [hu] at hu1
  obtain ⟨v', w', hrun, hown', hg, hat⟩ := run_appendRc (P := P) w W.heap.size t ty e fe te.zero 1 te.bytes hu1 hfe hfe2 (by rw [hfe3, hsz]) hfe4 (by rw [hzc, hsz]) (by omega) A nn c ((List.replicate nn mk).flatMap enc) hown ⟨bx, 0, none⟩ m m ((List.replicate m mk).flatMap enc) (by rw [flat_len hE.1, List.length_replicate]) hm
        (fun j u h => by
          have e : (⟨bx, 0, none⟩ : Addr).add j = ⟨bx, 0 + j, none⟩ := by unfold Addr.add; split <;> simp_all
          rw [e, hs0.cell 0 rfl (0 + j), Nat.zero_add]; exact h) (fun u h => by obtain ⟨x, _, hx⟩ := List.mem_flatMap.1 h; exact hE.2 x u hx) hlen hby hs.size
  have hcat : (List.replicate nn mk).flatMap enc ++ (List.replicate m mk).flatMap enc = (List.replicate (nn + m) mk).flatMap enc := by rw [← List.flatMap_append, List.replicate_append_replicate]
  rw [hcat] at hown'
  have hxl2 : (List.replicate (nn + m) mk).length = nn + m := List.length_replicate
  have key : ∃ A' c' k' Z, v' = .slice A' (nn + m) c' ∧ k ≤ k' ∧ k' ≤ nn + m ∧ MkOKc enc e A c k' mk A' (nn + m) c' Z ∧ Sat W w' (RowOf enc e 1 A c (List.replicate k' mk) :: Big Z :: ((L.eraseIdx i1).eraseIdx i2)) := by
    rcases hs'.rowKeepLc (by rw [hxl]; exact hn) hnc hown' hg hat with ⟨rfl, hs2⟩ | ⟨A', c', rfl, hs2⟩
    · refine ⟨A, c, nn + m, [], rfl, hk, Nat.le_refl _, .inl ⟨rfl, rfl, rfl, Nat.le_refl _⟩, ?_⟩
      have h3 : Sat W w' (Big [] :: Row e 1 A (nn + m) c ((List.replicate (nn + m) mk).flatMap enc) :: ((L.eraseIdx i1).eraseIdx i2)) := Sat.mkBig (l := []) hs2
      show Sat W w' (Row e 1 A (List.replicate (nn + m) mk).length c _ :: _)
      rw [hxl2]
      exact h3.picks [1]
    · refine ⟨A', c', k, [RowOf enc e 1 A' c' (List.replicate (nn + m) mk)], rfl, Nat.le_refl _, hk, .inr rfl, ?_⟩
      have h3 : Sat W w' (Row e 1 A' (List.replicate (nn + m) mk).length c' ((List.replicate (nn + m) mk).flatMap enc) :: RowOf enc e 1 A c (List.replicate k mk) :: ((L.eraseIdx i1).eraseIdx i2)) := by
        rw [hxl2]; exact hs2.picks [1]
      have h4 : Sat W w' (Big [RowOf enc e 1 A' c' (List.replicate (nn + m) mk)] :: RowOf enc e 1 A c (List.replicate k mk) :: ((L.eraseIdx i1).eraseIdx i2)) := Sat.mkBig (l := [_]) h3
      exact h4.picks [1]
  obtain ⟨A', c', k', Z, rfl, hk1, hk2, hZ, hs3⟩ := key
  refine LW_run (v := .slice A' (nn + m) c') (w' := w') rfl (fun c e => by cases e) ?_ (by rw [put_FR]; exact kk A' c' k' Z w' hk1 hk2 hZ hs3)
  show Sem.run P (do let d ← resolve (FR n s τ ds).eval { callee := .builtin .append, args := #[x, y], argTypes := #[t, t] } ty; invoke d.target d.args) w = _
  have e1 : (#[x, y] : Array Operand).map (FR n s τ ds).eval = #[.slice A nn c, .slice (some ⟨bx, 0, none⟩) m m] := by simp [eval_of hx, eval_of hy]
  simp only [resolve, e1, Sem.run_bind, Sem.run_pure, Result.andThen, invoke, builtin, hrun]
end steps
end Go.Sl
