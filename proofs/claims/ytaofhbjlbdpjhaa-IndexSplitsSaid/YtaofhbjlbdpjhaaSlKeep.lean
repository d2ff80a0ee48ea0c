/- append, with what becomes of the row that it leaves. -/
import Derived.Test.YtaofhbjlbdpjhaaSl
set_option linter.unusedVariables false
set_option linter.unusedSimpArgs false
namespace Go.Sl
open Go.RowKit
section
variable {W w : World} {L R : List HProp} {e : TypeId} {sz n c : Nat} {A : Option Addr} {cells : List Value}
/-- A row is lengthened: where it lay, or anew, and then what it leaves stays. -/
theorem Sat.rowKeep {w' : World} (hs : Sat W w (Row e sz A n c cells :: R)) {n' : Nat} {v' : Value} {cells' : List Value} (hown : OwnR w' W.heap.size e sz v' n' cells')
    (hg : w.grownBy w' (Value.slice A n c).ownBlock) (hat : v'.ownBlock = (Value.slice A n c).ownBlock ∨ v'.ownBlock = some w.heap.size ∧ w.grownBy w' none) :
    ∃ A' c' K, v' = .slice A' n' c' ∧ ((K = [] ∧ A' = A) ∨ K = [Row e sz A n c cells]) ∧ Sat W w' (Row e sz A' n' c' cells' :: Big K :: R) := by
  rcases hat with hat | ⟨hat, hg2⟩
  · obtain ⟨A', c', h1, h2⟩ := hs.rowTurn hown hg (.inl hat)
    refine ⟨A', c', [], h1, .inl ⟨rfl, ?_⟩, ?_⟩
    · subst h1
      obtain ⟨hl, hv⟩ := hown
      have hrow := hs.row0
      obtain ⟨hl2, hv2⟩ := hrow
      rcases hv with ⟨h3, h4⟩ | ⟨g, cap, cur, h3, _⟩ <;> rcases hv2 with ⟨h5, h6⟩ | ⟨g', cap', cur', h5, _⟩ <;> cases h3 <;> cases h5 <;> simp [Value.ownBlock] at hat ⊢
      exact hat
    · exact (Sat.perm h2 (List.Perm.refl _)).imp fun f hf => by
        obtain ⟨a1, a2, a3, a4, a5, a6, a7⟩ := hf
        exact ⟨a1, a2, a3, a4, a5, a6, fun _ => none, a2, fun _ => .inl rfl, fun _ _ h => (by cases h), Frag.le.refl _, trivial, a7⟩
  · obtain ⟨A', c', h1, h2⟩ := (hs.nilRow e sz).rowTurn hown hg2 (.inr hat)
    exact ⟨A', c', [Row e sz A n c cells], h1, .inr rfl, (h2.picks [1]).imp fun f hf => by
      have h3 : sepL ([Row e sz A n c cells] ++ (Row e sz A' n' c' cells' :: R)) f := hf
      have h4 := sepL_big.2 h3
      exact sepL_swap h4⟩
end
section steps
variable {r : Option Nat} {P : Program} {T : List (Nat × TI)} {ops : Array Oper} {Q : Exit → Act → World → Prop} {rest : List Oper} {n : Nat} {s : List (Nat × Value)} {τ : Nat → Value} {ds : List Deferred} {w : World}
  {ty : TypeId} {ps : String} {af : Array Edge} {d : Nat} {W : World} {L : List HProp} {α : Type} {e' : TypeId}
/-- append of one element onto a row of one's own, of which what is left behind is kept. -/
theorem LW_appendK {enc : α → List Value} {sz : Nat} (hE : (∀ x, (enc x).length = sz) ∧ ∀ x, ∀ u ∈ enc x, u.oneCell' = true) {xs : List α} {z : α} {A : Option Addr} {c bx : Nat} {cs : List Value} {x y : Operand} {t e : TypeId} {ti te : TI} (hs : Sat W w (Cl bx cs e' :: RowOf enc e sz A c xs :: L)) (hT : TyOK P T) (hx : EVO n s x = some (.slice A xs.length c)) (hy : EVO n s y = some (.slice (some ⟨bx, 0, none⟩) 1 1)) (hcs : enc z = cs)
    (ht : lookT T t = some ti) (hu : ti.u = .slice e) (he : lookT T e = some te) (hsz : te.size = sz) (hpos : Nat.ble 1 te.size = true) (hzc : te.zero.cells.size = te.size)
    (hlen : xs.length + 1 ≤ maxLen) (hby : (xs.length + 1) * te.bytes ≤ 140737488355328)
    (k : ∀ A' c' K w', ((K = [] ∧ A' = A) ∨ K = [RowOf enc e sz A c xs]) → Sat W w' (RowOf enc e sz A' c' (xs ++ [z]) :: Big K :: L) → LW r P ops Q rest (FR n ((d, .slice A' (xs ++ [z]).length c') :: s) τ ds) w') :
    LW r P ops Q (⟨some d, .call { callee := .builtin .append, args := #[x, y], argTypes := #[t, t] }, ty, ps, af, none⟩ :: rest) (FR n s τ ds) w := by
  have hr : Rd enc w (some ⟨bx, 0, none⟩) [z] := hs.rdC (t := e') 0 (by simp [getA, hcs])
  have hs' := hs.drop1
  have hown := hs'.row0
  obtain ⟨hu1, f, hf1, hf2, hf3, hf4⟩ := ty_info (hT _ _ ht)
  obtain ⟨hu2, fe, hfe, hfe2, hfe3, hfe4⟩ := ty_info (hT _ _ he)
  rw [hu] at hu1
  have hpos' : 0 < sz := by rw [← hsz]; exact Nat.le_of_ble_eq_true hpos
  rcases hr with hr | ⟨b, o, hB, hr⟩
  · cases hr
  cases hB
  obtain ⟨v', w', hrun, hown', hg, hat⟩ := run_appendR (P := P) w W.heap.size t ty e fe te.zero sz te.bytes hu1 hfe hfe2 (by rw [hfe3, hsz]) hfe4 (by rw [hzc, hsz]) hpos' (.slice A xs.length c) xs.length (xs.flatMap enc) hown ⟨bx, 0, none⟩ 1 1 ([z].flatMap enc) (flat_len hE.1 [z])
        (fun j u h => by
          have e : (⟨bx, 0, none⟩ : Addr).add j = ⟨bx, 0 + j, none⟩ := by unfold Addr.add; split <;> simp_all
          rw [e]; exact hr j u h) (fun u h => by obtain ⟨x, _, hx⟩ := List.mem_flatMap.1 h; exact hE.2 x u hx) hlen hby hs.size
  obtain ⟨A', c', K, rfl, hK, hs2⟩ := hs'.rowKeep hown' hg hat
  have hcat : xs.flatMap enc ++ [z].flatMap enc = (xs ++ [z]).flatMap enc := by simp
  have hln : xs.length + 1 = (xs ++ [z]).length := by simp
  rw [hcat, hln] at hs2
  rw [hln] at hrun
  refine LW_run (v := .slice A' (xs ++ [z]).length c') (w' := w') rfl (fun c e => by cases e) ?_ (by rw [put_FR]; exact k A' c' K w' hK hs2)
  show Sem.run P (do let d ← resolve (FR n s τ ds).eval { callee := .builtin .append, args := #[x, y], argTypes := #[t, t] } ty; invoke d.target d.args) w = _
  have e1 : (#[x, y] : Array Operand).map (FR n s τ ds).eval = #[.slice A xs.length c, .slice (some ⟨bx, 0, none⟩) 1 1] := by simp [eval_of hx, eval_of hy]
  simp only [resolve, e1, Sem.run_bind, Sem.run_pure, Result.andThen, invoke, builtin, hrun]
end steps
end Go.Sl
