/- Ranges, more: lists of assertions turned round; one result in a box. -/
import Derived.Test.YtaofhbjlbdpjhaaSlIter
set_option linter.unusedVariables false
set_option linter.unusedSimpArgs false
namespace Go.Sl
open Go.RowKit
section
variable {W w : World} {L A B : List HProp} {P : Program} {f : Func} {Post : Value → World → Prop} {n : Nat} {s : List (Nat × Value)} {τ : Nat → Value} {ds : List Deferred}
theorem Sat.rot (h : Sat W w (A ++ B)) : Sat W w (B ++ A) := h.perm List.perm_append_comm
theorem Sat.rot3 {C : List HProp} (h : Sat W w (A ++ (B ++ C))) : Sat W w (B ++ (C ++ A)) := by
  have := h.rot; rwa [List.append_assoc] at this
theorem Sat.swp {C : List HProp} (h : Sat W w (A ++ (B ++ C))) : Sat W w (B ++ (A ++ C)) := by
  rw [← List.append_assoc] at h ⊢
  exact h.perm (List.Perm.append List.perm_append_comm (List.Perm.refl _))
theorem Sat.fst (h : Sat W w (A ++ B)) : Sat W w A := ⟨h.below, let ⟨_, _, _, le1, _, r, _⟩ := sepL_app h.sep; sepL_mono le1 r⟩
theorem Sat.mid {C : List HProp} (h : Sat W w ((A ++ B) ++ C)) : Sat W w (A ++ C) := by
  have := h.rot
  rw [← List.append_assoc] at this
  exact (Sat.fst this).rot
theorem Sat.swp2 {C D : List HProp} (h : Sat W w (A ++ (B ++ (C ++ D)))) : Sat W w (A ++ (C ++ (B ++ D))) := by
  have h1 : Sat W w (B ++ (C ++ (D ++ A))) := by simpa only [List.append_assoc] using h.rot
  have h2 := h1.swp
  have h3 : Sat W w ((C ++ (B ++ D)) ++ A) := by simpa only [List.append_assoc] using h2
  exact h3.rot
theorem Sat.name0 {p : HProp} (h : Sat W w (p :: L)) : ∃ X, X = p ∧ Sat W w (X :: L) := ⟨p, rfl, h⟩
theorem CW_slim {r : Option Nat} {c : Code} {Q : Exit → Act → World → Prop} (l : List (Nat × Value)) (h : Agr s l) (k : ∀ τ', CW r P c Q (FR n l τ' ds) w) : CW r P c Q (FR n s τ ds) w := by
  rw [FR_forget l h]; exact k _
theorem Sat.nil (h : Sat W w L) : Sat W w [] := ⟨h.below, trivial⟩
theorem M_endC1 {T : List (Nat × TI)} (i : Nat) {t : Tmp} {ti : TI} {ta te : TypeId} {b : Nat} {v : Value} (hs : Sat W w L) (hT : TyOK P T) (h : f.results = #[.cell t ta]) (hv : EVO n s (.tmp t) = some (.pointer (some ⟨b, 0, none⟩)))
    (h1 : lookT T ta = some ti) (ha : ti.agg = false) (hi : getA L i = some (Cl b [v] te)) (k : Post v w) : RM P f Post (FR n s τ ds).tmps [] w := by
  rw [getA_eq] at hi
  have c1 := hs.cell i hi 0
  have e1 := slotD (τ := τ) (ds := ds) hv
  have r1 := ty_isAgg (hT _ _ h1) w
  rw [ha] at r1
  simp only [List.getElem?_cons_zero] at c1
  refine ⟨v, ?_, k⟩
  simp [results, h, go_sem, e1, asAddr, r1, Result.andThen, c1]
end
end Go.Sl
