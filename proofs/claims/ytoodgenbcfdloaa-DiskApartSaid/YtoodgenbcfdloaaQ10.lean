/- The document's disk; walks: refused. -/
import Derived.Test.YtoodgenbcfdloaaQ9
set_option linter.unusedVariables false
set_option linter.unusedSimpArgs false
namespace Go.Proofs.Ytoodgenbcfdloaa
open Go Go.Sl Go.RowKit
set_option maxRecDepth 100000
attribute [local irreducible] CW LW DW FR DP Calls

/-- Why a call is refused, as the document says it. -/
def refC (D : DS) (k : Int) (a b : Nm) (n : Int) (data : List UInt8) : Int :=
  if k = 7 then 0 else if pathB a = false then 61 else if k = 5 ∧ pathB b = false then 61 else
  match fnd D.now a with
  | none => if k = 1 then 0 else 63
  | some i => if k = 1 then 62 else if k = 4 ∧ (n < 0 ∨ ((D.dat i).length : Int) < n) then 65 else if k = 2 ∧ D.free < data.length then 64 else 0
theorem act_code {D : DS} (hl : D.left = none) (hd : D.down = false) {k : Int} (h1 : 1 ≤ k) (h7 : k ≤ 7) (a b : Nm) (n : Int) (data : List UInt8) : (D.act k a b n data).1 = refC D k a b n data := by
  have hf : ∀ a, D.find a = if pathB a = false then ((61, 0) : Int × Nat) else match fnd D.now a with
    | none => ((63, 0) : Int × Nat)
    | some i => ((0, i) : Int × Nat) := fun a => by unfold DS.find; rw [if_neg (by simp [hd])]; rfl
  unfold DS.act refC
  by_cases hp : pathB a = false
  · have hfa : D.find a = (61, 0) := by rw [hf, if_pos hp]
    simp only [hp, if_true]
    split
    · rename_i e; subst e; unfold DS.create; rw [hfa]; rfl
    split
    · rename_i e; subst e; unfold DS.append; rw [hfa]; rfl
    split
    · rename_i e; subst e; unfold DS.sync; rw [hfa]; rfl
    split
    · rename_i e; subst e; unfold DS.trunc; rw [hfa]; rfl
    split
    · rename_i e; subst e; unfold DS.rename; rw [if_neg (by simp [hd]), if_pos (.inl hp)]; rfl
    split
    · rename_i e; subst e; unfold DS.remove; rw [hfa]; rfl
    · have : k = 7 := by omega
      subst this
      unfold DS.syncdir; rw [if_neg (by simp [hd]), turn_none hl]; rfl
  · rw [if_neg hp]
    cases hfn : fnd D.now a with
    | none =>
      have hfa : D.find a = (63, 0) := by rw [hf, if_neg hp, hfn]
      split
      · rename_i e; subst e; unfold DS.create; rw [hfa, turn_none hl]; rfl
      split
      · rename_i e; subst e; unfold DS.append; rw [hfa]; rfl
      split
      · rename_i e; subst e; unfold DS.sync; rw [hfa]; rfl
      split
      · rename_i e; subst e; unfold DS.trunc; rw [hfa]; rfl
      split
      · rename_i e; subst e
        unfold DS.rename
        rw [if_neg (by simp [hd])]
        by_cases hb : pathB b = false
        · rw [if_pos (.inr hb), if_neg (by decide), if_pos ⟨rfl, hb⟩]
        · rw [if_neg (by simp [hp, hb]), if_pos hfn, if_neg (by decide), if_neg (fun h => hb h.2)]
      split
      · rename_i e; subst e; unfold DS.remove; rw [hfa]; rfl
      · have : k = 7 := by omega
        subst this
        unfold DS.syncdir; rw [if_neg (by simp [hd]), turn_none hl]; rfl
    | some i =>
      have hfa : D.find a = (0, i) := by rw [hf, if_neg hp, hfn]
      split
      · rename_i e; subst e; unfold DS.create; rw [hfa]; rfl
      split
      · rename_i e; subst e
        unfold DS.append; rw [hfa, turn_none hl]
        dsimp only
        rw [if_pos rfl]
        by_cases hb : D.free < data.length
        · simp [hb]
        · simp [hb]
      split
      · rename_i e; subst e; unfold DS.sync; rw [hfa, turn_none hl]; rfl
      split
      · rename_i e; subst e
        unfold DS.trunc; rw [hfa, turn_none hl]
        dsimp only
        rw [if_pos rfl]
        by_cases hb : n < 0 ∨ ((D.dat i).length : Int) < n
        · rw [if_pos hb]; simp [hb]
        · rw [if_neg hb]; simp [hb]
      split
      · rename_i e; subst e
        unfold DS.rename
        rw [if_neg (by simp [hd])]
        by_cases hb : pathB b = false
        · rw [if_pos (.inr hb), if_neg (by decide), if_pos ⟨rfl, hb⟩]
        · rw [if_neg (by simp [hp, hb]), if_neg (by rw [hfn]; simp), if_neg (by decide), if_neg (fun h => hb h.2)]
          unfold DS.note; rw [turn_none hl]; simp
      split
      · rename_i e; subst e
        unfold DS.remove; rw [hfa]
        dsimp only
        rw [if_pos rfl]
        unfold DS.note; rw [turn_none hl]; rfl
      · have : k = 7 := by omega
        subst this
        unfold DS.syncdir; rw [if_neg (by simp [hd]), turn_none hl]; rfl
end Go.Proofs.Ytoodgenbcfdloaa
