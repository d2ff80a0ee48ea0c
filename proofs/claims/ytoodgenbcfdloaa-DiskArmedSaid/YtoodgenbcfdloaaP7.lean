/- Plain: an armed disk against one that is not. -/
import Derived.Test.YtoodgenbcfdloaaP6
set_option linter.unusedVariables false
set_option linter.unusedSimpArgs false
namespace Go.Proofs.Ytoodgenbcfdloaa
def DS.armd (D : DS) (x : Option Nat) : DS := { D with left := x }
def DS.dead (D : DS) : DS := { D with left := some 0, down := true }
/-- What an armed disk answers where the other answers r. -/
def armR (D : DS) (x : Option Nat) (r : Int × DS) : Int × DS :=
  if r.1 = 0 then (match x with
    | none => (0, r.2.armd none)
    | some 0 => (60, D.dead)
    | some (k + 1) => (0, r.2.armd (some k))) else (r.1, D.armd x)
section
variable {D : DS}
theorem note_arm (hl : D.left = none) (x : Option Nat) (c : Chg) : (D.armd x).note c = armR D x (D.note c) := by
  unfold DS.note armR
  rw [turn_none hl]
  dsimp only
  rw [if_pos rfl, if_pos rfl]
  cases x with
  | none => rfl
  | some k => cases k <;> rfl
theorem act_arm (hl : D.left = none) (x : Option Nat) (k : Int) (a b : Nm) (n : Int) (data : List UInt8) : (D.armd x).act k a b n data = armR D x (D.act k a b n data) := by
  have hfi : ∀ n, (D.armd x).find n = D.find n := fun _ => rfl
  have hfr : (D.armd x).free = D.free := rfl
  have hda : ∀ i, (D.armd x).dat i = D.dat i := fun _ => rfl
  have hno : ∀ c, (D.armd x).note c = armR D x (D.note c) := note_arm hl x
  have htx : (D.armd x).turn = match x with
    | none => (0, D.armd none)
    | some 0 => (60, D.dead)
    | some (k + 1) => (0, D.armd (some k)) := by
    cases x with
    | none => rfl
    | some k => cases k <;> rfl
  unfold DS.act
  split
  · unfold DS.create
    rw [hfi, turn_none hl]
    split
    · rfl
    split
    · rw [if_pos rfl, htx]
      cases x with
      | none => rfl
      | some k => cases k <;> rfl
    · rename_i h _; unfold armR; rw [if_neg h]
  split
  · unfold DS.append
    rw [hfi, hfr, turn_none hl]
    split
    · split
      · rfl
      · rw [if_pos rfl, htx]
        cases x with
        | none => rfl
        | some k => cases k <;> rfl
    · rename_i h; unfold armR; rw [if_neg h]
  split
  · unfold DS.sync
    rw [hfi, turn_none hl]
    split
    · rw [if_pos rfl, htx]
      cases x with
      | none => rfl
      | some k => cases k <;> rfl
    · rename_i h; unfold armR; rw [if_neg h]
  split
  · unfold DS.trunc
    rw [hfi, turn_none hl]
    split
    · rw [hda]
      split
      · rfl
      · rw [if_pos rfl, htx]
        cases x with
        | none => rfl
        | some k => cases k <;> rfl
    · rename_i h; unfold armR; rw [if_neg h]
  split
  · unfold DS.rename
    show (if D.down = true then _ else _) = _
    split
    · rfl
    split
    · rfl
    show (if fnd D.now a = none then _ else _) = _
    split
    · rfl
    exact hno _
  split
  · unfold DS.remove
    rw [hfi]
    split
    · exact hno _
    · rename_i h; unfold armR; rw [if_neg h]
  · unfold DS.syncdir
    show (if D.down = true then _ else _) = _
    split
    · rfl
    rw [turn_none hl, if_pos rfl, htx]
    cases x with
    | none => rfl
    | some k => cases k <;> rfl
/-- What is left of n behind k calls. -/
def lefts (n : Int) (k : Nat) : Option Nat := if 0 ≤ n then some (n.toNat - k) else none
theorem arm_lefts (hd : D.down = false) (n : Int) : D.arm n = D.armd (lefts n 0) := by
  unfold DS.arm lefts
  rw [if_neg (by simp [hd])]
  rfl
theorem armR_go {n : Int} {k : Nat} {r : Int × DS} (hr : r.1 ≠ 0 → r.2 = D) (h : n < 0 ∨ r.1 ≠ 0 ∨ (k : Int) < n) : armR D (lefts n k) r = (r.1, r.2.armd (lefts n (if r.1 = 0 then k + 1 else k))) := by
  by_cases h0 : r.1 = 0
  · rw [if_pos h0]
    unfold armR
    rw [if_pos h0, h0]
    by_cases hn : 0 ≤ n
    · have e1 : lefts n k = some (n.toNat - (k + 1) + 1) := by unfold lefts; rw [if_pos hn]; congr 1; omega
      have e2 : lefts n (k + 1) = some (n.toNat - (k + 1)) := by unfold lefts; rw [if_pos hn]
      rw [e1, e2]
    · have e : ∀ k, lefts n k = none := fun k => by unfold lefts; rw [if_neg hn]
      rw [e, e]
  · rw [if_neg h0]
    unfold armR
    rw [if_neg h0, hr h0]
theorem armR_end {n : Int} {k : Nat} {r : Int × DS} (h : ¬ (n < 0 ∨ r.1 ≠ 0 ∨ (k : Int) < n)) : armR D (lefts n k) r = (60, D.dead) := by
  have e : lefts n k = some 0 := by unfold lefts; rw [if_pos (by omega)]; congr 1; omega
  unfold armR
  rw [if_pos (by omega), e]
end
end Go.Proofs.Ytoodgenbcfdloaa
