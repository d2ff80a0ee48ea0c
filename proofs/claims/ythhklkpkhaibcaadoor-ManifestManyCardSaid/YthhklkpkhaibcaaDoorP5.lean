/- Plain: what a changing call leaves as it was. -/
import Derived.Test.YthhklkpkhaibcaaDoorP4
set_option linter.unusedVariables false
set_option linter.unusedSimpArgs false
namespace Go.Proofs.YthhklkpkhaibcaaDoor
theorem turn_none {D : DS} (h : D.left = none) : D.turn = (0, D) := by
  obtain ⟨q, fs, now, las, chs, left, down⟩ := D
  dsimp only at h
  subst h
  rfl
/-- Not armed: a call that is refused changes nothing. -/
theorem act_refused {D : DS} (h : D.left = none) (k : Int) (a b : Nm) (n : Int) (data : List UInt8) : (D.act k a b n data).1 ≠ 0 → (D.act k a b n data).2 = D := by
  have ht := turn_none h
  unfold DS.act DS.create DS.append DS.sync DS.trunc DS.rename DS.remove DS.syncdir DS.note
  simp only [ht, if_true]
  intro hne
  repeat' (first | (split at hne <;> split <;> first | (exfalso; exact hne rfl) | rfl | contradiction | skip) | rfl)
structure Same (D D' : DS) : Prop where
  left : D.left = none → D'.left = none
  down : D.left = none → D'.down = D.down
  quota : D'.quota = D.quota
  chs : D'.chs.length ≤ D.chs.length + 1
  fs : D'.fs.length ≤ D.fs.length + 1
theorem same_refl (D : DS) : Same D D := ⟨id, fun _ => rfl, rfl, Nat.le_succ _, Nat.le_succ _⟩
theorem same_turn (D : DS) : Same D D.turn.2 := by
  obtain ⟨e1, e2, e3, e4, e5⟩ := turn_fields D
  exact ⟨fun h => by rw [turn_none h]; exact h, fun h => by rw [turn_none h], e5, by rw [e4]; exact Nat.le_succ _, by rw [e1]; exact Nat.le_succ _⟩
theorem turn_same {D D' : DS} (hl : D'.left = D.turn.2.left) (hd : D'.down = D.turn.2.down) (hq : D'.quota = D.quota) (hc : D'.chs.length ≤ D.chs.length + 1) (hf : D'.fs.length ≤ D.fs.length + 1) : Same D D' :=
  ⟨fun h => by rw [hl, turn_none h]; exact h, fun h => by rw [hd, turn_none h], hq, hc, hf⟩
theorem same_note (D : DS) (c : Chg) : Same D (D.note c).2 := by
  obtain ⟨e1, e2, e3, e4, e5⟩ := turn_fields D
  unfold DS.note
  split
  · exact turn_same rfl rfl e5 (by show (D.turn.2.chs ++ [c]).length ≤ _; rw [e4]; simp) (by show D.turn.2.fs.length ≤ _; rw [e1]; omega)
  · exact same_turn D
theorem same_setF (D : DS) (i : Nat) (f : Fl) : Same D (D.turn.2.setF i f) := by
  obtain ⟨e1, e2, e3, e4, e5⟩ := turn_fields D
  exact turn_same rfl rfl e5 (by show D.turn.2.chs.length ≤ _; rw [e4]; omega) (by show (D.turn.2.fs.set i f).length ≤ _; rw [List.length_set, e1]; omega)
theorem act_same (D : DS) (k : Int) (a b : Nm) (n : Int) (data : List UInt8) : Same D (D.act k a b n data).2 := by
  obtain ⟨e1, e2, e3, e4, e5⟩ := turn_fields D
  unfold DS.act
  split
  · unfold DS.create
    split
    · exact same_refl D
    split
    · split
      · exact turn_same rfl rfl e5 (by show (D.turn.2.chs ++ [_]).length ≤ _; rw [e4]; simp) (by show (D.turn.2.fs ++ [_]).length ≤ _; rw [e1]; simp)
      · exact same_turn D
    · exact same_refl D
  split
  · unfold DS.append
    split
    · split
      · exact same_refl D
      split
      · exact same_setF D _ _
      · exact same_turn D
    · exact same_refl D
  split
  · unfold DS.sync
    split
    · split
      · exact same_setF D _ _
      · exact same_turn D
    · exact same_refl D
  split
  · unfold DS.trunc
    split
    · split
      · exact same_refl D
      split
      · exact same_setF D _ _
      · exact same_turn D
    · exact same_refl D
  split
  · unfold DS.rename
    split
    · exact same_refl D
    split
    · exact same_refl D
    split
    · exact same_refl D
    · exact same_note D _
  split
  · unfold DS.remove
    split
    · exact same_note D _
    · exact same_refl D
  · unfold DS.syncdir
    split
    · exact same_refl D
    split
    · exact turn_same rfl rfl e5 (by show ([] : List Chg).length ≤ _; simp) (by show D.turn.2.fs.length ≤ _; rw [e1]; omega)
    · exact same_turn D
end Go.Proofs.YthhklkpkhaibcaaDoor
