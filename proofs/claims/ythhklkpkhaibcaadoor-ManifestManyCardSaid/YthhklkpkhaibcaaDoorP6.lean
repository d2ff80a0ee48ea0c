/- Plain: the room of a disk, call by call. -/
import Derived.Test.YthhklkpkhaibcaaDoorP5
set_option linter.unusedVariables false
set_option linter.unusedSimpArgs false
namespace Go.Proofs.YthhklkpkhaibcaaDoor
theorem sumLen_files (D : DS) : sumLen D.files = ((idsL D.now).map fun i => (D.dat i).length).sum := by
  unfold sumLen DS.files filesOf idsL DS.dat DS.fl
  rw [List.map_map, List.map_map]
  rfl
theorem Good.files_le {D : DS} (h : Good D) : sumLen D.files ≤ D.taken := by
  rw [sumLen_files, taken_eq]
  exact sum_sub h.keptNow.nd fun i hi => h.subNow hi
theorem free_up {D : DS} (h : D.down = false) : D.free = D.quota - D.taken := by
  unfold DS.free; simp [h]
theorem noted_taken {D : DS} {c : Chg} (hm : c.made = none) : (D.noted c).taken = D.taken := by
  rw [taken_eq, taken_eq]
  have e : madeL (D.chs ++ [c]) = madeL D.chs := by simp [madeL, hm]
  show ((idsL D.las ++ madeL (D.chs ++ [c])).map _).sum = _
  rw [e]; rfl
theorem made_taken {D : DS} (h : Good D) (n : Nm) : (DS.noted { D with fs := D.fs ++ [⟨[], 0⟩] } ⟨[], n, some D.fs.length⟩).taken = D.taken := by
  rw [taken_eq, taken_eq]
  have e : madeL (D.chs ++ [⟨[], n, some D.fs.length⟩]) = madeL D.chs ++ [D.fs.length] := by simp [madeL]
  have e2 : DS.ids (DS.noted { D with fs := D.fs ++ [⟨[], 0⟩] } ⟨[], n, some D.fs.length⟩) = D.ids ++ [D.fs.length] := by
    show idsL D.las ++ madeL (D.chs ++ [⟨[], n, some D.fs.length⟩]) = _
    rw [e, ← List.append_assoc]; rfl
  rw [e2, List.map_append, List.sum_append]
  have h1 : (D.ids.map fun i => ((DS.noted { D with fs := D.fs ++ [⟨[], 0⟩] } ⟨[], n, some D.fs.length⟩ : DS).dat i).length) = D.ids.map fun i => (D.dat i).length :=
    List.map_congr_left fun i hi => by
      show ((D.fs ++ [(⟨[], 0⟩ : Fl)]).getD i default).data.length = _
      rw [getD_app_lt (h.idlt i hi)]; rfl
  rw [h1]
  have h2 : (([D.fs.length]).map fun i => ((DS.noted { D with fs := D.fs ++ [⟨[], 0⟩] } ⟨[], n, some D.fs.length⟩).dat i).length).sum = 0 := by
    show ((D.fs ++ [(⟨[], 0⟩ : Fl)]).getD D.fs.length default).data.length + 0 = 0
    simp [List.getD]
  rw [h2]; rfl
section
variable {D : DS}
theorem note_free (hl : D.left = none) (hd : D.down = false) {c : Chg} (hm : c.made = none) : (D.note c).2.free = D.free := by
  unfold DS.note
  rw [turn_none hl]
  dsimp only
  rw [if_pos rfl]
  show (D.noted c).free = _
  have e : (D.noted c).down = false := hd
  rw [free_up e, free_up hd, noted_taken hm]; rfl
theorem create_free (h : Good D) (hl : D.left = none) (hd : D.down = false) (n : Nm) : (D.create n).2.free = D.free := by
  unfold DS.create
  rw [turn_none hl]
  split
  · rfl
  split
  · rw [if_pos rfl]
    have e : (DS.noted { D with fs := D.fs ++ [⟨[], 0⟩] } ⟨[], n, some D.fs.length⟩).down = false := hd
    show (DS.noted { D with fs := D.fs ++ [⟨[], 0⟩] } ⟨[], n, some D.fs.length⟩).free = _
    rw [free_up e, free_up hd, made_taken h]; rfl
  · rfl
theorem setF_free (h : Good D) (hd : D.down = false) {i : Nat} (hi : i ∈ D.ids) (f : Fl) : (D.setF i f).free + f.data.length = D.free + (D.dat i).length := by
  have e : (D.setF i f).down = false := hd
  have := setF_taken h hi f
  rw [free_up e, free_up hd]
  show ((D.quota : Int) - _) + _ = _
  omega
theorem sync_free (h : Good D) (hl : D.left = none) (hd : D.down = false) (n : Nm) : (D.sync n).2.free = D.free := by
  unfold DS.sync
  rw [turn_none hl]
  split
  · rename_i hf
    rw [if_pos rfl]
    have := setF_free h hd (h.findId hf) ⟨D.dat (D.find n).2, (D.dat (D.find n).2).length⟩
    dsimp only at this ⊢
    omega
  · rfl
theorem trunc_free (h : Good D) (hl : D.left = none) (hd : D.down = false) (n : Nm) (k : Int) : D.free ≤ (D.trunc n k).2.free ∧ ((D.trunc n k).1 ≠ 0 → (D.trunc n k).2.free = D.free) := by
  unfold DS.trunc
  rw [turn_none hl]
  split
  · rename_i hf
    split
    · exact ⟨Int.le_refl _, fun _ => rfl⟩
    · rw [if_pos rfl]
      have := setF_free h hd (h.findId hf) ⟨(D.dat (D.find n).2).take k.toNat, min (D.fl (D.find n).2).syn k.toNat⟩
      dsimp only at this ⊢
      rw [List.length_take] at this
      exact ⟨by omega, fun h => absurd rfl h⟩
  · exact ⟨Int.le_refl _, fun _ => rfl⟩
theorem append_free (h : Good D) (hl : D.left = none) (hd : D.down = false) (n : Nm) (b : List UInt8) :
    ((D.find n).1 = 0 → ((D.append n b).1 = 64 ↔ D.free < b.length) ∧ ((D.append n b).1 = 0 → (D.append n b).2.free = D.free - b.length)) ∧ ((D.find n).1 ≠ 0 → (D.append n b).2.free = D.free) := by
  unfold DS.append
  rw [turn_none hl]
  split
  · rename_i hf
    refine ⟨fun _ => ?_, fun h => absurd hf h⟩
    split
    · rename_i h1
      exact ⟨⟨fun _ => h1, fun _ => rfl⟩, fun h => by dsimp only at h; omega⟩
    · rename_i h1
      rw [if_pos rfl]
      have := setF_free h hd (h.findId hf) ⟨D.dat (D.find n).2 ++ b, (D.fl (D.find n).2).syn⟩
      dsimp only at this ⊢
      rw [List.length_append] at this
      exact ⟨⟨fun h => by omega, fun h => absurd h h1⟩, fun _ => by omega⟩
  · rename_i hf
    exact ⟨fun h => absurd h hf, fun _ => rfl⟩
theorem syncdir_free (h : Good D) (hl : D.left = none) (hd : D.down = false) : D.syncdir.1 = 0 ∧ D.syncdir.2.free + sumLen D.syncdir.2.files = D.quota := by
  unfold DS.syncdir
  rw [turn_none hl, if_neg (by simp [hd])]
  dsimp only
  rw [if_pos rfl]
  refine ⟨rfl, ?_⟩
  have e : ({ D with las := D.now, chs := [] } : DS).down = false := hd
  show ({ D with las := D.now, chs := [] } : DS).free + (sumLen ({ D with las := D.now, chs := [] } : DS).files : Int) = _
  rw [free_up e, sumLen_files, taken_eq]
  show (D.quota : Int) - (((idsL D.now ++ madeL []).map _).sum : Nat) + _ = _
  have e : madeL [] = [] := rfl
  rw [e, List.append_nil]
  show (D.quota : Int) - (((idsL D.now).map fun i => (D.dat i).length).sum : Nat) + (((idsL D.now).map fun i => (D.dat i).length).sum : Nat) = _
  omega
theorem rename_free (hl : D.left = none) (hd : D.down = false) (a b : Nm) : (D.rename a b).2.free = D.free := by
  unfold DS.rename
  split; · rfl
  split; · rfl
  split; · rfl
  exact note_free hl hd rfl
theorem remove_free (hl : D.left = none) (hd : D.down = false) (a : Nm) : (D.remove a).2.free = D.free := by
  unfold DS.remove
  split
  · exact note_free hl hd rfl
  · rfl
/-- What a changing call does to the room. -/
structure Room (D : DS) (k : Int) (a : Nm) (data : List UInt8) (r : Int × DS) : Prop where
  app : k = 2 → (D.find a).1 = 0 → (r.1 = 64 ↔ D.free < data.length) ∧ (r.1 = 0 → r.2.free = D.free - data.length)
  dir : k = 7 → r.1 = 0 ∧ r.2.free + sumLen r.2.files = D.quota
  cut : k = 4 → r.1 = 0 → D.free ≤ r.2.free
  rest : ¬ (k = 2 ∧ (D.find a).1 = 0) → k ≠ 7 → ¬ (k = 4 ∧ r.1 = 0) → r.2.free = D.free
theorem act_room (h : Good D) (hl : D.left = none) (hd : D.down = false) (k : Int) (a b : Nm) (n : Int) (data : List UInt8) (h1 : 1 ≤ k) (h7 : k ≤ 7) : Room D k a data (D.act k a b n data) := by
  unfold DS.act
  split
  · subst k; exact ⟨fun h => absurd h (by decide), fun h => absurd h (by decide), fun h => absurd h (by decide), fun _ _ _ => create_free h hl hd a⟩
  split
  · subst k
    obtain ⟨g1, g2⟩ := append_free h hl hd a data
    exact ⟨fun _ => g1, fun h => absurd h (by decide), fun h => absurd h (by decide), fun g _ _ => g2 fun e => g ⟨rfl, e⟩⟩
  split
  · subst k; exact ⟨fun h => absurd h (by decide), fun h => absurd h (by decide), fun h => absurd h (by decide), fun _ _ _ => sync_free h hl hd a⟩
  split
  · subst k
    obtain ⟨g1, g2⟩ := trunc_free h hl hd a n
    exact ⟨fun h => absurd h (by decide), fun h => absurd h (by decide), fun _ _ => g1, fun _ _ g => g2 fun e => g ⟨rfl, e⟩⟩
  split
  · subst k; exact ⟨fun h => absurd h (by decide), fun h => absurd h (by decide), fun h => absurd h (by decide), fun _ _ _ => rename_free hl hd a b⟩
  split
  · subst k; exact ⟨fun h => absurd h (by decide), fun h => absurd h (by decide), fun h => absurd h (by decide), fun _ _ _ => remove_free hl hd a⟩
  have : k = 7 := by omega
  subst this
  exact ⟨fun h => absurd h (by decide), fun _ => syncdir_free h hl hd, fun h => absurd h (by decide), fun _ g _ => absurd rfl g⟩
end
end Go.Proofs.YthhklkpkhaibcaaDoor
