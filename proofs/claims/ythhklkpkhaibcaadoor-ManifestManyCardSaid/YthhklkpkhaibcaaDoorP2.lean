/- A map of names in memory, and the names that it stands for. -/
import Derived.Test.YthhklkpkhaibcaaDoorSlText
import Derived.Test.YthhklkpkhaibcaaDoorP1
set_option linter.unusedVariables false
set_option linter.unusedSimpArgs false
namespace Go.Proofs.YthhklkpkhaibcaaDoor
open Go Go.Sl Go.RowKit
abbrev ptv (bs : List Nat) (i : Nat) : Value := .pointer (some ⟨bs.getD i 0, 0, none⟩)
abbrev Ent' := Nm × Nat × Nat
def kvs (bs : List Nat) (E : List Ent') : List (Nm × Value × Nat) := E.map fun x => (x.1, ptv bs x.2.1, x.2.2)
structure MapOf (E : List Ent') (ck : Nat) (S : Names) : Prop where
  perm : (E.map fun x => (x.1, x.2.1)).Perm S
  srt : Srt S
  st : (E.map (·.2.2)).Nodup
  lt : ∀ x ∈ E, x.2.2 < ck
theorem kvs_append (bs : List Nat) (a b : List Ent') : kvs bs (a ++ b) = kvs bs a ++ kvs bs b := by simp [kvs]
theorem kvs_len (bs : List Nat) (E : List Ent') : (kvs bs E).length = E.length := by simp [kvs]
theorem kvs_keys {bs : List Nat} {E : List Ent'} {n : Nm} (h : ∀ x ∈ E, ¬ n = x.1) : ∀ p ∈ kvs bs E, ¬ n = p.1 := by
  intro p hp
  simp only [kvs, List.mem_map] at hp
  obtain ⟨x, hx, rfl⟩ := hp
  exact h x hx
theorem Srt.nodup {l : Names} (h : Srt l) : (l.map (·.1)).Nodup := by
  unfold List.Nodup
  rw [List.pairwise_map]
  exact h.imp fun hab he => absurd (he ▸ hab) (List.lt_irrefl _)
section
variable {E : List Ent'} {ck : Nat} {S : Names} {bs : List Nat} {n : Nm}
theorem MapOf.keys (h : MapOf E ck S) : (E.map (·.1)).Nodup := by
  have := (h.perm.map (·.1)).nodup_iff.2 h.srt.nodup
  rw [List.map_map] at this
  exact this
/-- The entry of a name, if there is one. -/
theorem MapOf.split (h : MapOf E ck S) (n : Nm) :
    (∃ E1 x E2, E = E1 ++ x :: E2 ∧ x.1 = n ∧ (∀ y ∈ E1, ¬ n = y.1) ∧ (∀ y ∈ E2, ¬ n = y.1) ∧ fnd S n = some x.2.1) ∨ ((∀ x ∈ E, ¬ n = x.1) ∧ fnd S n = none) := by
  by_cases hx : ∃ x ∈ E, x.1 = n
  · obtain ⟨x, hx, rfl⟩ := hx
    obtain ⟨E1, E2, hE⟩ := List.append_of_mem hx
    have hk := h.keys
    rw [hE] at hk
    simp only [List.map_append, List.map_cons, List.nodup_append, List.nodup_cons] at hk
    refine .inl ⟨E1, x, E2, hE, rfl, ?_, ?_, ?_⟩
    · intro y hy e
      exact hk.2.2 _ (List.mem_map_of_mem hy) _ List.mem_cons_self e.symm
    · intro y hy e
      exact hk.2.1.1 (e ▸ List.mem_map_of_mem hy)
    · exact fnd_of_mem h.srt (h.perm.mem_iff.1 (List.mem_map.2 ⟨x, by rw [hE]; simp, rfl⟩))
  · have h2 : ∀ x ∈ E, ¬ n = x.1 := fun x hx' e => hx ⟨x, hx', e.symm⟩
    refine .inr ⟨h2, fnd_none.2 fun p hp e => ?_⟩
    obtain ⟨x, hx, rfl⟩ := List.mem_map.1 (h.perm.mem_iff.2 hp)
    exact h2 x hx e
theorem MapOf.find (h : MapOf E ck S) (bs : List Nat) (n : Nm) : findV (kvs bs E) n = (fnd S n).map (ptv bs) := by
  rcases h.split n with ⟨E1, x, E2, hE, hx, h1, h2, hf⟩ | ⟨h1, hf⟩
  · rw [hf, hE, kvs_append]
    have : kvs bs (x :: E2) = (n, ptv bs x.2.1, x.2.2) :: kvs bs E2 := by rw [← hx]; rfl
    rw [this, findV_mid (kvs_keys h1)]; rfl
  · rw [hf, findV_none (kvs_keys h1)]; rfl
theorem wo_perm {l l' : Names} (h : l.Perm l') (n : Nm) : (wo l n).Perm (wo l' n) := h.filter _
theorem wo_mid {l1 l2 : Names} {n : Nm} {i : Nat} (h1 : ∀ p ∈ l1, ¬ n = p.1) (h2 : ∀ p ∈ l2, ¬ n = p.1) : wo (l1 ++ (n, i) :: l2) n = l1 ++ l2 := by
  unfold wo
  have e1 : l1.filter (fun p => decide (¬ p.1 = n)) = l1 := List.filter_eq_self.2 fun p hp => by simpa using fun e => h1 p hp e.symm
  have e2 : l2.filter (fun p => decide (¬ p.1 = n)) = l2 := List.filter_eq_self.2 fun p hp => by simpa using fun e => h2 p hp e.symm
  rw [List.filter_append, List.filter_cons_of_neg (by simp), e1, e2]
theorem MapOf.del (h : MapOf E ck S) (bs : List Nat) (n : Nm) : ∃ E', delV (kvs bs E) n = kvs bs E' ∧ MapOf E' ck (wo S n) := by
  rcases h.split n with ⟨E1, x, E2, hE, hx, h1, h2, hf⟩ | ⟨h1, hf⟩
  · subst hE
    refine ⟨E1 ++ E2, ?_, ?_, h.srt.mkwo n, ?_, fun y hy => h.lt y ?_⟩
    · have : kvs bs (x :: E2) = (n, ptv bs x.2.1, x.2.2) :: kvs bs E2 := by rw [← hx]; rfl
      rw [kvs_append, this, delV_mid (kvs_keys h1), kvs_append]
    · have := wo_perm h.perm n
      rw [List.map_append, List.map_cons] at this
      rw [← hx] at this h1 h2 ⊢
      rw [wo_mid (fun p hp => by obtain ⟨y, hy, rfl⟩ := List.mem_map.1 hp; exact h1 y hy) (fun p hp => by obtain ⟨y, hy, rfl⟩ := List.mem_map.1 hp; exact h2 y hy)] at this
      rwa [List.map_append]
    · exact h.st.sublist ((List.Sublist.append (List.Sublist.refl _) (List.sublist_cons_self _ _)).map _)
    · simp only [List.mem_append, List.mem_cons] at hy ⊢; exact hy.elim .inl fun h => .inr (.inr h)
  · exact ⟨E, delV_none (kvs_keys h1), by rw [wo_none hf]; exact h⟩
theorem MapOf.put (h : MapOf E ck S) (bs : List Nat) (n : Nm) (f : Nat) : ∃ E', putV (kvs bs E) ck n (ptv bs f) = kvs bs E' ∧ MapOf E' (putCk (kvs bs E) ck n) (wi S n f) := by
  rcases h.split n with ⟨E1, x, E2, hE, hx, h1, h2, hf⟩ | ⟨h1, hf⟩
  · subst hE
    have e1 : kvs bs (x :: E2) = (n, ptv bs x.2.1, x.2.2) :: kvs bs E2 := by rw [← hx]; rfl
    have e2 : kvs bs ((n, f, x.2.2) :: E2) = (n, ptv bs f, x.2.2) :: kvs bs E2 := rfl
    refine ⟨E1 ++ (n, f, x.2.2) :: E2, ?_, ?_, h.srt.mkwi n f, ?_, ?_⟩
    · rw [kvs_append, kvs_append, e1, e2, putV_mid (kvs_keys h1)]
    · refine List.Perm.trans ?_ (wi_perm S n f).symm
      rw [List.map_append, List.map_cons]
      refine List.perm_middle.trans (List.Perm.cons _ ?_)
      have := wo_perm h.perm n
      rw [List.map_append, List.map_cons] at this
      rw [← hx] at this h1 h2 ⊢
      rw [wo_mid (fun p hp => by obtain ⟨y, hy, rfl⟩ := List.mem_map.1 hp; exact h1 y hy) (fun p hp => by obtain ⟨y, hy, rfl⟩ := List.mem_map.1 hp; exact h2 y hy)] at this
      exact this
    · have := h.st
      simpa using this
    · have e3 : putCk (kvs bs (E1 ++ x :: E2)) ck n = ck := by rw [kvs_append, e1, putCk_mid (kvs_keys h1)]
      rw [e3]
      intro y hy
      simp only [List.mem_append, List.mem_cons] at hy
      rcases hy with hy | rfl | hy
      · exact h.lt y (by simp [hy])
      · exact h.lt x (by simp)
      · exact h.lt y (by simp [hy])
  · refine ⟨E ++ [(n, f, ck)], ?_, ?_, h.srt.mkwi n f, ?_, ?_⟩
    · rw [putV_new (kvs_keys h1), kvs_append]; rfl
    · refine List.Perm.trans ?_ (wi_perm S n f).symm
      rw [wo_none hf, List.map_append]
      exact (List.perm_append_singleton _ _).trans (List.Perm.cons _ h.perm)
    · rw [List.map_append, List.nodup_append]
      refine ⟨h.st, by simp, ?_⟩
      intro a ha b hb hab
      simp at hb; subst hb; subst hab
      obtain ⟨x, hx, hxk⟩ := List.mem_map.1 ha
      have := h.lt x hx
      omega
    · rw [putCk_new (kvs_keys h1)]
      intro y hy
      rw [List.mem_append, List.mem_singleton] at hy
      rcases hy with hy | rfl
      · have := h.lt y hy; omega
      · simp
theorem MapOf.mem (h : MapOf E ck S) {x : Ent'} (hx : x ∈ E) : (x.1, x.2.1) ∈ S := h.perm.mem_iff.1 (List.mem_map.2 ⟨x, hx, rfl⟩)
theorem getD_app {bs : List Nat} {i b : Nat} (h : i < bs.length) : (bs ++ [b]).getD i 0 = bs.getD i 0 := by
  simp [List.getD, List.getElem?_append_left h]
theorem kvs_more {E : List Ent'} {b : Nat} (h : ∀ x ∈ E, x.2.1 < bs.length) : kvs (bs ++ [b]) E = kvs bs E := by
  unfold kvs
  apply List.map_congr_left
  intro x hx
  simp only [ptv, getD_app (h x hx)]
end
end Go.Proofs.YthhklkpkhaibcaaDoor
