/- Plain laws: the keys. -/
import Derived.Test.YtaofhbjlbdpjhaaF16
import Derived.Test.YtaofhbjlbdpjhaaF10
set_option linter.unusedVariables false
set_option linter.unusedSimpArgs false
namespace Go.Proofs.Ytaofhbjlbdpjhaa
open Go Go.Sl

theorem keysW_mem (s : List (Int × Int)) (x : Int) : ∀ n, x ∈ keysW s n ↔ ∃ j : Nat, j < n ∧ (rd s (j : Int)).1 = x
  | 0 => by simp [keysW]
  | n + 1 => by
    have ih := keysW_mem s x n
    rw [keysW]
    split
    · rw [List.mem_append, List.mem_singleton, ih]
      constructor
      · rintro (⟨j, h1, h2⟩ | h)
        · exact ⟨j, by omega, h2⟩
        · exact ⟨n, by omega, h.symm⟩
      · rintro ⟨j, h1, h2⟩
        by_cases hj : j = n
        · subst hj; exact .inr h2.symm
        · exact .inl ⟨j, by omega, h2⟩
    · rename_i h
      rw [ih]
      constructor
      · rintro ⟨j, h1, h2⟩
        exact ⟨j, by omega, h2⟩
      · rintro ⟨j, h1, h2⟩
        by_cases hj : j = n
        · subst hj
          have h0 : ¬ j = 0 := fun e => h (.inl e)
          have h3 : (rd s (j : Int)).1 = (rd s ((j : Int) - 1)).1 := Classical.byContradiction fun e => h (.inr e)
          exact ⟨j - 1, by omega, by rw [show ((j - 1 : Nat) : Int) = (j : Int) - 1 by omega, ← h3]; exact h2⟩
        · exact ⟨j, by omega, h2⟩
def Asc (s : List (Int × Int)) : Prop := s.Pairwise fun a b => a.1 ≤ b.1
theorem Asc.at {s : List (Int × Int)} (h : Asc s) {i j : Nat} (hij : i < j) (hj : j < s.length) : (rd s (i : Int)).1 ≤ (rd s (j : Int)).1 := by
  have h1 := List.pairwise_iff_getElem.1 h i j (by omega) hj hij
  have e : ∀ k : Nat, (hk : k < s.length) → rd s (k : Int) = s[k] := fun k hk => by unfold rd; rw [Int.toNat_natCast, List.getD_eq_getElem?_getD, List.getElem?_eq_getElem hk]; rfl
  rw [e i (by omega), e j hj]; exact h1
theorem keysW_asc {s : List (Int × Int)} (h : Asc s) : ∀ n, n ≤ s.length → (keysW s n).Pairwise (fun a b => a < b)
  | 0, _ => by simp [keysW]
  | n + 1, hn => by
    have ih := keysW_asc h n (by omega)
    rw [keysW]
    split
    · rename_i hc
      rw [List.pairwise_append]
      refine ⟨ih, by simp, ?_⟩
      intro a ha b hb
      rw [List.mem_singleton] at hb; subst hb
      obtain ⟨j, h1, h2⟩ := (keysW_mem s a n).1 ha
      rcases hc with hc | hc
      · omega
      · have h3 : (rd s (j : Int)).1 ≤ (rd s ((n - 1 : Nat) : Int)).1 := by
          by_cases hj : j = n - 1
          · rw [hj]; exact Int.le_refl _
          · exact h.at (by omega) (by omega)
        have h4 := h.at (i := n - 1) (j := n) (by omega) (by omega)
        rw [show ((n - 1 : Nat) : Int) = (n : Int) - 1 by omega] at h3 h4
        rw [← h2]; omega
    · exact ih
theorem ins_perm (out : List (Int × Int)) (p : Int × Int) : (ins out p).Perm (p :: out) := by
  unfold ins
  refine List.perm_middle.trans (List.Perm.cons _ ?_)
  rw [List.take_append_drop]
theorem insK_le (out : List (Int × Int)) (p : Int × Int) : ∀ k, insK out p k ≤ k
  | 0 => Nat.le_refl _
  | k + 1 => by
    rw [insK]
    split
    · have := insK_le out p k; omega
    · exact Nat.le_refl _
theorem insK_above (out : List (Int × Int)) (p : Int × Int) : ∀ k j, insK out p k ≤ j → j < k → p.1 < (rd out (j : Int)).1
  | 0, j, _, h => by omega
  | k + 1, j, h1, h2 => by
    rw [insK] at h1
    split at h1
    · rename_i hc
      by_cases hj : j = k
      · subst hj; exact hc
      · exact insK_above out p k j h1 (by omega)
    · omega
theorem insK_below (out : List (Int × Int)) (p : Int × Int) : ∀ k j, insK out p k = j + 1 → (rd out (j : Int)).1 ≤ p.1
  | 0, j, h => by simp [insK] at h
  | k + 1, j, h => by
    rw [insK] at h
    split at h
    · exact insK_below out p k j h
    · rename_i hc
      have : j = k := by omega
      subst this; omega
theorem rd_at {s : List (Int × Int)} {k : Nat} (hk : k < s.length) : rd s (k : Int) = s[k] := by
  unfold rd; rw [Int.toNat_natCast, List.getD_eq_getElem?_getD, List.getElem?_eq_getElem hk]; rfl
theorem ins_asc {out : List (Int × Int)} (h : Asc out) (p : Int × Int) : Asc (ins out p) := by
  have hle := insK_le out p out.length
  have hab := insK_above out p out.length
  have hbe := insK_below out p out.length
  unfold ins Asc
  generalize insK out p out.length = k at hle hab hbe ⊢
  have hlow : ∀ a ∈ out.take k, a.1 ≤ p.1 := by
    intro a ha
    obtain ⟨j, hj, rfl⟩ := List.mem_iff_getElem.1 ha
    rw [List.length_take] at hj
    rw [List.getElem_take]
    have hk : k = (k - 1) + 1 := by omega
    have h1 := hbe (k - 1) hk
    by_cases hjk : j = k - 1
    · rw [← hjk, rd_at (by omega)] at h1; exact h1
    · have h2 := h.at (i := j) (j := k - 1) (by omega) (by omega)
      rw [rd_at (by omega)] at h2
      omega
  have hhigh : ∀ a ∈ out.drop k, p.1 ≤ a.1 := by
    intro a ha
    obtain ⟨j, hj, rfl⟩ := List.mem_iff_getElem.1 ha
    rw [List.length_drop] at hj
    rw [List.getElem_drop]
    have h1 := hab (k + j) (by omega) (by omega)
    rw [rd_at (by omega)] at h1
    omega
  have hcross : ∀ a ∈ out.take k, ∀ b ∈ out.drop k, a.1 ≤ b.1 := fun a ha b hb => Int.le_trans (hlow a ha) (hhigh b hb)
  rw [List.pairwise_append]
  refine ⟨List.Pairwise.sublist (List.take_sublist _ _) h, ?_, ?_⟩
  · rw [List.pairwise_cons]
    exact ⟨hhigh, List.Pairwise.sublist (List.drop_sublist _ _) h⟩
  · intro a ha b hb
    rcases List.mem_cons.1 hb with rfl | hb
    · exact hlow a ha
    · exact hcross a ha b hb
theorem srt_ok (lo hi : Int) (l : List (Int × Int)) : Asc (srt lo hi l) ∧ (srt lo hi l).Perm (l.filter fun p => decide (¬ (p.1 < lo ∨ hi < p.1))) := by
  suffices h : ∀ (l out : List (Int × Int)), Asc out → Asc (l.foldl (fun out p => if p.1 < lo ∨ hi < p.1 then out else ins out p) out) ∧ (l.foldl (fun out p => if p.1 < lo ∨ hi < p.1 then out else ins out p) out).Perm (out ++ l.filter fun p => decide (¬ (p.1 < lo ∨ hi < p.1))) from by
    have := h l [] List.Pairwise.nil
    simpa [srt] using this
  intro l
  induction l with
  | nil => intro out h; exact ⟨h, by simp⟩
  | cons p l ih =>
    intro out h
    simp only [List.foldl_cons]
    by_cases hp : p.1 < lo ∨ hi < p.1
    · rw [if_pos hp]
      have := ih out h
      refine ⟨this.1, ?_⟩
      have e : (p :: l).filter (fun p => decide (¬ (p.1 < lo ∨ hi < p.1))) = l.filter (fun p => decide (¬ (p.1 < lo ∨ hi < p.1))) := by
        rw [List.filter_cons, if_neg (by rw [decide_eq_true_eq]; exact fun h => h hp)]
      rw [e]; exact this.2
    · rw [if_neg hp]
      have := ih (ins out p) (ins_asc h p)
      refine ⟨this.1, ?_⟩
      have e : (p :: l).filter (fun p => decide (¬ (p.1 < lo ∨ hi < p.1))) = p :: l.filter (fun p => decide (¬ (p.1 < lo ∨ hi < p.1))) := by
        rw [List.filter_cons, if_pos (by rw [decide_eq_true_eq]; exact hp)]
      rw [e]
      refine this.2.trans (((ins_perm out p).append (List.Perm.refl _)).trans ?_)
      exact List.perm_middle.symm
def okI (x : Int) : Prop := -9223372036854775808 ≤ x ∧ x ≤ 9223372036854775807
theorem allP_perm {l : List (Int × Int)} (h : ∀ p ∈ l, okI p.1) : (allP l).Perm l := by
  have h1 := (srt_ok (-9223372036854775808) 9223372036854775807 l).2
  have e : (l.filter fun p => decide (¬ (p.1 < -9223372036854775808 ∨ 9223372036854775807 < p.1))) = l := by
    rw [List.filter_eq_self]
    intro p hp
    have := h p hp
    unfold okI at this
    rw [decide_eq_true_eq]; omega
  rw [e] at h1; exact h1
theorem keysR_eq {l : List (Int × Int)} (h : ∀ p ∈ l, okI p.1) {ks : List Int} (hn : ks.Nodup) (hm : ∀ x, x ∈ ks ↔ ∃ p ∈ l, p.1 = x) : sortI ks = keysR l := by
  have hp := allP_perm h
  have hasc := keysW_asc (srt_ok (-9223372036854775808) 9223372036854775807 l).1 (allP l).length (Nat.le_refl _)
  have hmem : ∀ x, x ∈ keysR l ↔ ∃ p ∈ l, p.1 = x := by
    intro x
    rw [keysW_mem]
    constructor
    · rintro ⟨j, h1, h2⟩
      rw [rd_at h1] at h2
      exact ⟨_, hp.mem_iff.1 (List.getElem_mem h1), h2⟩
    · rintro ⟨p, h1, h2⟩
      obtain ⟨j, hj, he⟩ := List.mem_iff_getElem.1 (hp.mem_iff.2 h1)
      exact ⟨j, hj, by rw [rd_at hj, he]; exact h2⟩
  have hpm : ks.Perm (keysR l) := (List.perm_ext_iff_of_nodup hn (hasc.imp fun h => by omega)).2 fun x => by rw [hm, hmem]
  exact List.Perm.eq_of_pairwise (fun a b _ _ h1 h2 => Int.le_antisymm h1 h2) (sortI_le ks) (hasc.imp fun h => by omega) ((List.mergeSort_perm ks _).trans hpm)
theorem Mu_keys {mu : Mu Int} {l : List (Int × Int)} (ho : mu.Of l) (h : ∀ p ∈ l, okI p.1) : sortI (mu.E.map (·.key)) = keysR l := by
  refine keysR_eq h ho.keys fun x => ?_
  constructor
  · intro hx
    obtain ⟨e, he, rfl⟩ := List.mem_map.1 hx
    have h1 := ho.vals e he
    have h2 := ho.ne e he
    rw [h1] at h2
    obtain ⟨v, hv⟩ := List.exists_mem_of_ne_nil _ h2
    unfold getK at hv
    obtain ⟨p, hp, _⟩ := List.mem_map.1 hv
    rw [List.mem_filter, decide_eq_true_eq] at hp
    exact ⟨p, hp.1, hp.2⟩
  · rintro ⟨p, hp, rfl⟩
    obtain ⟨e, he, hk⟩ := ho.all p hp
    exact List.mem_map.2 ⟨e, he, hk⟩
end Go.Proofs.Ytaofhbjlbdpjhaa
