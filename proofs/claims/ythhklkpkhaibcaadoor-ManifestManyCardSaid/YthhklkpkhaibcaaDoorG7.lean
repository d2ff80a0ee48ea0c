/- Walks: how much room there is. -/
import Derived.Test.YthhklkpkhaibcaaDoorG6
set_option linter.unusedVariables false
set_option linter.unusedSimpArgs false
namespace Go.Proofs.YthhklkpkhaibcaaDoor
open Go Go.Sl Go.RowKit
set_option maxRecDepth 100000
attribute [local irreducible] CW LW DW FR DP Calls

theorem ent_perm {X E : List Ent'} (hv : ∀ p ∈ X, p ∈ E) (hn : (X.map (·.2.2)).Nodup) (hk : (E.map (·.2.2)).Nodup) (hall : ∀ p ∈ E, p.2.2 ∈ X.map (·.2.2)) : X.Perm E := by
  have nd : ∀ {l : List Ent'}, (l.map (·.2.2)).Nodup → l.Nodup := fun h => (List.pairwise_map.1 h).imp fun h e => h (by rw [e])
  refine (List.perm_ext_iff_of_nodup (nd hn) (nd hk)).2 fun p => ⟨hv p, fun hp => ?_⟩
  obtain ⟨q, hq, hqb⟩ := List.mem_map.1 (hall p hp)
  have hinj : ∀ {l : List Ent'}, (l.map (·.2.2)).Nodup → ∀ a ∈ l, ∀ b ∈ l, a.2.2 = b.2.2 → a = b := by
    intro l
    induction l with
    | nil => intro _ a ha; cases ha
    | cons x l ih =>
      intro h a ha b hb e
      simp only [List.map_cons, List.nodup_cons] at h
      rcases List.mem_cons.1 ha with ea | ha2 <;> rcases List.mem_cons.1 hb with eb | hb2
      · rw [ea, eb]
      · rw [ea] at e; exact (h.1 (by rw [e]; exact List.mem_map_of_mem hb2)).elim
      · rw [eb] at e; exact (h.1 (by rw [← e]; exact List.mem_map_of_mem ha2)).elim
      · exact ih h.2 a ha2 b hb2 e
  rw [← hinj hk q (hv q hq) p hp hqb]; exact hq
theorem ent_len {X E : List Ent'} (hv : ∀ p ∈ X, p ∈ E) (hn : (X.map (·.2.2)).Nodup) : X.length ≤ E.length := by
  have h1 := len_le_of_nodup hn (l2 := E.map (·.2.2)) fun x hx => by
    obtain ⟨p, hp, rfl⟩ := List.mem_map.1 hx
    exact List.mem_map_of_mem (hv p hp)
  simpa using h1
theorem ent_sub {X E : List Ent'} (hv : ∀ p ∈ X, p ∈ E) (hn : (X.map (·.2.2)).Nodup) (g : Ent' → Nat) : (X.map g).sum ≤ (E.map g).sum := by
  induction X generalizing E with
  | nil => simp
  | cons x X ih =>
    obtain ⟨a, b, rfl⟩ := List.append_of_mem (hv x List.mem_cons_self)
    simp only [List.map_cons, List.nodup_cons] at hn
    have := ih (E := a ++ b) (fun p hp => by
      have h3 := hv p (List.mem_cons_of_mem _ hp)
      simp only [List.mem_append, List.mem_cons] at h3 ⊢
      rcases h3 with h3 | h3 | h3
      · exact .inl h3
      · subst h3; exact absurd (List.mem_map_of_mem hp) hn.1
      · exact .inr h3) hn.2
    simp at this ⊢; omega
def lenE (D : DS) (x : Ent') : Nat := (D.dat x.2.1).length
theorem lenL_of {E : List Ent'} {ck : Nat} {D : DS} (hm : MapOf E ck D.las) : (E.map (lenE D)).sum = D.lenL := by
  have := (hm.perm.map fun p => (D.dat p.2).length).sum_nat
  rw [List.map_map] at this
  exact this
theorem lenC_take (D : DS) {i : Nat} (hi : i < D.chs.length) : ((D.chs.take (i + 1)).map fun c => lenM D.fs c.made).sum = ((D.chs.take i).map fun c => lenM D.fs c.made).sum + lenM D.fs (D.chs[i]).made := by
  rw [List.take_add_one, List.getElem?_eq_getElem hi]
  simp only [Option.toList_some, List.map_append, List.map_cons, List.map_nil, List.sum_append, List.sum_cons, List.sum_nil, Nat.add_zero]
theorem lenC_le (D : DS) (i : Nat) : ((D.chs.take i).map fun c => lenM D.fs c.made).sum ≤ D.lenC := by
  have : D.lenC = ((D.chs.take i).map fun c => lenM D.fs c.made).sum + ((D.chs.drop i).map fun c => lenM D.fs c.made).sum := by
    unfold DS.lenC
    rw [← List.sum_append, ← List.map_append, List.take_append_drop]
  omega
theorem eC1 (a b : List UInt8) (q : Option Addr) : ∀ u ∈ [sv a, sv b, Value.pointer q], u.oneCell' = true := by
  intro u hu
  simp only [List.mem_cons, List.not_mem_nil, or_false] at hu
  rcases hu with rfl | rfl | rfl <;> rfl
end Go.Proofs.YthhklkpkhaibcaaDoor
