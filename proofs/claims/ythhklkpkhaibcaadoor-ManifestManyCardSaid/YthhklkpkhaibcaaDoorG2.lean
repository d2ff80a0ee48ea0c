/- Walks: the names of a map, in rising order. -/
import Derived.Test.YthhklkpkhaibcaaDoorG1
import Derived.Test.YthhklkpkhaibcaaDoorSlIterP
set_option linter.unusedVariables false
set_option linter.unusedSimpArgs false
namespace Go.Proofs.YthhklkpkhaibcaaDoor
open Go Go.Sl Go.RowKit
set_option maxRecDepth 100000
attribute [local irreducible] CW LW DW FR DP Calls RM Yld Begin AfterP

theorem perm_of_all {vs kv : List (Nm × Value × Nat)} (hv : ∀ p ∈ vs, p ∈ kv) (hn : (vs.map (·.2.2)).Nodup) (hk : (kv.map (·.2.2)).Nodup) (hall : ∀ p ∈ kv, p.2.2 ∈ vs.map (·.2.2)) : vs.Perm kv := by
  have nd : ∀ {l : List (Nm × Value × Nat)}, (l.map (·.2.2)).Nodup → l.Nodup := fun h => (List.pairwise_map.1 h).imp fun h e => h (by rw [e])
  refine (List.perm_ext_iff_of_nodup (nd hn) (nd hk)).2 fun p => ⟨hv p, fun hp => ?_⟩
  obtain ⟨q, hq, hqb⟩ := List.mem_map.1 (hall p hp)
  have hinj : ∀ {l : List (Nm × Value × Nat)}, (l.map (·.2.2)).Nodup → ∀ a ∈ l, ∀ b ∈ l, a.2.2 = b.2.2 → a = b := by
    intro l
    induction l with
    | nil => intro _ a ha; cases ha
    | cons x l ih =>
      intro h a ha b hb e
      simp only [List.map_cons, List.nodup_cons] at h
      rcases List.mem_cons.1 ha with ea | ha2 <;> rcases List.mem_cons.1 hb with eb | hb2
      · rw [ea, eb]
      · rw [ea] at e; exact (h.1 (by rw [e]; exact List.mem_map_of_mem hb2)).elim
      · rw [eb] at e; exact (h.1 (by rw [← e]; exact List.mem_map_of_mem ha2)).elim
      · exact ih h.2 a ha2 b hb2 e
  rw [← hinj hk q (hv q hq) p hp hqb]; exact hq
theorem len_le_of_nodup : ∀ {l1 l2 : List Nat}, l1.Nodup → (∀ x ∈ l1, x ∈ l2) → l1.length ≤ l2.length
  | [], l2, _, _ => by simp
  | x :: l1, l2, hn, hs => by
    simp only [List.nodup_cons] at hn
    have hx := hs x List.mem_cons_self
    have ih := len_le_of_nodup hn.2 (l2 := l2.erase x) fun y hy => (List.mem_erase_of_ne (fun e => hn.1 (by rw [← e]; exact hy))).2 (hs y (List.mem_cons_of_mem _ hy))
    rw [List.length_erase_of_mem hx] at ih
    have := List.length_pos_of_mem hx
    simp only [List.length_cons]; omega
theorem kvs_st (bs : List Nat) (E : List Ent') : (kvs bs E).map (·.2.2) = E.map (·.2.2) := by simp [kvs]
theorem kvs_key (bs : List Nat) (E : List Ent') : (kvs bs E).map (·.1) = E.map (·.1) := by simp [kvs]
section
variable {E : List Ent'} {ck : Nat} {S : Names}
theorem MapOf.born (h : MapOf E ck S) (bs : List Nat) : ∀ p ∈ kvs bs E, p.2.2 < ck := by
  intro p hp
  simp only [kvs, List.mem_map] at hp
  obtain ⟨x, hx, rfl⟩ := hp
  exact h.lt x hx
theorem MapOf.ndst (h : MapOf E ck S) (bs : List Nat) : ((kvs bs E).map (·.2.2)).Nodup := by rw [kvs_st]; exact h.st
theorem MapOf.keyPerm (h : MapOf E ck S) (bs : List Nat) : ((kvs bs E).map (·.1)).Perm (S.map (·.1)) := by
  rw [kvs_key]
  have := h.perm.map (·.1)
  rwa [List.map_map] at this
theorem vs_len {bs : List Nat} {vs : List (Nm × Value × Nat)} (hv : ∀ p ∈ vs, p ∈ kvs bs E) (hn : (vs.map (·.2.2)).Nodup) : vs.length ≤ (kvs bs E).length := by
  have h1 := len_le_of_nodup hn (l2 := (kvs bs E).map (·.2.2)) fun x hx => by
    obtain ⟨p, hp, rfl⟩ := List.mem_map.1 hx
    exact List.mem_map_of_mem (hv p hp)
  simpa using h1
end
theorem nodup_snoc {vs : List (Nm × Value × Nat)} {p : Nm × Value × Nat} (hn : (vs.map (·.2.2)).Nodup) (hp : p.2.2 ∉ vs.map (·.2.2)) : ((vs ++ [p]).map (·.2.2)).Nodup := by
  rw [List.map_append, List.nodup_append]
  refine ⟨hn, by simp, ?_⟩
  intro a ha b hb hab
  simp at hb; subst hb; subst hab
  exact hp ha
theorem mem_snoc {vs kv : List (Nm × Value × Nat)} {p : Nm × Value × Nat} (hv : ∀ q ∈ vs, q ∈ kv) (hp : p ∈ kv) : ∀ q ∈ vs ++ [p], q ∈ kv := by
  intro u hu
  rcases List.mem_append.1 hu with hu | hu
  · exact hv u hu
  · rw [List.mem_singleton] at hu; subst hu; exact hp
theorem Keys1_call (W w : World) (E : List Ent') (bs : List Nat) (ck : Nat) (S : Names) (b pm yl : Nat) (R1 : List HProp) (hm : MapOf E ck S) (J : List Nm → List HProp → Prop) (hJ0 : J [] R1)
    (hs : Sat W w (Mp keyN b (kvs bs E) ck :: Cl pm [.map (some b)] 66 :: R1))
    (hy : ∀ pre x own R w, pre.length < E.length → J pre R → Sat W w (own :: Mp keyN b (kvs bs E) ck :: Cl pm [.map (some b)] 66 :: R) →
      Yld Tryd.prog yl #[sv x] w (fun v w' => v = .bool true ∧ ∃ R', Sat W w' (own :: Mp keyN b (kvs bs E) ck :: Cl pm [.map (some b)] 66 :: R') ∧ J (pre ++ [x]) R')) :
    Calls Tryd.prog 47 [.func (.yield yl) #[] #[], .pointer (some ⟨pm, 0, none⟩)].toArray w
      (Ret fun v w' => v = .tuple #[] ∧ ∃ ks R', Sat W w' (Mp keyN b (kvs bs E) ck :: Cl pm [.map (some b)] 66 :: R') ∧ J ks R' ∧ ks.Perm (S.map (·.1))) := by
  refine Calls_of Tryd.func47 rfl 14 Tryd.ntmps47 rfl ?_
  have hborn := hm.born bs
  have hnd := hm.ndst bs
  (repeat' (first | (refine isLW ?_; first | refine LW_nil ?_ | (refine isLload ?_; first | refine LW_loadC 1 TOK hs rfl rfl rfl rfl rfl ?_) | (refine LW_range keyN 0 hs TOK rfl rfl rfl rfl ?_; clear hs; intro q w hs)) | (with_reducible first | refine then_n ?_ | refine CW_seq ?_ | refine CW_region ?_ | refine CW_block ?_)))
  refine CW_loop (γ := List (Nm × Value × Nat) × List HProp) (fun g => [(0, .func (.yield yl) #[] #[]), (5, .pointer (some ⟨q, 0, none⟩))])
    (fun g w' => Sat W w' (It q b ck g.1 :: Mp keyN b (kvs bs E) ck :: Cl pm [.map (some b)] 66 :: g.2) ∧ (∀ p ∈ g.1, p ∈ kvs bs E) ∧ (g.1.map (·.2.2)).Nodup ∧ J (g.1.map (·.1)) g.2) (fun g => (kvs bs E).length - g.1.length) ([], R1) ⟨rfl, rfl, trivial⟩ ⟨hs, by simp, by simp, hJ0⟩ ?_
  clear hs hJ0
  rintro ⟨vs, R⟩ τ w ⟨hs, hv, hvn, hJ⟩
  dsimp only at hs hv hvn hJ ⊢
  have hvl := vs_len hv hvn
  (repeat' (first | (refine isLW ?_; first | refine LW_nil ?_ | (refine isLcall ?_; first | (refine LW_yield rfl rfl (hy _ _ _ R w ?_ hJ hs) ?_; rotate_left; clear hs; rintro _ w ⟨rfl, R2, hs, hJ2⟩)) | (refine LW_next keyN 1 0 hs rfl rfl rfl hborn (fun hall => ?_) (fun p w hp hpn hs => ?_)) | refine LW_entry keyN 1 0 hs rfl rfl rfl hp hnd ?_ | refine LW_pure TOK rfl ?_) | (with_reducible first | refine then_n ?_ | refine CW_seq ?_ | refine CW_region ?_ | refine CW_block ?_ | refine CW_skip ?_ | refine CW_exit ?_ | refine then_e ?_ | refine blk_n ?_ | refine blk_same ?_) | refine CW_true rfl ?_ | refine CW_false rfl ?_ | refine RET0 Tryd.results47 ?_))
  · exact ⟨rfl, vs.map (·.1), R, hs.drop1, hJ, ((perm_of_all hv hvn hnd hall).map (·.1)).trans (hm.keyPerm bs)⟩
  · have hpv := vs_len (mem_snoc hv hp) (nodup_snoc hvn hpn)
    refine ⟨(vs ++ [p], R2), _, FR_forget _ ⟨rfl, rfl, trivial⟩, ⟨hs, mem_snoc hv hp, nodup_snoc hvn hpn, by simpa using hJ2⟩, ?_⟩
    dsimp only; simp at hpv ⊢; omega
  · have hpv := vs_len (mem_snoc hv hp) (nodup_snoc hvn hpn)
    simp [kvs_len] at hpv ⊢; omega
theorem Keys_call (W w : World) (L : List HProp) (b : Nat) (hs : Sat W w L) :
    Calls Tryd.prog 43 [Value.map (some b)].toArray w (Ret fun v w' => ∃ pm, v = .func (.func 47) #[] #[.pointer (some ⟨pm, 0, none⟩)] ∧ Sat W w' (Cl pm [.map (some b)] 66 :: L)) := by
  refine Calls_of Tryd.func43 rfl 4 Tryd.ntmps43 rfl ?_
  (repeat' (first | (refine isLW ?_; first | refine LW_nil ?_ | refine LW_pure TOK rfl ?_ | (refine LW_box hs rfl rfl ?_; clear hs; intro _ w hs)) | (with_reducible first | refine then_n ?_ | refine CW_seq ?_ | refine CW_region ?_ | refine CW_ret ?_) | refine RET1 Tryd.results43 rfl ?_))
  exact ⟨_, rfl, hs⟩
end Go.Proofs.YthhklkpkhaibcaaDoor
