/- Walks: the container of numbers, its keys. -/
import Derived.Test.YtaofhbjlbdpjhaaF8
import Derived.Test.YtaofhbjlbdpjhaaSrt
set_option linter.unusedVariables false
set_option linter.unusedSimpArgs false
namespace Go.Proofs.Ytaofhbjlbdpjhaa
open Go Go.Sl Go.RowKit
set_option maxRecDepth 100000
attribute [local irreducible] CW LW DW FR DP Calls

theorem kvs_born (mu : Mu Int) : (kvsE mu.E).map (·.2.2) = mu.E.map (·.born) := by simp [kvsE]
theorem kvs_key (mu : Mu Int) : (kvsE mu.E).map (·.1) = mu.E.map (·.key) := by simp [kvsE]
theorem perm_of_all {vs kvs : List (Int × Value × Nat)} (hv : ∀ p ∈ vs, p ∈ kvs) (hn : (vs.map (·.2.2)).Nodup) (hk : (kvs.map (·.2.2)).Nodup) (hall : ∀ p ∈ kvs, p.2.2 ∈ vs.map (·.2.2)) : vs.Perm kvs := by
  have nd : ∀ {l : List (Int × Value × Nat)}, (l.map (·.2.2)).Nodup → l.Nodup := fun h => (List.pairwise_map.1 h).imp fun h e => h (by rw [e])
  refine (List.perm_ext_iff_of_nodup (nd hn) (nd hk)).2 fun p => ⟨hv p, fun hp => ?_⟩
  obtain ⟨q, hq, hqb⟩ := List.mem_map.1 (hall p hp)
  have hinj : ∀ {l : List (Int × Value × Nat)}, (l.map (·.2.2)).Nodup → ∀ a ∈ l, ∀ b ∈ l, a.2.2 = b.2.2 → a = b := by
    intro l
    induction l with
    | nil => intro _ a ha; cases ha
    | cons x l ih =>
      intro h a ha b hb e
      simp only [List.map_cons, List.nodup_cons] at h
      rcases List.mem_cons.1 ha with ea | ha2 <;> rcases List.mem_cons.1 hb with eb | hb2
      · rw [ea, eb]
      · rw [ea] at e; exact (h.1 (by rw [e]; exact List.mem_map_of_mem hb2)).elim
      · rw [eb] at e; exact (h.1 (by rw [← e]; exact List.mem_map_of_mem ha2)).elim
      · exact ih h.2 a ha2 b hb2 e
  rw [← hinj hk q (hv q hq) p hp hqb]; exact hq
theorem len_le_of_nodup : ∀ {l1 l2 : List Nat}, l1.Nodup → (∀ x ∈ l1, x ∈ l2) → l1.length ≤ l2.length
  | [], l2, _, _ => by simp
  | x :: l1, l2, hn, hs => by
    simp only [List.nodup_cons] at hn
    have hx := hs x List.mem_cons_self
    have ih := len_le_of_nodup hn.2 (l2 := l2.erase x) fun y hy => (List.mem_erase_of_ne (fun e => hn.1 (by rw [← e]; exact hy))).2 (hs y (List.mem_cons_of_mem _ hy))
    rw [List.length_erase_of_mem hx] at ih
    have := List.length_pos_of_mem hx
    simp only [List.length_cons]; omega
theorem sortI_le (x : List Int) : (sortI x).Pairwise (fun u v => u ≤ v) := by
  have := List.pairwise_mergeSort (le := fun u v : Int => decide (u ≤ v)) (fun a b c h1 h2 => by simp at *; omega) (fun a b => by simp; omega) x
  exact this.imp fun h => by simpa using h
theorem sortI_perm {a b : List Int} (h : a.Perm b) : sortI a = sortI b := by
  have h1 : (sortI a).Perm (sortI b) := (List.mergeSort_perm a _).trans (h.trans (List.mergeSort_perm b _).symm)
  exact List.Perm.eq_of_pairwise (fun a b _ _ h1 h2 => Int.le_antisymm h1 h2) (sortI_le a) (sortI_le b) h1
theorem Keys_call (W w : World) (L : List HProp) (mu : Mu Int) (l : List (Int × Int)) (hs : Sat W w (muL mu ++ L)) (ho : mu.Of l) (hl : l.length ≤ 100000000) :
    Calls Try.prog 27 [Value.pointer (some ⟨mu.m, 0, none⟩)].toArray w (Ret fun v w' => ∃ A' c', v = .slice A' (sortI (mu.E.map (·.key))).length c' ∧ Sat W w' (RowOf eI 3 1 A' c' (sortI (mu.E.map (·.key))) :: (muL mu ++ L))) := by
  refine Calls_of Try.func27 rfl 27 Try.ntmps27 rfl ?_
  have hne : mu.E.length ≤ 100000000 := by
    have h1 : ∀ E : List (MEnt Int), (∀ e ∈ E, e.vals ≠ []) → E.length ≤ totE E := by
      intro E
      induction E with
      | nil => intro _; simp
      | cons e E ih =>
        intro h
        have h2 := ih fun x hx => h x (List.mem_cons_of_mem _ hx)
        have h3 := List.length_pos_iff.2 (h e List.mem_cons_self)
        simp [totE] at h2 ⊢; omega
    have := h1 _ ho.ne
    have := ho.tot
    omega
  have hkl : (kvsE mu.E).length = mu.E.length := by simp [kvsE]
  have hborn : ∀ p ∈ kvsE mu.E, p.2.2 < mu.ck := by
    intro p hp
    simp only [kvsE, List.mem_map] at hp
    obtain ⟨x, hx, rfl⟩ := hp
    exact ho.lt x hx
  have hnd : ((kvsE mu.E).map (·.2.2)).Nodup := by rw [kvs_born]; exact ho.borns
  (repeat' (first | (refine isLW ?_; first | refine LW_nil ?_ | (refine isLg ?_; first | refine LW_take rfl ?_ | refine LW_pass rfl rfl ?_ | refine LW_pass0 rfl rfl ?_ | refine LW_passV rfl rfl rfl ?_) | (refine isLload ?_; first | refine LW_loadC 0 TOK hs rfl rfl rfl rfl rfl ?_ | refine LW_loadC 1 TOK hs rfl rfl rfl rfl rfl ?_ | refine LW_loadC 2 TOK hs rfl rfl rfl rfl rfl ?_ | refine LW_loadC 3 TOK hs rfl rfl rfl rfl rfl ?_) | (refine isLstore ?_; first | (refine LW_storeC 0 TOK hs rfl rfl rfl rfl rfl rfl rfl ?_; clear hs; intro w hs) | (refine LW_storeC 1 TOK hs rfl rfl rfl rfl rfl rfl rfl ?_; clear hs; intro w hs) | (refine LW_storeC 2 TOK hs rfl rfl rfl rfl rfl rfl rfl ?_; clear hs; intro w hs) | (refine LW_storeC 3 TOK hs rfl rfl rfl rfl rfl rfl rfl ?_; clear hs; intro w hs)) | (refine isLcall ?_; first | refine LW_pure TOK rfl ?_ | refine LW_pure0 TOK rfl ?_) | (refine isLidx ?_; first | refine LW_indexAddr TOK rfl rfl rfl rfl rfl (by omega) (by omega) ?_) | (refine isLbin ?_; first | refine LW_pure TOK rfl ?_ | refine LW_i64 rfl (by omega) (by omega) ?_ | (refine LW_cmp rfl (fun _ => ?_) (fun _ => ?_) <;> try (exfalso; omega)) | refine LW_nileq TOK rfl ?_ | refine LW_cmpB rfl ?_) | refine LW_lenMap keyI 1 hs TOK rfl rfl rfl rfl ?_ | (refine LW_makeSlice0 (sz := 1) TOK hs rfl rfl rfl rfl rfl rfl (by omega) (by simp; omega) (by unfold maxLen; omega) ?_; clear hs; intro A0 w hs) | (refine LW_range keyI 2 hs TOK rfl rfl rfl rfl ?_; clear hs; intro q w hs) | refine LW_pure TOK rfl ?_ | refine LW_pure0 TOK rfl ?_ | refine LW_i64 rfl (by omega) (by omega) ?_ | (refine LW_box hs rfl rfl ?_; clear hs; intro _ w hs) | (refine LW_alloc TOK hs rfl rfl ?_; clear hs; intro _ w hs) | (refine LW_makeMap hs ?_; clear hs; intro _ w hs) | (refine LW_buildSlice TOK hs rfl rfl rfl rfl rfl rfl rfl ?_; clear hs; intro _ w hs) | refine LW_build TOK rfl rfl rfl rfl rfl rfl ?_) | (refine isDP ?_; first | (refine isDnil ?_; refine DP_end ?_ ?_) | (refine isDe rfl ?_; refine DP_eff rfl rfl ?_ ?_) | (refine isDg rfl ?_; first | refine DP_pass rfl rfl rfl rfl ?_ | refine DP_passU (j' := 0) rfl rfl rfl rfl rfl ?_) | (refine isDload rfl ?_; first | refine DP_loadC 0 hs TOK rfl rfl (by first | exact trivial | rfl) rfl rfl rfl rfl rfl ?_ ?_ | refine DP_loadC 1 hs TOK rfl rfl (by first | exact trivial | rfl) rfl rfl rfl rfl rfl ?_ ?_ | refine DP_loadC 2 hs TOK rfl rfl (by first | exact trivial | rfl) rfl rfl rfl rfl rfl ?_ ?_ | refine DP_loadC 3 hs TOK rfl rfl (by first | exact trivial | rfl) rfl rfl rfl rfl rfl ?_ ?_) | (refine isDbin rfl ?_; first | refine DP_pure TOK rfl rfl (by first | exact trivial | rfl) rfl ?_ | (refine DP_cmp rfl rfl (by first | exact trivial | rfl) rfl (fun _ => ?_) (fun _ => ?_) <;> try (exfalso; omega)) | refine DP_i64 rfl rfl (by first | exact trivial | rfl) rfl (by omega) (by omega) ?_ | refine DP_cmpB rfl rfl (by first | exact trivial | rfl) rfl ?_ | refine DP_nileq TOK rfl rfl (by first | exact trivial | rfl) rfl ?_) | refine DP_pure TOK rfl rfl (by first | exact trivial | rfl) rfl ?_) | (refine isI0 ?_; exact Inv.nil) | (refine isI1 ?_; first | refine Inv.keepB hs ?_ | refine Inv.keepB (Sat.start _) ?_ | refine Inv.keepC 0 hs rfl rfl ?_ | refine Inv.keepC 1 hs rfl rfl ?_ | refine Inv.keepC 2 hs rfl rfl ?_ | refine Inv.keepC 3 hs rfl rfl ?_ | refine Inv.gone (by kernel_rfl) ?_) | (with_reducible first | refine LW_nil ?_ | refine then_n ?_ | refine CW_seq ?_ | refine CW_region ?_ | refine CW_block ?_ | refine CW_skip ?_ | refine CW_label ?_ | refine CW_exit ?_ | refine CW_ret ?_ | refine then_e ?_ | refine then_r ?_ | refine blk_n ?_ | refine blk_r ?_ | refine blk_same ?_ | refine QN_n ?_) | refine blk_other rfl ?_ | refine CW_true rfl ?_ | refine CW_false rfl ?_ | refine RET1 Try.results27 rfl ?_ | refine RET2 Try.results27 rfl rfl ?_ | refine RET3 Try.results27 rfl rfl rfl ?_ | refine RET0 Try.results27 ?_ | refine RET0n Try.results27 ?_))
  refine CW_loop (γ := List (Int × Value × Nat) × Option Addr × Nat) (fun g => [(3, .slice g.2.1 (g.1.map (·.1)).length g.2.2), (15, .pointer (some ⟨q, 0, none⟩))])
    (fun g w' => Sat W w' (It q mu.b mu.ck g.1 :: RowOf eI 3 1 g.2.1 g.2.2 (g.1.map (·.1)) :: (muL mu ++ L)) ∧ (∀ p ∈ g.1, p ∈ kvsE mu.E) ∧ (g.1.map (·.2.2)).Nodup) (fun g => (kvsE mu.E).length - g.1.length) ([], A0, _) ⟨rfl, rfl, trivial⟩ ⟨hs, by simp, by simp⟩ ?_
  clear hs
  rintro ⟨vs, B, cb⟩ τ w' ⟨hs, hv, hvn⟩
  dsimp only at hs hv hvn ⊢
  have hvl : vs.length ≤ (kvsE mu.E).length := by
    have h1 := len_le_of_nodup hvn (l2 := (kvsE mu.E).map (·.2.2)) fun x hx => by
      obtain ⟨p, hp, rfl⟩ := List.mem_map.1 hx
      exact List.mem_map_of_mem (hv p hp)
    simpa using h1
  have hml : (vs.map (·.1)).length ≤ 100000000 := by simp; omega
  (repeat' (first | (refine isLW ?_; first | refine LW_nil ?_ | (refine isLg ?_; first | refine LW_take rfl ?_ | refine LW_pass rfl rfl ?_ | refine LW_pass0 rfl rfl ?_ | refine LW_passV rfl rfl rfl ?_) | (refine isLload ?_; first | refine LW_loadC 0 TOK hs rfl rfl rfl rfl rfl ?_ | refine LW_loadC 1 TOK hs rfl rfl rfl rfl rfl ?_ | refine LW_loadC 2 TOK hs rfl rfl rfl rfl rfl ?_ | refine LW_loadC 3 TOK hs rfl rfl rfl rfl rfl ?_) | (refine isLstore ?_; first | (refine LW_storeC 0 TOK hs rfl rfl rfl rfl rfl rfl rfl ?_; clear hs; intro w hs) | (refine LW_storeC 1 TOK hs rfl rfl rfl rfl rfl rfl rfl ?_; clear hs; intro w hs) | (refine LW_storeC 2 TOK hs rfl rfl rfl rfl rfl rfl rfl ?_; clear hs; intro w hs) | (refine LW_storeC 3 TOK hs rfl rfl rfl rfl rfl rfl rfl ?_; clear hs; intro w hs)) | (refine isLcall ?_; first | (refine LW_call0 (cap := []) rfl rfl ent61 (Sort_call W _ _ B cb _ (hs.picks [1]) (by simp; omega)) ?_; clear hs; rintro _ w ⟨_, hs⟩) | (refine LW_call (cap := []) rfl rfl ent61 (Sort_call W _ _ B cb _ (hs.picks [1]) (by simp; omega)) ?_; clear hs; rintro _ w ⟨rfl, hs⟩) | refine LW_pure TOK rfl ?_ | refine LW_pure0 TOK rfl ?_ | (refine LW_append1 0 eI_ok hs TOK rfl rfl rfl rfl rfl rfl rfl rfl rfl rfl (by unfold maxLen; omega) (by simp only []; omega) ?_; clear hs; intro _ _ w hs) | (refine LW_append1 1 eI_ok hs TOK rfl rfl rfl rfl rfl rfl rfl rfl rfl rfl (by unfold maxLen; omega) (by simp only []; omega) ?_; clear hs; intro _ _ w hs) | (refine LW_append1 2 eI_ok hs TOK rfl rfl rfl rfl rfl rfl rfl rfl rfl rfl (by unfold maxLen; omega) (by simp only []; omega) ?_; clear hs; intro _ _ w hs) | (refine LW_append1 3 eI_ok hs TOK rfl rfl rfl rfl rfl rfl rfl rfl rfl rfl (by unfold maxLen; omega) (by simp only []; omega) ?_; clear hs; intro _ _ w hs)) | (refine isLidx ?_; first | refine LW_indexAddr TOK rfl rfl rfl rfl rfl (by omega) (by omega) ?_) | (refine isLbin ?_; first | refine LW_pure TOK rfl ?_ | refine LW_i64 rfl (by omega) (by omega) ?_ | (refine LW_cmp rfl (fun _ => ?_) (fun _ => ?_) <;> try (exfalso; omega)) | refine LW_nileq TOK rfl ?_ | refine LW_cmpB rfl ?_) | (refine LW_next keyI 3 0 hs rfl rfl rfl hborn (fun hall => ?_) (fun p w hp hpn hs => ?_)) | refine LW_entry keyI 3 0 hs rfl rfl rfl hp hnd ?_ | refine LW_pure TOK rfl ?_ | refine LW_pure0 TOK rfl ?_ | refine LW_i64 rfl (by omega) (by omega) ?_ | (refine LW_box hs rfl rfl ?_; clear hs; intro _ w hs) | (refine LW_alloc TOK hs rfl rfl ?_; clear hs; intro _ w hs) | (refine LW_makeMap hs ?_; clear hs; intro _ w hs) | (refine LW_buildSlice TOK hs rfl rfl rfl rfl rfl rfl rfl ?_; clear hs; intro _ w hs) | refine LW_build TOK rfl rfl rfl rfl rfl rfl ?_) | (refine isDP ?_; first | (refine isDnil ?_; refine DP_end ?_ ?_) | (refine isDe rfl ?_; refine DP_eff rfl rfl ?_ ?_) | (refine isDg rfl ?_; first | refine DP_pass rfl rfl rfl rfl ?_ | refine DP_passU (j' := 0) rfl rfl rfl rfl rfl ?_) | (refine isDload rfl ?_; first | refine DP_loadC 0 hs TOK rfl rfl (by first | exact trivial | rfl) rfl rfl rfl rfl rfl ?_ ?_ | refine DP_loadC 1 hs TOK rfl rfl (by first | exact trivial | rfl) rfl rfl rfl rfl rfl ?_ ?_ | refine DP_loadC 2 hs TOK rfl rfl (by first | exact trivial | rfl) rfl rfl rfl rfl rfl ?_ ?_ | refine DP_loadC 3 hs TOK rfl rfl (by first | exact trivial | rfl) rfl rfl rfl rfl rfl ?_ ?_) | (refine isDbin rfl ?_; first | refine DP_pure TOK rfl rfl (by first | exact trivial | rfl) rfl ?_ | (refine DP_cmp rfl rfl (by first | exact trivial | rfl) rfl (fun _ => ?_) (fun _ => ?_) <;> try (exfalso; omega)) | refine DP_i64 rfl rfl (by first | exact trivial | rfl) rfl (by omega) (by omega) ?_ | refine DP_cmpB rfl rfl (by first | exact trivial | rfl) rfl ?_ | refine DP_nileq TOK rfl rfl (by first | exact trivial | rfl) rfl ?_) | refine DP_pure TOK rfl rfl (by first | exact trivial | rfl) rfl ?_) | (refine isI0 ?_; exact Inv.nil) | (refine isI1 ?_; first | refine Inv.keepB hs ?_ | refine Inv.keepB (Sat.start _) ?_ | refine Inv.keepC 0 hs rfl rfl ?_ | refine Inv.keepC 1 hs rfl rfl ?_ | refine Inv.keepC 2 hs rfl rfl ?_ | refine Inv.keepC 3 hs rfl rfl ?_ | refine Inv.gone (by kernel_rfl) ?_) | (with_reducible first | refine LW_nil ?_ | refine then_n ?_ | refine CW_seq ?_ | refine CW_region ?_ | refine CW_block ?_ | refine CW_skip ?_ | refine CW_label ?_ | refine CW_exit ?_ | refine CW_ret ?_ | refine then_e ?_ | refine then_r ?_ | refine blk_n ?_ | refine blk_r ?_ | refine blk_same ?_ | refine QN_n ?_) | refine blk_other rfl ?_ | refine CW_true rfl ?_ | refine CW_false rfl ?_ | refine RET1 Try.results27 rfl ?_ | refine RET2 Try.results27 rfl rfl ?_ | refine RET3 Try.results27 rfl rfl rfl ?_ | refine RET0 Try.results27 ?_ | refine RET0n Try.results27 ?_))
  · have hpm : (sortI (vs.map (·.1))) = sortI (mu.E.map (·.key)) := by
      have h1 := (perm_of_all hv hvn hnd hall).map (·.1)
      rw [kvs_key] at h1
      exact sortI_perm h1
    have hlen : (vs.map (·.1)).length = (sortI (mu.E.map (·.key))).length := by rw [← hpm, sortI_len]
    rw [hlen]
    rw [hpm] at hs
    exact ⟨B, cb, rfl, Sat.drop1 (hs.picks [1])⟩
  · rename_i B' cb'
    have hpv : (vs ++ [p]).length ≤ (kvsE mu.E).length := by
      have h1 := len_le_of_nodup (l1 := (vs ++ [p]).map (·.2.2)) (l2 := (kvsE mu.E).map (·.2.2)) (by
        rw [List.map_append, List.nodup_append]
        refine ⟨hvn, by simp, ?_⟩
        intro a ha b hb hab
        simp at hb; subst hb; subst hab
        exact hpn ha) fun x hx => by
          obtain ⟨u, hu, rfl⟩ := List.mem_map.1 hx
          rcases List.mem_append.1 hu with hu | hu
          · exact List.mem_map_of_mem (hv u hu)
          · rw [List.mem_singleton] at hu; subst hu; exact List.mem_map_of_mem hp
      simpa using h1
    have e : vs.map (·.1) ++ [p.1] = (vs ++ [p]).map (·.1) := by simp
    rw [e] at hs
    refine ⟨(vs ++ [p], B', cb'), _, FR_forget _ ⟨by rw [← e]; rfl, rfl, trivial⟩, ⟨hs, ?_, ?_⟩, ?_⟩
    · intro u hu
      rcases List.mem_append.1 hu with hu | hu
      · exact hv u hu
      · rw [List.mem_singleton] at hu; subst hu; exact hp
    · dsimp only
      rw [List.map_append, List.nodup_append]
      refine ⟨hvn, by simp, ?_⟩
      intro a ha b hb hab
      simp at hb; subst hb; subst hab
      exact hpn ha
    · dsimp only; simp at hpv ⊢; omega
end Go.Proofs.Ytaofhbjlbdpjhaa
