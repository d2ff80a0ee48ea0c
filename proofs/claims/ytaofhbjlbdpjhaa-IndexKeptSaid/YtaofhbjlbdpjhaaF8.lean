/- Walks: the container of numbers, a key dropped. -/
import Derived.Test.YtaofhbjlbdpjhaaF7
set_option linter.unusedVariables false
set_option linter.unusedSimpArgs false
namespace Go.Proofs.Ytaofhbjlbdpjhaa
open Go Go.Sl Go.RowKit
set_option maxRecDepth 100000
attribute [local irreducible] CW LW DW FR DP Calls

theorem Drop_of (W w : World) (L : List HProp) (mu : Mu Int) (l : List (Int × Int)) (k : Int) (hs : Sat W w (muL mu ++ L)) (ho : mu.Of l) (hl : l.length ≤ 100000000) :
    Calls Try.prog 30 [Value.pointer (some ⟨mu.m, 0, none⟩), .int .i64 k].toArray w (Ret fun v w' => v = .int .i64 (getK l k).length ∧ ∃ mu', mu'.m = mu.m ∧ mu'.b = mu.b ∧ mu'.Of (dropKey l k) ∧ mu.grows mu' ∧ Sat W w' (muL mu' ++ L)) := by
  refine Calls_of Try.func30 rfl 27 Try.ntmps30 rfl ?_
  have ht := ho.tot
  have hgk := getK_len l k
  have htl : totE mu.E ≤ 100000000 := by omega
  obtain ⟨A, c, hfv⟩ : ∃ A c, (findV (kvsE mu.E) k).getD (.slice none 0 0) = .slice A (getK l k).length c := by
    rcases ho.find k with ⟨E1, e, E2, hE, hk, h1, h2, hv⟩ | ⟨h1, hg⟩
    · refine ⟨e.A, e.c, ?_⟩
      rw [hE, ← hv]; subst hk
      have hkk : kvsE (E1 ++ e :: E2) = kvsE E1 ++ (e.key, .slice e.A e.vals.length e.c, e.born) :: kvsE E2 := by simp [kvsE]
      rw [hkk, findV_mid (kvsE_keys h1)]; rfl
    · exact ⟨none, 0, by rw [findV_none (kvsE_keys h1), hg]; rfl⟩
  (repeat' (first | (refine isLW ?_; first | refine LW_nil ?_ | (refine isLg ?_; first | refine LW_take rfl ?_ | refine LW_pass rfl rfl ?_ | refine LW_pass0 rfl rfl ?_ | refine LW_passV rfl rfl rfl ?_) | (refine isLload ?_; first | refine LW_loadC 0 TOK hs rfl rfl rfl rfl rfl ?_ | refine LW_loadC 1 TOK hs rfl rfl rfl rfl rfl ?_ | refine LW_loadC 2 TOK hs rfl rfl rfl rfl rfl ?_) | (refine isLstore ?_; first | (refine LW_storeC 0 TOK hs rfl rfl rfl rfl rfl rfl rfl ?_; clear hs; intro w hs) | (refine LW_storeC 1 TOK hs rfl rfl rfl rfl rfl rfl rfl ?_; clear hs; intro w hs) | (refine LW_storeC 2 TOK hs rfl rfl rfl rfl rfl rfl rfl ?_; clear hs; intro w hs)) | (refine isLcall ?_; first | refine LW_pure TOK rfl ?_ | refine LW_pure0 TOK rfl ?_) | (refine isLidx ?_; first | refine LW_indexAddr TOK rfl rfl rfl rfl rfl (by omega) (by omega) ?_) | (refine isLbin ?_; first | refine LW_pure TOK rfl ?_ | refine LW_i64 rfl (by omega) (by omega) ?_ | (refine LW_cmp rfl (fun _ => ?_) (fun _ => ?_) <;> try (exfalso; omega)) | refine LW_nileq TOK rfl ?_ | refine LW_cmpB rfl ?_) | refine LW_lookup keyI 1 hs TOK rfl rfl rfl rfl rfl rfl rfl rfl hfv ?_ | (refine LW_delete keyI 1 hs TOK rfl rfl rfl rfl rfl rfl ?_; clear hs; intro w hs) | refine LW_pure TOK rfl ?_ | refine LW_pure0 TOK rfl ?_ | refine LW_i64 rfl (by omega) (by omega) ?_ | (refine LW_box hs rfl rfl ?_; clear hs; intro _ w hs) | (refine LW_alloc TOK hs rfl rfl ?_; clear hs; intro _ w hs) | (refine LW_makeMap hs ?_; clear hs; intro _ w hs) | (refine LW_buildSlice TOK hs rfl rfl rfl rfl rfl rfl rfl ?_; clear hs; intro _ w hs) | refine LW_build TOK rfl rfl rfl rfl rfl rfl ?_) | (refine isDP ?_; first | (refine isDnil ?_; refine DP_end ?_ ?_) | (refine isDe rfl ?_; refine DP_eff rfl rfl ?_ ?_) | (refine isDg rfl ?_; first | refine DP_pass rfl rfl rfl rfl ?_ | refine DP_passU (j' := 0) rfl rfl rfl rfl rfl ?_) | (refine isDload rfl ?_; first | refine DP_loadC 0 hs TOK rfl rfl (by first | exact trivial | rfl) rfl rfl rfl rfl rfl ?_ ?_ | refine DP_loadC 1 hs TOK rfl rfl (by first | exact trivial | rfl) rfl rfl rfl rfl rfl ?_ ?_ | refine DP_loadC 2 hs TOK rfl rfl (by first | exact trivial | rfl) rfl rfl rfl rfl rfl ?_ ?_) | (refine isDbin rfl ?_; first | refine DP_pure TOK rfl rfl (by first | exact trivial | rfl) rfl ?_ | (refine DP_cmp rfl rfl (by first | exact trivial | rfl) rfl (fun _ => ?_) (fun _ => ?_) <;> try (exfalso; omega)) | refine DP_i64 rfl rfl (by first | exact trivial | rfl) rfl (by omega) (by omega) ?_ | refine DP_cmpB rfl rfl (by first | exact trivial | rfl) rfl ?_ | refine DP_nileq TOK rfl rfl (by first | exact trivial | rfl) rfl ?_) | refine DP_pure TOK rfl rfl (by first | exact trivial | rfl) rfl ?_) | (refine isI0 ?_; exact Inv.nil) | (refine isI1 ?_; first | refine Inv.keepB hs ?_ | refine Inv.keepB (Sat.start _) ?_ | refine Inv.keepC 0 hs rfl rfl ?_ | refine Inv.keepC 1 hs rfl rfl ?_ | refine Inv.keepC 2 hs rfl rfl ?_ | refine Inv.gone (by kernel_rfl) ?_) | (with_reducible first | refine LW_nil ?_ | refine then_n ?_ | refine CW_seq ?_ | refine CW_region ?_ | refine CW_block ?_ | refine CW_skip ?_ | refine CW_label ?_ | refine CW_exit ?_ | refine CW_ret ?_ | refine then_e ?_ | refine then_r ?_ | refine blk_n ?_ | refine blk_r ?_ | refine blk_same ?_ | refine QN_n ?_) | refine blk_other rfl ?_ | refine CW_true rfl ?_ | refine CW_false rfl ?_ | refine RET1 Try.results30 rfl ?_ | refine RET2 Try.results30 rfl rfl ?_ | refine RET3 Try.results30 rfl rfl rfl ?_ | refine RET0 Try.results30 ?_ | refine RET0n Try.results30 ?_))
  refine ⟨rfl, ?_⟩
  obtain ⟨m, b, ck, E, R⟩ := mu
  simp only at ht htl
  rcases ho.find k with ⟨E1, e, E2, hE, hk, h1, h2, hv⟩ | ⟨h1, hg⟩
  · simp only at hE
    subst hE
    subst hk
    have hkk : kvsE (E1 ++ e :: E2) = kvsE E1 ++ (e.key, .slice e.A e.vals.length e.c, e.born) :: kvsE E2 := by simp [kvsE]
    refine ⟨⟨m, b, ck, E1 ++ E2, e :: R⟩, rfl, rfl, ho.del_old rfl h1 h2 _, ?_, ?_⟩
    · intro x hx
      refine ⟨x, ?_, rfl, List.prefix_refl _⟩
      simp only [List.mem_append, List.mem_cons] at hx ⊢
      rcases hx with (hx | hx | hx) | hx
      · exact .inl (.inl hx)
      · exact .inr (.inl hx)
      · exact .inl (.inr hx)
      · exact .inr (.inr hx)
    · have h3 : Sat W w ([Cl m [.map (some b), .int .i64 (totE (E1 ++ e :: E2) - (getK l e.key).length)] 109, Mp keyI b (delV (kvsE (E1 ++ e :: E2)) e.key) ck] ++ Big (rowsE eI 3 E1 ++ RowOf eI 3 1 e.A e.c e.vals :: rowsE eI 3 E2) :: (Big (rowsE eI 3 R) :: L)) := by
        have e1 : rowsE eI 3 (E1 ++ e :: E2) = rowsE eI 3 E1 ++ RowOf eI 3 1 e.A e.c e.vals :: rowsE eI 3 E2 := by simp [rowsE]
        rw [← e1]; exact hs
      have h4 := h3.openBig
      rw [hkk, delV_mid (kvsE_keys h1), ← kvsE_append, ← rowsE_append] at h4
      have h5 : ((totE (E1 ++ e :: E2) : Nat) : Int) - ((getK l e.key).length : Int) = ((totE (E1 ++ E2) : Nat) : Int) := by rw [totE_mid, hv]; omega
      rw [h5] at h4
      exact Sat.closeBig (X := [_, _, _]) (l1 := []) h4
  · simp only at h1
    have h3 : delV (kvsE E) k = kvsE E := delV_none (kvsE_keys h1)
    refine ⟨⟨m, b, ck, E, R⟩, rfl, rfl, by rw [dropKey_none hg]; exact ho, Mu.grows.refl _, ?_⟩
    have h4 : Sat W w ([Cl m [.map (some b), .int .i64 (totE E - (getK l k).length)] 109, Mp keyI b (delV (kvsE E) k) ck] ++ Big (rowsE eI 3 E) :: (Big (rowsE eI 3 R) :: L)) := hs
    rw [h3, hg] at h4
    simp only [List.length_nil, Int.ofNat_zero, Int.sub_zero] at h4
    exact h4
end Go.Proofs.Ytaofhbjlbdpjhaa
