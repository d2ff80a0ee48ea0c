/- Walks: lists that were handed out are written full, lengthened, and kept (ints). Printed by tools/gen30.py. -/
import Derived.Test.YtaofhbjlbdpjhaaF42
import Derived.Test.YtaofhbjlbdpjhaaSlDraw4
set_option linter.unusedVariables false
set_option linter.unusedSimpArgs false
namespace Go.Proofs.Ytaofhbjlbdpjhaa
open Go Go.Sl Go.RowKit
set_option maxRecDepth 100000
attribute [local irreducible] CW LW DW FR DP DX DY Calls

set_option maxHeartbeats 40000000 in
theorem take_callI (W w : World) (X : List HProp) (bb : Nat) (ls : List (Option Addr × Nat × Nat)) (ms b : List Int) (LA MA A : Option Addr) (lc mc c : Nat) (hs : Sat W w (Cl bb [.slice LA ls.length lc, .slice MA ms.length mc] 44 :: RowOf eH 42 1 LA lc ls :: RowOf eI 3 1 MA mc ms :: RowOf eI 3 1 A c b :: X)) (hl : ls.length ≤ 1000000) (hm : ms.length ≤ 1000000) (hb : b.length ≤ 100000000) :
    Calls Try.prog 26 [Value.pointer (some ⟨bb, 0, none⟩), .slice A b.length c].toArray w (Ret fun v w' => v = .tuple #[] ∧ ∃ (m : Int) (h4 : List (Option Addr × Nat × Nat)) (LA' MA' : Option Addr) (lc' mc' : Nat) (Y : List HProp),
      Sat W w' (Cl bb [.slice LA' (ls ++ h4).length lc', .slice MA' (ms ++ [m, m, m, m]).length mc'] 44 :: RowOf eH 42 1 LA' lc' (ls ++ h4) :: RowOf eI 3 1 MA' mc' (ms ++ [m, m, m, m]) :: (Y ++ X)) ∧ h4.length = 4 ∧ (∀ x ∈ h4, x.2.1 ≤ b.length + 3) ∧ ∀ w'', Sat W w'' Y → ∀ x ∈ h4, Rd eI w'' x.1 (List.replicate x.2.1 m)) := by
  refine Calls_of Try.func26 rfl 61 Try.ntmps26 rfl ?_
  obtain ⟨m, hmz⟩ : ∃ m : Int, 0 - (ls.length : Int) - 7 = m := ⟨_, rfl⟩
  have hnc : b.length ≤ c := Sat.rowLe (hs.picks [3])
  (repeat' (first | (refine isLW ?_; first | refine LW_nil ?_ | (refine isLg ?_; first | refine LW_take rfl ?_ | refine LW_pass rfl rfl ?_ | refine LW_pass0 rfl rfl ?_ | refine LW_passV rfl rfl rfl ?_) | (refine isLload ?_; first | refine LW_loadC 0 TOK hs rfl rfl rfl rfl rfl ?_) | (refine isLstore ?_; first | (refine LW_storeC 0 TOK hs rfl rfl rfl rfl rfl rfl rfl ?_; clear hs; intro w hs)) | (refine isLcall ?_; first | refine LW_pure TOK rfl ?_ | refine LW_pure0 TOK rfl ?_) | (refine isLidx ?_; first | refine LW_indexAddr TOK rfl rfl rfl rfl rfl (by omega) (by omega) ?_) | (refine isLbin ?_; first | refine LW_pure TOK rfl ?_ | refine LW_i64 rfl (by omega) (by omega) ?_ | (refine LW_cmp rfl (fun _ => ?_) (fun _ => ?_) <;> try (exfalso; omega)) | refine LW_nileq TOK rfl ?_ | refine LW_cmpB rfl ?_) | refine LW_pure TOK rfl ?_ | refine LW_pure0 TOK rfl ?_ | refine LW_i64 rfl (by omega) (by omega) ?_ | (refine LW_box hs rfl rfl ?_; clear hs; intro _ w hs) | (refine LW_alloc TOK hs rfl rfl ?_; clear hs; intro _ w hs) | (refine LW_makeMap hs ?_; clear hs; intro _ w hs) | (refine LW_buildSlice TOK hs rfl rfl rfl rfl rfl rfl rfl ?_; clear hs; intro _ w hs) | refine LW_build TOK rfl rfl rfl rfl rfl rfl ?_) | (refine isDP ?_; first | (refine isDnil ?_; refine DP_end ?_ ?_) | (refine isDe rfl ?_; refine DP_eff rfl rfl ?_ ?_) | (refine isDg rfl ?_; first | refine DP_pass rfl rfl rfl rfl ?_ | refine DP_passU (j' := 0) rfl rfl rfl rfl rfl ?_) | (refine isDload rfl ?_; first | refine DP_loadC 0 hs TOK rfl rfl (by first | exact trivial | rfl) rfl rfl rfl rfl rfl ?_ ?_) | (refine isDbin rfl ?_; first | refine DP_pure TOK rfl rfl (by first | exact trivial | rfl) rfl ?_ | (refine DP_cmp rfl rfl (by first | exact trivial | rfl) rfl (fun _ => ?_) (fun _ => ?_) <;> try (exfalso; omega)) | refine DP_i64 rfl rfl (by first | exact trivial | rfl) rfl (by omega) (by omega) ?_ | refine DP_cmpB rfl rfl (by first | exact trivial | rfl) rfl ?_ | refine DP_nileq TOK rfl rfl (by first | exact trivial | rfl) rfl ?_) | refine DP_pure TOK rfl rfl (by first | exact trivial | rfl) rfl ?_) | (refine isI0 ?_; exact Inv.nil) | (refine isI1 ?_; first | refine Inv.keepB hs ?_ | refine Inv.keepB (Sat.start _) ?_ | refine Inv.keepC 0 hs rfl rfl ?_ | refine Inv.gone (by kernel_rfl) ?_) | (with_reducible first | refine LW_nil ?_ | refine then_n ?_ | refine CW_seq ?_ | refine CW_region ?_ | refine CW_block ?_ | refine CW_skip ?_ | refine CW_label ?_ | refine CW_exit ?_ | refine CW_ret ?_ | refine then_e ?_ | refine then_r ?_ | refine blk_n ?_ | refine blk_r ?_ | refine blk_same ?_ | refine QN_n ?_) | refine blk_other rfl ?_ | refine CW_true rfl ?_ | refine CW_false rfl ?_ | refine RET1 Try.results26 rfl ?_ | refine RET2 Try.results26 rfl rfl ?_ | refine RET3 Try.results26 rfl rfl rfl ?_ | refine RET0 Try.results26 ?_ | refine RET0n Try.results26 ?_))
  rw [hmz]
  refine CW_loop (γ := Nat × List Int) (fun g => [(0, .pointer (some ⟨bb, 0, none⟩)), (1, .slice A b.length c), (4, .int .i64 m), (5, .int .i64 (g.1 : Int))])
    (fun g w' => Sat W w' (Cl bb [.slice LA ls.length lc, .slice MA ms.length mc] 44 :: RowOf eH 42 1 LA lc ls :: RowOf eI 3 1 MA mc ms :: RowOf eI 3 1 A c g.2 :: X) ∧ g.2.length = b.length ∧ g.1 ≤ b.length ∧ g.2.take g.1 = List.replicate g.1 m) (fun g => b.length - g.1) (0, b) ⟨rfl, rfl, rfl, rfl, trivial⟩ ⟨hs, rfl, by simp, rfl⟩ ?_
  clear hs
  rintro ⟨i, x⟩ τ w ⟨hs, hx, hi, hr⟩
  dsimp only at hs hx hi hr ⊢
  by_cases hil : i < b.length
  · (repeat' (first | (refine isLW ?_; first | refine LW_nil ?_ | (refine isLg ?_; first | refine LW_take rfl ?_ | refine LW_pass rfl rfl ?_ | refine LW_pass0 rfl rfl ?_ | refine LW_passV rfl rfl rfl ?_) | (refine isLload ?_; first | refine LW_loadC 0 TOK hs rfl rfl rfl rfl rfl ?_) | (refine isLstore ?_; first | (refine LW_storeRow 3 eI_ok (z := m) hs TOK rfl (by assumption) rfl rfl rfl rfl rfl (by omega) (by omega) ?_; clear hs; intro w hs) | (refine LW_storeC 0 TOK hs rfl rfl rfl rfl rfl rfl rfl ?_; clear hs; intro w hs)) | (refine isLcall ?_; first | refine LW_pure TOK rfl ?_ | refine LW_pure0 TOK rfl ?_) | (refine isLidx ?_; first | (refine LW_indexRdN (hs.rd 3 rfl) TOK rfl rfl rfl rfl rfl (by omega) (by omega) (by omega) ?_; intro _ _ _) | refine LW_indexAddr TOK rfl rfl rfl rfl rfl (by omega) (by omega) ?_) | (refine isLbin ?_; first | refine LW_pure TOK rfl ?_ | refine LW_i64 rfl (by omega) (by omega) ?_ | (refine LW_cmp rfl (fun _ => ?_) (fun _ => ?_) <;> try (exfalso; omega)) | refine LW_nileq TOK rfl ?_ | refine LW_cmpB rfl ?_) | refine LW_pure TOK rfl ?_ | refine LW_pure0 TOK rfl ?_ | refine LW_i64 rfl (by omega) (by omega) ?_ | (refine LW_box hs rfl rfl ?_; clear hs; intro _ w hs) | (refine LW_alloc TOK hs rfl rfl ?_; clear hs; intro _ w hs) | (refine LW_makeMap hs ?_; clear hs; intro _ w hs) | (refine LW_buildSlice TOK hs rfl rfl rfl rfl rfl rfl rfl ?_; clear hs; intro _ w hs) | refine LW_build TOK rfl rfl rfl rfl rfl rfl ?_) | (refine isDP ?_; first | (refine isDnil ?_; refine DP_end ?_ ?_) | (refine isDe rfl ?_; refine DP_eff rfl rfl ?_ ?_) | (refine isDg rfl ?_; first | refine DP_pass rfl rfl rfl rfl ?_ | refine DP_passU (j' := 0) rfl rfl rfl rfl rfl ?_) | (refine isDload rfl ?_; first | refine DP_loadC 0 hs TOK rfl rfl (by first | exact trivial | rfl) rfl rfl rfl rfl rfl ?_ ?_) | (refine isDbin rfl ?_; first | refine DP_pure TOK rfl rfl (by first | exact trivial | rfl) rfl ?_ | (refine DP_cmp rfl rfl (by first | exact trivial | rfl) rfl (fun _ => ?_) (fun _ => ?_) <;> try (exfalso; omega)) | refine DP_i64 rfl rfl (by first | exact trivial | rfl) rfl (by omega) (by omega) ?_ | refine DP_cmpB rfl rfl (by first | exact trivial | rfl) rfl ?_ | refine DP_nileq TOK rfl rfl (by first | exact trivial | rfl) rfl ?_) | refine DP_pure TOK rfl rfl (by first | exact trivial | rfl) rfl ?_) | (refine isI0 ?_; exact Inv.nil) | (refine isI1 ?_; first | refine Inv.keepB hs ?_ | refine Inv.keepB (Sat.start _) ?_ | refine Inv.keepC 0 hs rfl rfl ?_ | refine Inv.gone (by kernel_rfl) ?_) | (with_reducible first | refine LW_nil ?_ | refine then_n ?_ | refine CW_seq ?_ | refine CW_region ?_ | refine CW_block ?_ | refine CW_skip ?_ | refine CW_label ?_ | refine CW_exit ?_ | refine CW_ret ?_ | refine then_e ?_ | refine then_r ?_ | refine blk_n ?_ | refine blk_r ?_ | refine blk_same ?_ | refine QN_n ?_) | refine blk_other rfl ?_ | refine CW_true rfl ?_ | refine CW_false rfl ?_ | refine RET1 Try.results26 rfl ?_ | refine RET2 Try.results26 rfl rfl ?_ | refine RET3 Try.results26 rfl rfl rfl ?_ | refine RET0 Try.results26 ?_ | refine RET0n Try.results26 ?_))
    exact ⟨(i + 1, x.set i m), _, FR_forget _ ⟨rfl, rfl, rfl, rfl, trivial⟩, ⟨hs, by simpa using hx, by dsimp only; omega, set_full hr (by omega)⟩, by dsimp only; omega⟩
  · have hxm : x = List.replicate b.length m := by
      have hib : i = b.length := by omega
      rw [hib, List.take_of_length_le (by omega)] at hr
      exact hr
    subst hxm
    (repeat' (first | refine CW_stopR (i := 5) ?_ | (refine isLW ?_; first | refine LW_nil ?_ | (refine isLg ?_; first | refine LW_take rfl ?_ | refine LW_pass rfl rfl ?_ | refine LW_pass0 rfl rfl ?_ | refine LW_passV rfl rfl rfl ?_) | (refine isLload ?_; first | refine LW_loadC 0 TOK hs rfl rfl rfl rfl rfl ?_) | (refine isLstore ?_; first | (refine LW_storeC 0 TOK hs rfl rfl rfl rfl rfl rfl rfl ?_; clear hs; intro w hs)) | (refine isLcall ?_; first | refine LW_pure TOK rfl ?_ | refine LW_pure0 TOK rfl ?_) | (refine isLidx ?_; first | refine LW_indexAddr TOK rfl rfl rfl rfl rfl (by omega) (by omega) ?_) | (refine isLbin ?_; first | refine LW_pure TOK rfl ?_ | refine LW_i64 rfl (by omega) (by omega) ?_ | (refine LW_cmp rfl (fun _ => ?_) (fun _ => ?_) <;> try (exfalso; omega)) | refine LW_nileq TOK rfl ?_ | refine LW_cmpB rfl ?_) | refine LW_pure TOK rfl ?_ | refine LW_pure0 TOK rfl ?_ | refine LW_i64 rfl (by omega) (by omega) ?_ | (refine LW_box hs rfl rfl ?_; clear hs; intro _ w hs) | (refine LW_alloc TOK hs rfl rfl ?_; clear hs; intro _ w hs) | (refine LW_makeMap hs ?_; clear hs; intro _ w hs) | (refine LW_buildSlice TOK hs rfl rfl rfl rfl rfl rfl rfl ?_; clear hs; intro _ w hs) | refine LW_build TOK rfl rfl rfl rfl rfl rfl ?_) | (refine isDP ?_; first | (refine isDnil ?_; refine DP_end ?_ ?_) | (refine isDe rfl ?_; refine DP_eff rfl rfl ?_ ?_) | (refine isDg rfl ?_; first | refine DP_pass rfl rfl rfl rfl ?_ | refine DP_passU (j' := 0) rfl rfl rfl rfl rfl ?_) | (refine isDload rfl ?_; first | refine DP_loadC 0 hs TOK rfl rfl (by first | exact trivial | rfl) rfl rfl rfl rfl rfl ?_ ?_) | (refine isDbin rfl ?_; first | refine DP_pure TOK rfl rfl (by first | exact trivial | rfl) rfl ?_ | (refine DP_cmp rfl rfl (by first | exact trivial | rfl) rfl (fun _ => ?_) (fun _ => ?_) <;> try (exfalso; omega)) | refine DP_i64 rfl rfl (by first | exact trivial | rfl) rfl (by omega) (by omega) ?_ | refine DP_cmpB rfl rfl (by first | exact trivial | rfl) rfl ?_ | refine DP_nileq TOK rfl rfl (by first | exact trivial | rfl) rfl ?_) | refine DP_pure TOK rfl rfl (by first | exact trivial | rfl) rfl ?_) | (refine isI0 ?_; exact Inv.nil) | (refine isI1 ?_; first | refine Inv.keepB hs ?_ | refine Inv.keepB (Sat.start _) ?_ | refine Inv.keepC 0 hs rfl rfl ?_ | refine Inv.gone (by kernel_rfl) ?_) | (with_reducible first | refine LW_nil ?_ | refine then_n ?_ | refine CW_seq ?_ | refine CW_region ?_ | refine CW_block ?_ | refine CW_skip ?_ | refine CW_label ?_ | refine CW_exit ?_ | refine CW_ret ?_ | refine then_e ?_ | refine then_r ?_ | refine blk_n ?_ | refine blk_r ?_ | refine blk_same ?_ | refine QN_n ?_) | refine blk_other rfl ?_ | refine CW_true rfl ?_ | refine CW_false rfl ?_ | refine RET1 Try.results26 rfl ?_ | refine RET2 Try.results26 rfl rfl ?_ | refine RET3 Try.results26 rfl rfl rfl ?_ | refine RET0 Try.results26 ?_ | refine RET0n Try.results26 ?_))
    refine ⟨?_⟩
    refine CW_late1 (fun a w => ∃ (τ : Nat → Value) (LA' : Option Addr) (lc' : Nat) (h4 : List (Option Addr × Nat × Nat)) (Y : List HProp), a = FR 61 [(0, .pointer (some ⟨bb, 0, none⟩)), (4, .int .i64 m)] τ [] ∧ Sat W w (Cl bb [.slice LA' (ls ++ h4).length lc', .slice MA ms.length mc] 44 :: RowOf eH 42 1 LA' lc' (ls ++ h4) :: RowOf eI 3 1 MA mc ms :: (Y ++ X)) ∧ h4.length = 4 ∧ (∀ x ∈ h4, x.2.1 ≤ b.length + 3) ∧ ∀ w'', Sat W w'' Y → ∀ x ∈ h4, Rd eI w'' x.1 (List.replicate x.2.1 m)) ?_ ?_
    · clear hs
      rintro _ w ⟨τ, LA', lc', h4, Y, rfl, hs, h41, h42, h43⟩
      (repeat' (first | (refine isLW ?_; first | refine LW_nil ?_ | (refine isLg ?_; first | refine LW_take rfl ?_ | refine LW_pass rfl rfl ?_ | refine LW_pass0 rfl rfl ?_ | refine LW_passV rfl rfl rfl ?_) | (refine isLload ?_; first | refine LW_loadC 0 TOK hs rfl rfl rfl rfl rfl ?_) | (refine isLstore ?_; first | (refine LW_storeC 1 TOK hs rfl rfl rfl rfl rfl rfl rfl ?_; clear hs; intro w hs) | (refine LW_storeC 0 TOK hs rfl rfl rfl rfl rfl rfl rfl ?_; clear hs; intro w hs)) | (refine isLcall ?_; first | (refine LW_append 3 eI_ok.1 (ys := [m, m, m, m]) hs TOK rfl rfl (hs.rdC (t := 3) 0 rfl) eI_ok.2 rfl rfl rfl rfl rfl rfl rfl (by simp only [List.length_cons, List.length_nil]; unfold maxLen; omega) (by simp only [List.length_cons, List.length_nil]; omega) ?_; clear hs; intro MA' mc' w hs) | refine LW_pure TOK rfl ?_ | refine LW_pure0 TOK rfl ?_) | (refine isLidx ?_; first | refine LW_indexAddr TOK rfl rfl rfl rfl rfl (by omega) (by omega) ?_) | (refine isLbin ?_; first | refine LW_pure TOK rfl ?_ | refine LW_i64 rfl (by omega) (by omega) ?_ | (refine LW_cmp rfl (fun _ => ?_) (fun _ => ?_) <;> try (exfalso; omega)) | refine LW_nileq TOK rfl ?_ | refine LW_cmpB rfl ?_) | refine LW_pure TOK rfl ?_ | refine LW_pure0 TOK rfl ?_ | refine LW_i64 rfl (by omega) (by omega) ?_ | (refine LW_box hs rfl rfl ?_; clear hs; intro _ w hs) | (refine LW_alloc TOK hs rfl rfl ?_; clear hs; intro _ w hs) | (refine LW_makeMap hs ?_; clear hs; intro _ w hs) | (refine LW_buildSlice TOK hs rfl rfl rfl rfl rfl rfl rfl ?_; clear hs; intro _ w hs) | refine LW_build TOK rfl rfl rfl rfl rfl rfl ?_) | (refine isDP ?_; first | (refine isDnil ?_; refine DP_end ?_ ?_) | (refine isDe rfl ?_; refine DP_eff rfl rfl ?_ ?_) | (refine isDg rfl ?_; first | refine DP_pass rfl rfl rfl rfl ?_ | refine DP_passU (j' := 0) rfl rfl rfl rfl rfl ?_) | (refine isDload rfl ?_; first | refine DP_loadC 0 hs TOK rfl rfl (by first | exact trivial | rfl) rfl rfl rfl rfl rfl ?_ ?_) | (refine isDbin rfl ?_; first | refine DP_pure TOK rfl rfl (by first | exact trivial | rfl) rfl ?_ | (refine DP_cmp rfl rfl (by first | exact trivial | rfl) rfl (fun _ => ?_) (fun _ => ?_) <;> try (exfalso; omega)) | refine DP_i64 rfl rfl (by first | exact trivial | rfl) rfl (by omega) (by omega) ?_ | refine DP_cmpB rfl rfl (by first | exact trivial | rfl) rfl ?_ | refine DP_nileq TOK rfl rfl (by first | exact trivial | rfl) rfl ?_) | refine DP_pure TOK rfl rfl (by first | exact trivial | rfl) rfl ?_) | (refine isI0 ?_; exact Inv.nil) | (refine isI1 ?_; first | refine Inv.keepB hs ?_ | refine Inv.keepB (Sat.start _) ?_ | refine Inv.keepC 0 hs rfl rfl ?_ | refine Inv.gone (by kernel_rfl) ?_) | (with_reducible first | refine LW_nil ?_ | refine then_n ?_ | refine CW_seq ?_ | refine CW_region ?_ | refine CW_block ?_ | refine CW_skip ?_ | refine CW_label ?_ | refine CW_exit ?_ | refine CW_ret ?_ | refine then_e ?_ | refine then_r ?_ | refine blk_n ?_ | refine blk_r ?_ | refine blk_same ?_ | refine QN_n ?_) | refine blk_other rfl ?_ | refine CW_true rfl ?_ | refine CW_false rfl ?_ | refine RET1 Try.results26 rfl ?_ | refine RET2 Try.results26 rfl rfl ?_ | refine RET3 Try.results26 rfl rfl rfl ?_ | refine RET0 Try.results26 ?_ | refine RET0n Try.results26 ?_))
      exact ⟨rfl, m, h4, LA', MA', lc', mc', Y, hs.drop1, h41, h42, h43⟩
    · intro hlate
      refine CW_seq ?_
      refine CW_drawX (id := 5) [8, 9, 13, 14, 19, 20, 21, 22, 25] [0, 1, 2, 3, 4, 5, 6, 7, 10, 11, 12, 15, 16, 17, 18] 11 mixed (by kernel_rfl) hs ?_
      clear hs; intro hs
      refine DY_pure TOK rfl rfl ?_
      refine DY_pure TOK rfl rfl ?_
      refine DY_pure TOK rfl rfl ?_
      refine DY_pure TOK rfl rfl ?_
      refine DY_loadC 0 hs TOK rfl rfl rfl rfl rfl rfl Inv.nil ?_
      refine DY_pure TOK rfl rfl ?_
      refine DY_pure TOK rfl rfl ?_
      refine DY_pure TOK rfl rfl ?_
      refine DY_pure TOK rfl rfl ?_
      refine DY_pure TOK rfl rfl ?_
      refine DY_pure TOK rfl rfl ?_
      refine DY_pure TOK rfl rfl ?_
      refine DY_pure TOK rfl rfl ?_
      refine DY_pure TOK rfl rfl ?_
      refine DY_pure TOK rfl rfl ?_
      refine DY_nil ?_
      refine DX_3 8 13 19 rfl rfl rfl (by kernel_rfl) (Inv.keepC 0 hs rfl rfl Inv.nil) ?_ ?_ ?_ 
      · refine LW_buildSlice TOK hs rfl rfl rfl rfl rfl rfl rfl ?_
        clear hs; intro b1 w hs; refine LW_nil (QN_n ?_)
        refine DX_3 9 13 19 rfl rfl rfl (by kernel_rfl) (Inv.keepC 1 hs rfl rfl Inv.nil) ?_ ?_ ?_ 
        · refine LW_appendM 0 3 eI_ok (mk := m) hs TOK rfl rfl rfl rfl rfl (by omega) (by omega) (by omega) hnc rfl rfl rfl rfl rfl (by unfold maxLen; omega) (by simp only []; omega) ?_
          clear hs; intro A1 c1 k1 Z1 w p1 q1 z1 hs; refine LW_nil (QN_n ?_)
          refine DX_2 13 19 rfl rfl (by kernel_rfl) (Inv.keepC 2 hs rfl rfl Inv.nil) ?_ ?_ 
          · refine LW_buildSlice TOK hs rfl rfl rfl rfl rfl rfl rfl ?_
            clear hs; intro b2 w hs; refine LW_nil (QN_n ?_)
            refine DX_2 14 19 rfl rfl (by kernel_rfl) (Inv.keepC 3 hs rfl rfl Inv.nil) ?_ ?_ 
            · refine LW_appendM 0 0 eI_ok (mk := m) hs TOK rfl rfl rfl rfl rfl (by omega) (by omega) (by omega) hnc rfl rfl rfl rfl rfl (by unfold maxLen; omega) (by simp only []; omega) ?_
              clear hs; intro A2 c2 k2 Z2 w p2 q2 z2 hs; refine LW_nil (QN_n ?_)
              refine DX_1 19 rfl (by kernel_rfl) (Inv.keepC 3 hs rfl rfl Inv.nil) ?_ 
              · refine LW_buildSlice TOK hs rfl rfl rfl rfl rfl rfl rfl ?_
                clear hs; intro b3 w hs; refine LW_nil (QN_n ?_)
                refine DX_1 20 rfl (by kernel_rfl) (Inv.keepC 4 hs rfl rfl Inv.nil) ?_ 
                · refine LW_appendM 0 0 eI_ok (mk := m) hs TOK rfl rfl rfl rfl rfl (by omega) (by omega) (by omega) hnc rfl rfl rfl rfl rfl (by unfold maxLen; omega) (by simp only []; omega) ?_
                  clear hs; intro A3 c3 k3 Z3 w p3 q3 z3 hs; refine LW_nil (QN_n ?_)
                  refine DX_1 21 rfl (by kernel_rfl) (Inv.keepC 4 hs rfl rfl Inv.nil) ?_
                  refine LW_buildSlice TOK hs rfl rfl rfl rfl rfl rfl rfl ?_
                  clear hs; intro b4 w hs; refine LW_nil (QN_n ?_)
                  refine DX_1 22 rfl (by kernel_rfl) (Inv.keepC 5 hs rfl rfl Inv.nil) ?_
                  refine LW_append 6 eH_ok.1 (ys := [(A, b.length, c), (A1, b.length + 1, c1), (A2, b.length + 2, c2), (A3, b.length + 3, c3)]) hs TOK rfl rfl (hs.rdC (t := 42) 0 rfl) eH_ok.2 rfl rfl rfl rfl rfl rfl rfl (by simp only [List.length_cons, List.length_nil]; unfold maxLen; omega) (by simp only [List.length_cons, List.length_nil]; omega) ?_
                  clear hs; intro LA' lc' w hs; refine LW_nil (QN_n ?_)
                  refine DX_1 23 rfl (by kernel_rfl) (Inv.gone (by kernel_rfl) Inv.nil) (LW_pure TOK rfl (LW_nil (QN_n ?_)))
                  refine DX_1 24 rfl (by kernel_rfl) (Inv.gone (by kernel_rfl) Inv.nil) (LW_pure TOK rfl (LW_nil (QN_n ?_)))
                  refine DX_1 25 rfl (by kernel_rfl) (Inv.gone (by kernel_rfl) Inv.nil) ?_
                  refine LW_storeC 5 TOK hs rfl rfl rfl rfl rfl rfl rfl ?_
                  clear hs; intro w hs; refine LW_nil (QN_n ?_)
                  refine DX_end (by kernel_rfl) (Inv.gone (by kernel_rfl) Inv.nil) (then_n (hlate _ _ ?_))
                  exact ⟨_, LA', lc', [(A, b.length, c), (A1, b.length + 1, c1), (A2, b.length + 2, c2), (A3, b.length + 3, c3)], [RowOf eI 3 1 A c (List.replicate k3 m), Big Z1, Big Z2, Big Z3], FR_forget _ ⟨rfl, rfl, trivial⟩, (Sat.picks (Sat.drop1 (Sat.picks hs [0])) [4, 4, 4, 0, 2, 1, 0]), rfl, marks4_len A A1 A2 A3 c c1 c2 c3 b.length, marks4 (by omega) z1 z2 z3 (by omega) (by omega) (by omega)⟩
            · refine LW_buildSlice TOK hs rfl rfl rfl rfl rfl rfl rfl ?_
              clear hs; intro b3 w hs; refine LW_nil (QN_n ?_)
              refine DX_1 14 rfl (by kernel_rfl) (Inv.keepC 4 hs rfl rfl Inv.nil) ?_ 
              · refine LW_appendM 1 1 eI_ok (mk := m) hs TOK rfl rfl rfl rfl rfl (by omega) (by omega) (by omega) hnc rfl rfl rfl rfl rfl (by unfold maxLen; omega) (by simp only []; omega) ?_
                clear hs; intro A2 c2 k2 Z2 w p2 q2 z2 hs; refine LW_nil (QN_n ?_)
                refine DX_1 20 rfl (by kernel_rfl) (Inv.keepC 4 hs rfl rfl Inv.nil) ?_ 
                · refine LW_appendM 2 0 eI_ok (mk := m) hs TOK rfl rfl rfl rfl rfl (by omega) (by omega) (by omega) hnc rfl rfl rfl rfl rfl (by unfold maxLen; omega) (by simp only []; omega) ?_
                  clear hs; intro A3 c3 k3 Z3 w p3 q3 z3 hs; refine LW_nil (QN_n ?_)
                  refine DX_1 21 rfl (by kernel_rfl) (Inv.keepC 4 hs rfl rfl Inv.nil) ?_
                  refine LW_buildSlice TOK hs rfl rfl rfl rfl rfl rfl rfl ?_
                  clear hs; intro b4 w hs; refine LW_nil (QN_n ?_)
                  refine DX_1 22 rfl (by kernel_rfl) (Inv.keepC 5 hs rfl rfl Inv.nil) ?_
                  refine LW_append 6 eH_ok.1 (ys := [(A, b.length, c), (A1, b.length + 1, c1), (A2, b.length + 2, c2), (A3, b.length + 3, c3)]) hs TOK rfl rfl (hs.rdC (t := 42) 0 rfl) eH_ok.2 rfl rfl rfl rfl rfl rfl rfl (by simp only [List.length_cons, List.length_nil]; unfold maxLen; omega) (by simp only [List.length_cons, List.length_nil]; omega) ?_
                  clear hs; intro LA' lc' w hs; refine LW_nil (QN_n ?_)
                  refine DX_1 23 rfl (by kernel_rfl) (Inv.gone (by kernel_rfl) Inv.nil) (LW_pure TOK rfl (LW_nil (QN_n ?_)))
                  refine DX_1 24 rfl (by kernel_rfl) (Inv.gone (by kernel_rfl) Inv.nil) (LW_pure TOK rfl (LW_nil (QN_n ?_)))
                  refine DX_1 25 rfl (by kernel_rfl) (Inv.gone (by kernel_rfl) Inv.nil) ?_
                  refine LW_storeC 5 TOK hs rfl rfl rfl rfl rfl rfl rfl ?_
                  clear hs; intro w hs; refine LW_nil (QN_n ?_)
                  refine DX_end (by kernel_rfl) (Inv.gone (by kernel_rfl) Inv.nil) (then_n (hlate _ _ ?_))
                  exact ⟨_, LA', lc', [(A, b.length, c), (A1, b.length + 1, c1), (A2, b.length + 2, c2), (A3, b.length + 3, c3)], [RowOf eI 3 1 A c (List.replicate k3 m), Big Z1, Big Z2, Big Z3], FR_forget _ ⟨rfl, rfl, trivial⟩, (Sat.picks (Sat.drop1 (Sat.picks hs [0])) [4, 4, 4, 0, 2, 1, 0]), rfl, marks4_len A A1 A2 A3 c c1 c2 c3 b.length, marks4 (by omega) z1 z2 z3 (by omega) (by omega) (by omega)⟩
          · refine LW_buildSlice TOK hs rfl rfl rfl rfl rfl rfl rfl ?_
            clear hs; intro b3 w hs; refine LW_nil (QN_n ?_)
            refine DX_1 13 rfl (by kernel_rfl) (Inv.keepC 3 hs rfl rfl Inv.nil) ?_ 
            · refine LW_buildSlice TOK hs rfl rfl rfl rfl rfl rfl rfl ?_
              clear hs; intro b2 w hs; refine LW_nil (QN_n ?_)
              refine DX_1 14 rfl (by kernel_rfl) (Inv.keepC 4 hs rfl rfl Inv.nil) ?_ 
              · refine LW_appendM 0 1 eI_ok (mk := m) hs TOK rfl rfl rfl rfl rfl (by omega) (by omega) (by omega) hnc rfl rfl rfl rfl rfl (by unfold maxLen; omega) (by simp only []; omega) ?_
                clear hs; intro A2 c2 k2 Z2 w p2 q2 z2 hs; refine LW_nil (QN_n ?_)
                refine DX_1 20 rfl (by kernel_rfl) (Inv.keepC 4 hs rfl rfl Inv.nil) ?_ 
                · refine LW_appendM 2 0 eI_ok (mk := m) hs TOK rfl rfl rfl rfl rfl (by omega) (by omega) (by omega) hnc rfl rfl rfl rfl rfl (by unfold maxLen; omega) (by simp only []; omega) ?_
                  clear hs; intro A3 c3 k3 Z3 w p3 q3 z3 hs; refine LW_nil (QN_n ?_)
                  refine DX_1 21 rfl (by kernel_rfl) (Inv.keepC 4 hs rfl rfl Inv.nil) ?_
                  refine LW_buildSlice TOK hs rfl rfl rfl rfl rfl rfl rfl ?_
                  clear hs; intro b4 w hs; refine LW_nil (QN_n ?_)
                  refine DX_1 22 rfl (by kernel_rfl) (Inv.keepC 5 hs rfl rfl Inv.nil) ?_
                  refine LW_append 6 eH_ok.1 (ys := [(A, b.length, c), (A1, b.length + 1, c1), (A2, b.length + 2, c2), (A3, b.length + 3, c3)]) hs TOK rfl rfl (hs.rdC (t := 42) 0 rfl) eH_ok.2 rfl rfl rfl rfl rfl rfl rfl (by simp only [List.length_cons, List.length_nil]; unfold maxLen; omega) (by simp only [List.length_cons, List.length_nil]; omega) ?_
                  clear hs; intro LA' lc' w hs; refine LW_nil (QN_n ?_)
                  refine DX_1 23 rfl (by kernel_rfl) (Inv.gone (by kernel_rfl) Inv.nil) (LW_pure TOK rfl (LW_nil (QN_n ?_)))
                  refine DX_1 24 rfl (by kernel_rfl) (Inv.gone (by kernel_rfl) Inv.nil) (LW_pure TOK rfl (LW_nil (QN_n ?_)))
                  refine DX_1 25 rfl (by kernel_rfl) (Inv.gone (by kernel_rfl) Inv.nil) ?_
                  refine LW_storeC 5 TOK hs rfl rfl rfl rfl rfl rfl rfl ?_
                  clear hs; intro w hs; refine LW_nil (QN_n ?_)
                  refine DX_end (by kernel_rfl) (Inv.gone (by kernel_rfl) Inv.nil) (then_n (hlate _ _ ?_))
                  exact ⟨_, LA', lc', [(A, b.length, c), (A1, b.length + 1, c1), (A2, b.length + 2, c2), (A3, b.length + 3, c3)], [RowOf eI 3 1 A c (List.replicate k3 m), Big Z1, Big Z2, Big Z3], FR_forget _ ⟨rfl, rfl, trivial⟩, (Sat.picks (Sat.drop1 (Sat.picks hs [0])) [4, 4, 4, 0, 2, 1, 0]), rfl, marks4_len A A1 A2 A3 c c1 c2 c3 b.length, marks4 (by omega) z1 z2 z3 (by omega) (by omega) (by omega)⟩
        · refine LW_buildSlice TOK hs rfl rfl rfl rfl rfl rfl rfl ?_
          clear hs; intro b2 w hs; refine LW_nil (QN_n ?_)
          refine DX_2 9 19 rfl rfl (by kernel_rfl) (Inv.keepC 2 hs rfl rfl Inv.nil) ?_ ?_ 
          · refine LW_appendM 1 4 eI_ok (mk := m) hs TOK rfl rfl rfl rfl rfl (by omega) (by omega) (by omega) hnc rfl rfl rfl rfl rfl (by unfold maxLen; omega) (by simp only []; omega) ?_
            clear hs; intro A1 c1 k1 Z1 w p1 q1 z1 hs; refine LW_nil (QN_n ?_)
            refine DX_2 14 19 rfl rfl (by kernel_rfl) (Inv.keepC 3 hs rfl rfl Inv.nil) ?_ ?_ 
            · refine LW_appendM 2 0 eI_ok (mk := m) hs TOK rfl rfl rfl rfl rfl (by omega) (by omega) (by omega) hnc rfl rfl rfl rfl rfl (by unfold maxLen; omega) (by simp only []; omega) ?_
              clear hs; intro A2 c2 k2 Z2 w p2 q2 z2 hs; refine LW_nil (QN_n ?_)
              refine DX_1 19 rfl (by kernel_rfl) (Inv.keepC 3 hs rfl rfl Inv.nil) ?_ 
              · refine LW_buildSlice TOK hs rfl rfl rfl rfl rfl rfl rfl ?_
                clear hs; intro b3 w hs; refine LW_nil (QN_n ?_)
                refine DX_1 20 rfl (by kernel_rfl) (Inv.keepC 4 hs rfl rfl Inv.nil) ?_ 
                · refine LW_appendM 0 0 eI_ok (mk := m) hs TOK rfl rfl rfl rfl rfl (by omega) (by omega) (by omega) hnc rfl rfl rfl rfl rfl (by unfold maxLen; omega) (by simp only []; omega) ?_
                  clear hs; intro A3 c3 k3 Z3 w p3 q3 z3 hs; refine LW_nil (QN_n ?_)
                  refine DX_1 21 rfl (by kernel_rfl) (Inv.keepC 4 hs rfl rfl Inv.nil) ?_
                  refine LW_buildSlice TOK hs rfl rfl rfl rfl rfl rfl rfl ?_
                  clear hs; intro b4 w hs; refine LW_nil (QN_n ?_)
                  refine DX_1 22 rfl (by kernel_rfl) (Inv.keepC 5 hs rfl rfl Inv.nil) ?_
                  refine LW_append 6 eH_ok.1 (ys := [(A, b.length, c), (A1, b.length + 1, c1), (A2, b.length + 2, c2), (A3, b.length + 3, c3)]) hs TOK rfl rfl (hs.rdC (t := 42) 0 rfl) eH_ok.2 rfl rfl rfl rfl rfl rfl rfl (by simp only [List.length_cons, List.length_nil]; unfold maxLen; omega) (by simp only [List.length_cons, List.length_nil]; omega) ?_
                  clear hs; intro LA' lc' w hs; refine LW_nil (QN_n ?_)
                  refine DX_1 23 rfl (by kernel_rfl) (Inv.gone (by kernel_rfl) Inv.nil) (LW_pure TOK rfl (LW_nil (QN_n ?_)))
                  refine DX_1 24 rfl (by kernel_rfl) (Inv.gone (by kernel_rfl) Inv.nil) (LW_pure TOK rfl (LW_nil (QN_n ?_)))
                  refine DX_1 25 rfl (by kernel_rfl) (Inv.gone (by kernel_rfl) Inv.nil) ?_
                  refine LW_storeC 5 TOK hs rfl rfl rfl rfl rfl rfl rfl ?_
                  clear hs; intro w hs; refine LW_nil (QN_n ?_)
                  refine DX_end (by kernel_rfl) (Inv.gone (by kernel_rfl) Inv.nil) (then_n (hlate _ _ ?_))
                  exact ⟨_, LA', lc', [(A, b.length, c), (A1, b.length + 1, c1), (A2, b.length + 2, c2), (A3, b.length + 3, c3)], [RowOf eI 3 1 A c (List.replicate k3 m), Big Z1, Big Z2, Big Z3], FR_forget _ ⟨rfl, rfl, trivial⟩, (Sat.picks (Sat.drop1 (Sat.picks hs [0])) [4, 4, 4, 0, 2, 1, 0]), rfl, marks4_len A A1 A2 A3 c c1 c2 c3 b.length, marks4 (by omega) z1 z2 z3 (by omega) (by omega) (by omega)⟩
            · refine LW_buildSlice TOK hs rfl rfl rfl rfl rfl rfl rfl ?_
              clear hs; intro b3 w hs; refine LW_nil (QN_n ?_)
              refine DX_1 14 rfl (by kernel_rfl) (Inv.keepC 4 hs rfl rfl Inv.nil) ?_ 
              · refine LW_appendM 3 1 eI_ok (mk := m) hs TOK rfl rfl rfl rfl rfl (by omega) (by omega) (by omega) hnc rfl rfl rfl rfl rfl (by unfold maxLen; omega) (by simp only []; omega) ?_
                clear hs; intro A2 c2 k2 Z2 w p2 q2 z2 hs; refine LW_nil (QN_n ?_)
                refine DX_1 20 rfl (by kernel_rfl) (Inv.keepC 4 hs rfl rfl Inv.nil) ?_ 
                · refine LW_appendM 2 0 eI_ok (mk := m) hs TOK rfl rfl rfl rfl rfl (by omega) (by omega) (by omega) hnc rfl rfl rfl rfl rfl (by unfold maxLen; omega) (by simp only []; omega) ?_
                  clear hs; intro A3 c3 k3 Z3 w p3 q3 z3 hs; refine LW_nil (QN_n ?_)
                  refine DX_1 21 rfl (by kernel_rfl) (Inv.keepC 4 hs rfl rfl Inv.nil) ?_
                  refine LW_buildSlice TOK hs rfl rfl rfl rfl rfl rfl rfl ?_
                  clear hs; intro b4 w hs; refine LW_nil (QN_n ?_)
                  refine DX_1 22 rfl (by kernel_rfl) (Inv.keepC 5 hs rfl rfl Inv.nil) ?_
                  refine LW_append 6 eH_ok.1 (ys := [(A, b.length, c), (A1, b.length + 1, c1), (A2, b.length + 2, c2), (A3, b.length + 3, c3)]) hs TOK rfl rfl (hs.rdC (t := 42) 0 rfl) eH_ok.2 rfl rfl rfl rfl rfl rfl rfl (by simp only [List.length_cons, List.length_nil]; unfold maxLen; omega) (by simp only [List.length_cons, List.length_nil]; omega) ?_
                  clear hs; intro LA' lc' w hs; refine LW_nil (QN_n ?_)
                  refine DX_1 23 rfl (by kernel_rfl) (Inv.gone (by kernel_rfl) Inv.nil) (LW_pure TOK rfl (LW_nil (QN_n ?_)))
                  refine DX_1 24 rfl (by kernel_rfl) (Inv.gone (by kernel_rfl) Inv.nil) (LW_pure TOK rfl (LW_nil (QN_n ?_)))
                  refine DX_1 25 rfl (by kernel_rfl) (Inv.gone (by kernel_rfl) Inv.nil) ?_
                  refine LW_storeC 5 TOK hs rfl rfl rfl rfl rfl rfl rfl ?_
                  clear hs; intro w hs; refine LW_nil (QN_n ?_)
                  refine DX_end (by kernel_rfl) (Inv.gone (by kernel_rfl) Inv.nil) (then_n (hlate _ _ ?_))
                  exact ⟨_, LA', lc', [(A, b.length, c), (A1, b.length + 1, c1), (A2, b.length + 2, c2), (A3, b.length + 3, c3)], [RowOf eI 3 1 A c (List.replicate k3 m), Big Z1, Big Z2, Big Z3], FR_forget _ ⟨rfl, rfl, trivial⟩, (Sat.picks (Sat.drop1 (Sat.picks hs [0])) [4, 4, 4, 0, 2, 1, 0]), rfl, marks4_len A A1 A2 A3 c c1 c2 c3 b.length, marks4 (by omega) z1 z2 z3 (by omega) (by omega) (by omega)⟩
          · refine LW_buildSlice TOK hs rfl rfl rfl rfl rfl rfl rfl ?_
            clear hs; intro b3 w hs; refine LW_nil (QN_n ?_)
            refine DX_1 9 rfl (by kernel_rfl) (Inv.keepC 3 hs rfl rfl Inv.nil) ?_ 
            · refine LW_appendM 2 5 eI_ok (mk := m) hs TOK rfl rfl rfl rfl rfl (by omega) (by omega) (by omega) hnc rfl rfl rfl rfl rfl (by unfold maxLen; omega) (by simp only []; omega) ?_
              clear hs; intro A1 c1 k1 Z1 w p1 q1 z1 hs; refine LW_nil (QN_n ?_)
              refine DX_1 14 rfl (by kernel_rfl) (Inv.keepC 4 hs rfl rfl Inv.nil) ?_ 
              · refine LW_appendM 3 0 eI_ok (mk := m) hs TOK rfl rfl rfl rfl rfl (by omega) (by omega) (by omega) hnc rfl rfl rfl rfl rfl (by unfold maxLen; omega) (by simp only []; omega) ?_
                clear hs; intro A2 c2 k2 Z2 w p2 q2 z2 hs; refine LW_nil (QN_n ?_)
                refine DX_1 20 rfl (by kernel_rfl) (Inv.keepC 4 hs rfl rfl Inv.nil) ?_ 
                · refine LW_appendM 3 0 eI_ok (mk := m) hs TOK rfl rfl rfl rfl rfl (by omega) (by omega) (by omega) hnc rfl rfl rfl rfl rfl (by unfold maxLen; omega) (by simp only []; omega) ?_
                  clear hs; intro A3 c3 k3 Z3 w p3 q3 z3 hs; refine LW_nil (QN_n ?_)
                  refine DX_1 21 rfl (by kernel_rfl) (Inv.keepC 4 hs rfl rfl Inv.nil) ?_
                  refine LW_buildSlice TOK hs rfl rfl rfl rfl rfl rfl rfl ?_
                  clear hs; intro b4 w hs; refine LW_nil (QN_n ?_)
                  refine DX_1 22 rfl (by kernel_rfl) (Inv.keepC 5 hs rfl rfl Inv.nil) ?_
                  refine LW_append 6 eH_ok.1 (ys := [(A, b.length, c), (A1, b.length + 1, c1), (A2, b.length + 2, c2), (A3, b.length + 3, c3)]) hs TOK rfl rfl (hs.rdC (t := 42) 0 rfl) eH_ok.2 rfl rfl rfl rfl rfl rfl rfl (by simp only [List.length_cons, List.length_nil]; unfold maxLen; omega) (by simp only [List.length_cons, List.length_nil]; omega) ?_
                  clear hs; intro LA' lc' w hs; refine LW_nil (QN_n ?_)
                  refine DX_1 23 rfl (by kernel_rfl) (Inv.gone (by kernel_rfl) Inv.nil) (LW_pure TOK rfl (LW_nil (QN_n ?_)))
                  refine DX_1 24 rfl (by kernel_rfl) (Inv.gone (by kernel_rfl) Inv.nil) (LW_pure TOK rfl (LW_nil (QN_n ?_)))
                  refine DX_1 25 rfl (by kernel_rfl) (Inv.gone (by kernel_rfl) Inv.nil) ?_
                  refine LW_storeC 5 TOK hs rfl rfl rfl rfl rfl rfl rfl ?_
                  clear hs; intro w hs; refine LW_nil (QN_n ?_)
                  refine DX_end (by kernel_rfl) (Inv.gone (by kernel_rfl) Inv.nil) (then_n (hlate _ _ ?_))
                  exact ⟨_, LA', lc', [(A, b.length, c), (A1, b.length + 1, c1), (A2, b.length + 2, c2), (A3, b.length + 3, c3)], [RowOf eI 3 1 A c (List.replicate k3 m), Big Z1, Big Z2, Big Z3], FR_forget _ ⟨rfl, rfl, trivial⟩, (Sat.picks (Sat.drop1 (Sat.picks hs [0])) [4, 4, 4, 0, 2, 1, 0]), rfl, marks4_len A A1 A2 A3 c c1 c2 c3 b.length, marks4 (by omega) z1 z2 z3 (by omega) (by omega) (by omega)⟩
        · refine LW_buildSlice TOK hs rfl rfl rfl rfl rfl rfl rfl ?_
          clear hs; intro b3 w hs; refine LW_nil (QN_n ?_)
          refine DX_2 9 13 rfl rfl (by kernel_rfl) (Inv.keepC 2 hs rfl rfl Inv.nil) ?_ ?_ 
          · refine LW_appendM 1 4 eI_ok (mk := m) hs TOK rfl rfl rfl rfl rfl (by omega) (by omega) (by omega) hnc rfl rfl rfl rfl rfl (by unfold maxLen; omega) (by simp only []; omega) ?_
            clear hs; intro A1 c1 k1 Z1 w p1 q1 z1 hs; refine LW_nil (QN_n ?_)
            refine DX_1 13 rfl (by kernel_rfl) (Inv.keepC 3 hs rfl rfl Inv.nil) ?_ 
            · refine LW_buildSlice TOK hs rfl rfl rfl rfl rfl rfl rfl ?_
              clear hs; intro b2 w hs; refine LW_nil (QN_n ?_)
              refine DX_1 14 rfl (by kernel_rfl) (Inv.keepC 4 hs rfl rfl Inv.nil) ?_ 
              · refine LW_appendM 0 0 eI_ok (mk := m) hs TOK rfl rfl rfl rfl rfl (by omega) (by omega) (by omega) hnc rfl rfl rfl rfl rfl (by unfold maxLen; omega) (by simp only []; omega) ?_
                clear hs; intro A2 c2 k2 Z2 w p2 q2 z2 hs; refine LW_nil (QN_n ?_)
                refine DX_1 20 rfl (by kernel_rfl) (Inv.keepC 4 hs rfl rfl Inv.nil) ?_ 
                · refine LW_appendM 3 0 eI_ok (mk := m) hs TOK rfl rfl rfl rfl rfl (by omega) (by omega) (by omega) hnc rfl rfl rfl rfl rfl (by unfold maxLen; omega) (by simp only []; omega) ?_
                  clear hs; intro A3 c3 k3 Z3 w p3 q3 z3 hs; refine LW_nil (QN_n ?_)
                  refine DX_1 21 rfl (by kernel_rfl) (Inv.keepC 4 hs rfl rfl Inv.nil) ?_
                  refine LW_buildSlice TOK hs rfl rfl rfl rfl rfl rfl rfl ?_
                  clear hs; intro b4 w hs; refine LW_nil (QN_n ?_)
                  refine DX_1 22 rfl (by kernel_rfl) (Inv.keepC 5 hs rfl rfl Inv.nil) ?_
                  refine LW_append 6 eH_ok.1 (ys := [(A, b.length, c), (A1, b.length + 1, c1), (A2, b.length + 2, c2), (A3, b.length + 3, c3)]) hs TOK rfl rfl (hs.rdC (t := 42) 0 rfl) eH_ok.2 rfl rfl rfl rfl rfl rfl rfl (by simp only [List.length_cons, List.length_nil]; unfold maxLen; omega) (by simp only [List.length_cons, List.length_nil]; omega) ?_
                  clear hs; intro LA' lc' w hs; refine LW_nil (QN_n ?_)
                  refine DX_1 23 rfl (by kernel_rfl) (Inv.gone (by kernel_rfl) Inv.nil) (LW_pure TOK rfl (LW_nil (QN_n ?_)))
                  refine DX_1 24 rfl (by kernel_rfl) (Inv.gone (by kernel_rfl) Inv.nil) (LW_pure TOK rfl (LW_nil (QN_n ?_)))
                  refine DX_1 25 rfl (by kernel_rfl) (Inv.gone (by kernel_rfl) Inv.nil) ?_
                  refine LW_storeC 5 TOK hs rfl rfl rfl rfl rfl rfl rfl ?_
                  clear hs; intro w hs; refine LW_nil (QN_n ?_)
                  refine DX_end (by kernel_rfl) (Inv.gone (by kernel_rfl) Inv.nil) (then_n (hlate _ _ ?_))
                  exact ⟨_, LA', lc', [(A, b.length, c), (A1, b.length + 1, c1), (A2, b.length + 2, c2), (A3, b.length + 3, c3)], [RowOf eI 3 1 A c (List.replicate k3 m), Big Z1, Big Z2, Big Z3], FR_forget _ ⟨rfl, rfl, trivial⟩, (Sat.picks (Sat.drop1 (Sat.picks hs [0])) [4, 4, 4, 0, 2, 1, 0]), rfl, marks4_len A A1 A2 A3 c c1 c2 c3 b.length, marks4 (by omega) z1 z2 z3 (by omega) (by omega) (by omega)⟩
          · refine LW_buildSlice TOK hs rfl rfl rfl rfl rfl rfl rfl ?_
            clear hs; intro b2 w hs; refine LW_nil (QN_n ?_)
            refine DX_1 9 rfl (by kernel_rfl) (Inv.keepC 3 hs rfl rfl Inv.nil) ?_ 
            · refine LW_appendM 2 5 eI_ok (mk := m) hs TOK rfl rfl rfl rfl rfl (by omega) (by omega) (by omega) hnc rfl rfl rfl rfl rfl (by unfold maxLen; omega) (by simp only []; omega) ?_
              clear hs; intro A1 c1 k1 Z1 w p1 q1 z1 hs; refine LW_nil (QN_n ?_)
              refine DX_1 14 rfl (by kernel_rfl) (Inv.keepC 4 hs rfl rfl Inv.nil) ?_ 
              · refine LW_appendM 2 0 eI_ok (mk := m) hs TOK rfl rfl rfl rfl rfl (by omega) (by omega) (by omega) hnc rfl rfl rfl rfl rfl (by unfold maxLen; omega) (by simp only []; omega) ?_
                clear hs; intro A2 c2 k2 Z2 w p2 q2 z2 hs; refine LW_nil (QN_n ?_)
                refine DX_1 20 rfl (by kernel_rfl) (Inv.keepC 4 hs rfl rfl Inv.nil) ?_ 
                · refine LW_appendM 3 0 eI_ok (mk := m) hs TOK rfl rfl rfl rfl rfl (by omega) (by omega) (by omega) hnc rfl rfl rfl rfl rfl (by unfold maxLen; omega) (by simp only []; omega) ?_
                  clear hs; intro A3 c3 k3 Z3 w p3 q3 z3 hs; refine LW_nil (QN_n ?_)
                  refine DX_1 21 rfl (by kernel_rfl) (Inv.keepC 4 hs rfl rfl Inv.nil) ?_
                  refine LW_buildSlice TOK hs rfl rfl rfl rfl rfl rfl rfl ?_
                  clear hs; intro b4 w hs; refine LW_nil (QN_n ?_)
                  refine DX_1 22 rfl (by kernel_rfl) (Inv.keepC 5 hs rfl rfl Inv.nil) ?_
                  refine LW_append 6 eH_ok.1 (ys := [(A, b.length, c), (A1, b.length + 1, c1), (A2, b.length + 2, c2), (A3, b.length + 3, c3)]) hs TOK rfl rfl (hs.rdC (t := 42) 0 rfl) eH_ok.2 rfl rfl rfl rfl rfl rfl rfl (by simp only [List.length_cons, List.length_nil]; unfold maxLen; omega) (by simp only [List.length_cons, List.length_nil]; omega) ?_
                  clear hs; intro LA' lc' w hs; refine LW_nil (QN_n ?_)
                  refine DX_1 23 rfl (by kernel_rfl) (Inv.gone (by kernel_rfl) Inv.nil) (LW_pure TOK rfl (LW_nil (QN_n ?_)))
                  refine DX_1 24 rfl (by kernel_rfl) (Inv.gone (by kernel_rfl) Inv.nil) (LW_pure TOK rfl (LW_nil (QN_n ?_)))
                  refine DX_1 25 rfl (by kernel_rfl) (Inv.gone (by kernel_rfl) Inv.nil) ?_
                  refine LW_storeC 5 TOK hs rfl rfl rfl rfl rfl rfl rfl ?_
                  clear hs; intro w hs; refine LW_nil (QN_n ?_)
                  refine DX_end (by kernel_rfl) (Inv.gone (by kernel_rfl) Inv.nil) (then_n (hlate _ _ ?_))
                  exact ⟨_, LA', lc', [(A, b.length, c), (A1, b.length + 1, c1), (A2, b.length + 2, c2), (A3, b.length + 3, c3)], [RowOf eI 3 1 A c (List.replicate k3 m), Big Z1, Big Z2, Big Z3], FR_forget _ ⟨rfl, rfl, trivial⟩, (Sat.picks (Sat.drop1 (Sat.picks hs [0])) [4, 4, 4, 0, 2, 1, 0]), rfl, marks4_len A A1 A2 A3 c c1 c2 c3 b.length, marks4 (by omega) z1 z2 z3 (by omega) (by omega) (by omega)⟩
      · refine LW_buildSlice TOK hs rfl rfl rfl rfl rfl rfl rfl ?_
        clear hs; intro b2 w hs; refine LW_nil (QN_n ?_)
        refine DX_2 8 19 rfl rfl (by kernel_rfl) (Inv.keepC 1 hs rfl rfl Inv.nil) ?_ ?_ 
        · refine LW_buildSlice TOK hs rfl rfl rfl rfl rfl rfl rfl ?_
          clear hs; intro b1 w hs; refine LW_nil (QN_n ?_)
          refine DX_2 9 19 rfl rfl (by kernel_rfl) (Inv.keepC 2 hs rfl rfl Inv.nil) ?_ ?_ 
          · refine LW_appendM 0 4 eI_ok (mk := m) hs TOK rfl rfl rfl rfl rfl (by omega) (by omega) (by omega) hnc rfl rfl rfl rfl rfl (by unfold maxLen; omega) (by simp only []; omega) ?_
            clear hs; intro A1 c1 k1 Z1 w p1 q1 z1 hs; refine LW_nil (QN_n ?_)
            refine DX_2 14 19 rfl rfl (by kernel_rfl) (Inv.keepC 3 hs rfl rfl Inv.nil) ?_ ?_ 
            · refine LW_appendM 2 0 eI_ok (mk := m) hs TOK rfl rfl rfl rfl rfl (by omega) (by omega) (by omega) hnc rfl rfl rfl rfl rfl (by unfold maxLen; omega) (by simp only []; omega) ?_
              clear hs; intro A2 c2 k2 Z2 w p2 q2 z2 hs; refine LW_nil (QN_n ?_)
              refine DX_1 19 rfl (by kernel_rfl) (Inv.keepC 3 hs rfl rfl Inv.nil) ?_ 
              · refine LW_buildSlice TOK hs rfl rfl rfl rfl rfl rfl rfl ?_
                clear hs; intro b3 w hs; refine LW_nil (QN_n ?_)
                refine DX_1 20 rfl (by kernel_rfl) (Inv.keepC 4 hs rfl rfl Inv.nil) ?_ 
                · refine LW_appendM 0 0 eI_ok (mk := m) hs TOK rfl rfl rfl rfl rfl (by omega) (by omega) (by omega) hnc rfl rfl rfl rfl rfl (by unfold maxLen; omega) (by simp only []; omega) ?_
                  clear hs; intro A3 c3 k3 Z3 w p3 q3 z3 hs; refine LW_nil (QN_n ?_)
                  refine DX_1 21 rfl (by kernel_rfl) (Inv.keepC 4 hs rfl rfl Inv.nil) ?_
                  refine LW_buildSlice TOK hs rfl rfl rfl rfl rfl rfl rfl ?_
                  clear hs; intro b4 w hs; refine LW_nil (QN_n ?_)
                  refine DX_1 22 rfl (by kernel_rfl) (Inv.keepC 5 hs rfl rfl Inv.nil) ?_
                  refine LW_append 6 eH_ok.1 (ys := [(A, b.length, c), (A1, b.length + 1, c1), (A2, b.length + 2, c2), (A3, b.length + 3, c3)]) hs TOK rfl rfl (hs.rdC (t := 42) 0 rfl) eH_ok.2 rfl rfl rfl rfl rfl rfl rfl (by simp only [List.length_cons, List.length_nil]; unfold maxLen; omega) (by simp only [List.length_cons, List.length_nil]; omega) ?_
                  clear hs; intro LA' lc' w hs; refine LW_nil (QN_n ?_)
                  refine DX_1 23 rfl (by kernel_rfl) (Inv.gone (by kernel_rfl) Inv.nil) (LW_pure TOK rfl (LW_nil (QN_n ?_)))
                  refine DX_1 24 rfl (by kernel_rfl) (Inv.gone (by kernel_rfl) Inv.nil) (LW_pure TOK rfl (LW_nil (QN_n ?_)))
                  refine DX_1 25 rfl (by kernel_rfl) (Inv.gone (by kernel_rfl) Inv.nil) ?_
                  refine LW_storeC 5 TOK hs rfl rfl rfl rfl rfl rfl rfl ?_
                  clear hs; intro w hs; refine LW_nil (QN_n ?_)
                  refine DX_end (by kernel_rfl) (Inv.gone (by kernel_rfl) Inv.nil) (then_n (hlate _ _ ?_))
                  exact ⟨_, LA', lc', [(A, b.length, c), (A1, b.length + 1, c1), (A2, b.length + 2, c2), (A3, b.length + 3, c3)], [RowOf eI 3 1 A c (List.replicate k3 m), Big Z1, Big Z2, Big Z3], FR_forget _ ⟨rfl, rfl, trivial⟩, (Sat.picks (Sat.drop1 (Sat.picks hs [0])) [4, 4, 4, 0, 2, 1, 0]), rfl, marks4_len A A1 A2 A3 c c1 c2 c3 b.length, marks4 (by omega) z1 z2 z3 (by omega) (by omega) (by omega)⟩
            · refine LW_buildSlice TOK hs rfl rfl rfl rfl rfl rfl rfl ?_
              clear hs; intro b3 w hs; refine LW_nil (QN_n ?_)
              refine DX_1 14 rfl (by kernel_rfl) (Inv.keepC 4 hs rfl rfl Inv.nil) ?_ 
              · refine LW_appendM 3 1 eI_ok (mk := m) hs TOK rfl rfl rfl rfl rfl (by omega) (by omega) (by omega) hnc rfl rfl rfl rfl rfl (by unfold maxLen; omega) (by simp only []; omega) ?_
                clear hs; intro A2 c2 k2 Z2 w p2 q2 z2 hs; refine LW_nil (QN_n ?_)
                refine DX_1 20 rfl (by kernel_rfl) (Inv.keepC 4 hs rfl rfl Inv.nil) ?_ 
                · refine LW_appendM 2 0 eI_ok (mk := m) hs TOK rfl rfl rfl rfl rfl (by omega) (by omega) (by omega) hnc rfl rfl rfl rfl rfl (by unfold maxLen; omega) (by simp only []; omega) ?_
                  clear hs; intro A3 c3 k3 Z3 w p3 q3 z3 hs; refine LW_nil (QN_n ?_)
                  refine DX_1 21 rfl (by kernel_rfl) (Inv.keepC 4 hs rfl rfl Inv.nil) ?_
                  refine LW_buildSlice TOK hs rfl rfl rfl rfl rfl rfl rfl ?_
                  clear hs; intro b4 w hs; refine LW_nil (QN_n ?_)
                  refine DX_1 22 rfl (by kernel_rfl) (Inv.keepC 5 hs rfl rfl Inv.nil) ?_
                  refine LW_append 6 eH_ok.1 (ys := [(A, b.length, c), (A1, b.length + 1, c1), (A2, b.length + 2, c2), (A3, b.length + 3, c3)]) hs TOK rfl rfl (hs.rdC (t := 42) 0 rfl) eH_ok.2 rfl rfl rfl rfl rfl rfl rfl (by simp only [List.length_cons, List.length_nil]; unfold maxLen; omega) (by simp only [List.length_cons, List.length_nil]; omega) ?_
                  clear hs; intro LA' lc' w hs; refine LW_nil (QN_n ?_)
                  refine DX_1 23 rfl (by kernel_rfl) (Inv.gone (by kernel_rfl) Inv.nil) (LW_pure TOK rfl (LW_nil (QN_n ?_)))
                  refine DX_1 24 rfl (by kernel_rfl) (Inv.gone (by kernel_rfl) Inv.nil) (LW_pure TOK rfl (LW_nil (QN_n ?_)))
                  refine DX_1 25 rfl (by kernel_rfl) (Inv.gone (by kernel_rfl) Inv.nil) ?_
                  refine LW_storeC 5 TOK hs rfl rfl rfl rfl rfl rfl rfl ?_
                  clear hs; intro w hs; refine LW_nil (QN_n ?_)
                  refine DX_end (by kernel_rfl) (Inv.gone (by kernel_rfl) Inv.nil) (then_n (hlate _ _ ?_))
                  exact ⟨_, LA', lc', [(A, b.length, c), (A1, b.length + 1, c1), (A2, b.length + 2, c2), (A3, b.length + 3, c3)], [RowOf eI 3 1 A c (List.replicate k3 m), Big Z1, Big Z2, Big Z3], FR_forget _ ⟨rfl, rfl, trivial⟩, (Sat.picks (Sat.drop1 (Sat.picks hs [0])) [4, 4, 4, 0, 2, 1, 0]), rfl, marks4_len A A1 A2 A3 c c1 c2 c3 b.length, marks4 (by omega) z1 z2 z3 (by omega) (by omega) (by omega)⟩
          · refine LW_buildSlice TOK hs rfl rfl rfl rfl rfl rfl rfl ?_
            clear hs; intro b3 w hs; refine LW_nil (QN_n ?_)
            refine DX_1 9 rfl (by kernel_rfl) (Inv.keepC 3 hs rfl rfl Inv.nil) ?_ 
            · refine LW_appendM 1 5 eI_ok (mk := m) hs TOK rfl rfl rfl rfl rfl (by omega) (by omega) (by omega) hnc rfl rfl rfl rfl rfl (by unfold maxLen; omega) (by simp only []; omega) ?_
              clear hs; intro A1 c1 k1 Z1 w p1 q1 z1 hs; refine LW_nil (QN_n ?_)
              refine DX_1 14 rfl (by kernel_rfl) (Inv.keepC 4 hs rfl rfl Inv.nil) ?_ 
              · refine LW_appendM 3 0 eI_ok (mk := m) hs TOK rfl rfl rfl rfl rfl (by omega) (by omega) (by omega) hnc rfl rfl rfl rfl rfl (by unfold maxLen; omega) (by simp only []; omega) ?_
                clear hs; intro A2 c2 k2 Z2 w p2 q2 z2 hs; refine LW_nil (QN_n ?_)
                refine DX_1 20 rfl (by kernel_rfl) (Inv.keepC 4 hs rfl rfl Inv.nil) ?_ 
                · refine LW_appendM 3 0 eI_ok (mk := m) hs TOK rfl rfl rfl rfl rfl (by omega) (by omega) (by omega) hnc rfl rfl rfl rfl rfl (by unfold maxLen; omega) (by simp only []; omega) ?_
                  clear hs; intro A3 c3 k3 Z3 w p3 q3 z3 hs; refine LW_nil (QN_n ?_)
                  refine DX_1 21 rfl (by kernel_rfl) (Inv.keepC 4 hs rfl rfl Inv.nil) ?_
                  refine LW_buildSlice TOK hs rfl rfl rfl rfl rfl rfl rfl ?_
                  clear hs; intro b4 w hs; refine LW_nil (QN_n ?_)
                  refine DX_1 22 rfl (by kernel_rfl) (Inv.keepC 5 hs rfl rfl Inv.nil) ?_
                  refine LW_append 6 eH_ok.1 (ys := [(A, b.length, c), (A1, b.length + 1, c1), (A2, b.length + 2, c2), (A3, b.length + 3, c3)]) hs TOK rfl rfl (hs.rdC (t := 42) 0 rfl) eH_ok.2 rfl rfl rfl rfl rfl rfl rfl (by simp only [List.length_cons, List.length_nil]; unfold maxLen; omega) (by simp only [List.length_cons, List.length_nil]; omega) ?_
                  clear hs; intro LA' lc' w hs; refine LW_nil (QN_n ?_)
                  refine DX_1 23 rfl (by kernel_rfl) (Inv.gone (by kernel_rfl) Inv.nil) (LW_pure TOK rfl (LW_nil (QN_n ?_)))
                  refine DX_1 24 rfl (by kernel_rfl) (Inv.gone (by kernel_rfl) Inv.nil) (LW_pure TOK rfl (LW_nil (QN_n ?_)))
                  refine DX_1 25 rfl (by kernel_rfl) (Inv.gone (by kernel_rfl) Inv.nil) ?_
                  refine LW_storeC 5 TOK hs rfl rfl rfl rfl rfl rfl rfl ?_
                  clear hs; intro w hs; refine LW_nil (QN_n ?_)
                  refine DX_end (by kernel_rfl) (Inv.gone (by kernel_rfl) Inv.nil) (then_n (hlate _ _ ?_))
                  exact ⟨_, LA', lc', [(A, b.length, c), (A1, b.length + 1, c1), (A2, b.length + 2, c2), (A3, b.length + 3, c3)], [RowOf eI 3 1 A c (List.replicate k3 m), Big Z1, Big Z2, Big Z3], FR_forget _ ⟨rfl, rfl, trivial⟩, (Sat.picks (Sat.drop1 (Sat.picks hs [0])) [4, 4, 4, 0, 2, 1, 0]), rfl, marks4_len A A1 A2 A3 c c1 c2 c3 b.length, marks4 (by omega) z1 z2 z3 (by omega) (by omega) (by omega)⟩
        · refine LW_buildSlice TOK hs rfl rfl rfl rfl rfl rfl rfl ?_
          clear hs; intro b3 w hs; refine LW_nil (QN_n ?_)
          refine DX_1 8 rfl (by kernel_rfl) (Inv.keepC 2 hs rfl rfl Inv.nil) ?_ 
          · refine LW_buildSlice TOK hs rfl rfl rfl rfl rfl rfl rfl ?_
            clear hs; intro b1 w hs; refine LW_nil (QN_n ?_)
            refine DX_1 9 rfl (by kernel_rfl) (Inv.keepC 3 hs rfl rfl Inv.nil) ?_ 
            · refine LW_appendM 0 5 eI_ok (mk := m) hs TOK rfl rfl rfl rfl rfl (by omega) (by omega) (by omega) hnc rfl rfl rfl rfl rfl (by unfold maxLen; omega) (by simp only []; omega) ?_
              clear hs; intro A1 c1 k1 Z1 w p1 q1 z1 hs; refine LW_nil (QN_n ?_)
              refine DX_1 14 rfl (by kernel_rfl) (Inv.keepC 4 hs rfl rfl Inv.nil) ?_ 
              · refine LW_appendM 3 0 eI_ok (mk := m) hs TOK rfl rfl rfl rfl rfl (by omega) (by omega) (by omega) hnc rfl rfl rfl rfl rfl (by unfold maxLen; omega) (by simp only []; omega) ?_
                clear hs; intro A2 c2 k2 Z2 w p2 q2 z2 hs; refine LW_nil (QN_n ?_)
                refine DX_1 20 rfl (by kernel_rfl) (Inv.keepC 4 hs rfl rfl Inv.nil) ?_ 
                · refine LW_appendM 3 0 eI_ok (mk := m) hs TOK rfl rfl rfl rfl rfl (by omega) (by omega) (by omega) hnc rfl rfl rfl rfl rfl (by unfold maxLen; omega) (by simp only []; omega) ?_
                  clear hs; intro A3 c3 k3 Z3 w p3 q3 z3 hs; refine LW_nil (QN_n ?_)
                  refine DX_1 21 rfl (by kernel_rfl) (Inv.keepC 4 hs rfl rfl Inv.nil) ?_
                  refine LW_buildSlice TOK hs rfl rfl rfl rfl rfl rfl rfl ?_
                  clear hs; intro b4 w hs; refine LW_nil (QN_n ?_)
                  refine DX_1 22 rfl (by kernel_rfl) (Inv.keepC 5 hs rfl rfl Inv.nil) ?_
                  refine LW_append 6 eH_ok.1 (ys := [(A, b.length, c), (A1, b.length + 1, c1), (A2, b.length + 2, c2), (A3, b.length + 3, c3)]) hs TOK rfl rfl (hs.rdC (t := 42) 0 rfl) eH_ok.2 rfl rfl rfl rfl rfl rfl rfl (by simp only [List.length_cons, List.length_nil]; unfold maxLen; omega) (by simp only [List.length_cons, List.length_nil]; omega) ?_
                  clear hs; intro LA' lc' w hs; refine LW_nil (QN_n ?_)
                  refine DX_1 23 rfl (by kernel_rfl) (Inv.gone (by kernel_rfl) Inv.nil) (LW_pure TOK rfl (LW_nil (QN_n ?_)))
                  refine DX_1 24 rfl (by kernel_rfl) (Inv.gone (by kernel_rfl) Inv.nil) (LW_pure TOK rfl (LW_nil (QN_n ?_)))
                  refine DX_1 25 rfl (by kernel_rfl) (Inv.gone (by kernel_rfl) Inv.nil) ?_
                  refine LW_storeC 5 TOK hs rfl rfl rfl rfl rfl rfl rfl ?_
                  clear hs; intro w hs; refine LW_nil (QN_n ?_)
                  refine DX_end (by kernel_rfl) (Inv.gone (by kernel_rfl) Inv.nil) (then_n (hlate _ _ ?_))
                  exact ⟨_, LA', lc', [(A, b.length, c), (A1, b.length + 1, c1), (A2, b.length + 2, c2), (A3, b.length + 3, c3)], [RowOf eI 3 1 A c (List.replicate k3 m), Big Z1, Big Z2, Big Z3], FR_forget _ ⟨rfl, rfl, trivial⟩, (Sat.picks (Sat.drop1 (Sat.picks hs [0])) [4, 4, 4, 0, 2, 1, 0]), rfl, marks4_len A A1 A2 A3 c c1 c2 c3 b.length, marks4 (by omega) z1 z2 z3 (by omega) (by omega) (by omega)⟩
      · refine LW_buildSlice TOK hs rfl rfl rfl rfl rfl rfl rfl ?_
        clear hs; intro b3 w hs; refine LW_nil (QN_n ?_)
        refine DX_2 8 13 rfl rfl (by kernel_rfl) (Inv.keepC 1 hs rfl rfl Inv.nil) ?_ ?_ 
        · refine LW_buildSlice TOK hs rfl rfl rfl rfl rfl rfl rfl ?_
          clear hs; intro b1 w hs; refine LW_nil (QN_n ?_)
          refine DX_2 9 13 rfl rfl (by kernel_rfl) (Inv.keepC 2 hs rfl rfl Inv.nil) ?_ ?_ 
          · refine LW_appendM 0 4 eI_ok (mk := m) hs TOK rfl rfl rfl rfl rfl (by omega) (by omega) (by omega) hnc rfl rfl rfl rfl rfl (by unfold maxLen; omega) (by simp only []; omega) ?_
            clear hs; intro A1 c1 k1 Z1 w p1 q1 z1 hs; refine LW_nil (QN_n ?_)
            refine DX_1 13 rfl (by kernel_rfl) (Inv.keepC 3 hs rfl rfl Inv.nil) ?_ 
            · refine LW_buildSlice TOK hs rfl rfl rfl rfl rfl rfl rfl ?_
              clear hs; intro b2 w hs; refine LW_nil (QN_n ?_)
              refine DX_1 14 rfl (by kernel_rfl) (Inv.keepC 4 hs rfl rfl Inv.nil) ?_ 
              · refine LW_appendM 0 0 eI_ok (mk := m) hs TOK rfl rfl rfl rfl rfl (by omega) (by omega) (by omega) hnc rfl rfl rfl rfl rfl (by unfold maxLen; omega) (by simp only []; omega) ?_
                clear hs; intro A2 c2 k2 Z2 w p2 q2 z2 hs; refine LW_nil (QN_n ?_)
                refine DX_1 20 rfl (by kernel_rfl) (Inv.keepC 4 hs rfl rfl Inv.nil) ?_ 
                · refine LW_appendM 3 0 eI_ok (mk := m) hs TOK rfl rfl rfl rfl rfl (by omega) (by omega) (by omega) hnc rfl rfl rfl rfl rfl (by unfold maxLen; omega) (by simp only []; omega) ?_
                  clear hs; intro A3 c3 k3 Z3 w p3 q3 z3 hs; refine LW_nil (QN_n ?_)
                  refine DX_1 21 rfl (by kernel_rfl) (Inv.keepC 4 hs rfl rfl Inv.nil) ?_
                  refine LW_buildSlice TOK hs rfl rfl rfl rfl rfl rfl rfl ?_
                  clear hs; intro b4 w hs; refine LW_nil (QN_n ?_)
                  refine DX_1 22 rfl (by kernel_rfl) (Inv.keepC 5 hs rfl rfl Inv.nil) ?_
                  refine LW_append 6 eH_ok.1 (ys := [(A, b.length, c), (A1, b.length + 1, c1), (A2, b.length + 2, c2), (A3, b.length + 3, c3)]) hs TOK rfl rfl (hs.rdC (t := 42) 0 rfl) eH_ok.2 rfl rfl rfl rfl rfl rfl rfl (by simp only [List.length_cons, List.length_nil]; unfold maxLen; omega) (by simp only [List.length_cons, List.length_nil]; omega) ?_
                  clear hs; intro LA' lc' w hs; refine LW_nil (QN_n ?_)
                  refine DX_1 23 rfl (by kernel_rfl) (Inv.gone (by kernel_rfl) Inv.nil) (LW_pure TOK rfl (LW_nil (QN_n ?_)))
                  refine DX_1 24 rfl (by kernel_rfl) (Inv.gone (by kernel_rfl) Inv.nil) (LW_pure TOK rfl (LW_nil (QN_n ?_)))
                  refine DX_1 25 rfl (by kernel_rfl) (Inv.gone (by kernel_rfl) Inv.nil) ?_
                  refine LW_storeC 5 TOK hs rfl rfl rfl rfl rfl rfl rfl ?_
                  clear hs; intro w hs; refine LW_nil (QN_n ?_)
                  refine DX_end (by kernel_rfl) (Inv.gone (by kernel_rfl) Inv.nil) (then_n (hlate _ _ ?_))
                  exact ⟨_, LA', lc', [(A, b.length, c), (A1, b.length + 1, c1), (A2, b.length + 2, c2), (A3, b.length + 3, c3)], [RowOf eI 3 1 A c (List.replicate k3 m), Big Z1, Big Z2, Big Z3], FR_forget _ ⟨rfl, rfl, trivial⟩, (Sat.picks (Sat.drop1 (Sat.picks hs [0])) [4, 4, 4, 0, 2, 1, 0]), rfl, marks4_len A A1 A2 A3 c c1 c2 c3 b.length, marks4 (by omega) z1 z2 z3 (by omega) (by omega) (by omega)⟩
          · refine LW_buildSlice TOK hs rfl rfl rfl rfl rfl rfl rfl ?_
            clear hs; intro b2 w hs; refine LW_nil (QN_n ?_)
            refine DX_1 9 rfl (by kernel_rfl) (Inv.keepC 3 hs rfl rfl Inv.nil) ?_ 
            · refine LW_appendM 1 5 eI_ok (mk := m) hs TOK rfl rfl rfl rfl rfl (by omega) (by omega) (by omega) hnc rfl rfl rfl rfl rfl (by unfold maxLen; omega) (by simp only []; omega) ?_
              clear hs; intro A1 c1 k1 Z1 w p1 q1 z1 hs; refine LW_nil (QN_n ?_)
              refine DX_1 14 rfl (by kernel_rfl) (Inv.keepC 4 hs rfl rfl Inv.nil) ?_ 
              · refine LW_appendM 2 0 eI_ok (mk := m) hs TOK rfl rfl rfl rfl rfl (by omega) (by omega) (by omega) hnc rfl rfl rfl rfl rfl (by unfold maxLen; omega) (by simp only []; omega) ?_
                clear hs; intro A2 c2 k2 Z2 w p2 q2 z2 hs; refine LW_nil (QN_n ?_)
                refine DX_1 20 rfl (by kernel_rfl) (Inv.keepC 4 hs rfl rfl Inv.nil) ?_ 
                · refine LW_appendM 3 0 eI_ok (mk := m) hs TOK rfl rfl rfl rfl rfl (by omega) (by omega) (by omega) hnc rfl rfl rfl rfl rfl (by unfold maxLen; omega) (by simp only []; omega) ?_
                  clear hs; intro A3 c3 k3 Z3 w p3 q3 z3 hs; refine LW_nil (QN_n ?_)
                  refine DX_1 21 rfl (by kernel_rfl) (Inv.keepC 4 hs rfl rfl Inv.nil) ?_
                  refine LW_buildSlice TOK hs rfl rfl rfl rfl rfl rfl rfl ?_
                  clear hs; intro b4 w hs; refine LW_nil (QN_n ?_)
                  refine DX_1 22 rfl (by kernel_rfl) (Inv.keepC 5 hs rfl rfl Inv.nil) ?_
                  refine LW_append 6 eH_ok.1 (ys := [(A, b.length, c), (A1, b.length + 1, c1), (A2, b.length + 2, c2), (A3, b.length + 3, c3)]) hs TOK rfl rfl (hs.rdC (t := 42) 0 rfl) eH_ok.2 rfl rfl rfl rfl rfl rfl rfl (by simp only [List.length_cons, List.length_nil]; unfold maxLen; omega) (by simp only [List.length_cons, List.length_nil]; omega) ?_
                  clear hs; intro LA' lc' w hs; refine LW_nil (QN_n ?_)
                  refine DX_1 23 rfl (by kernel_rfl) (Inv.gone (by kernel_rfl) Inv.nil) (LW_pure TOK rfl (LW_nil (QN_n ?_)))
                  refine DX_1 24 rfl (by kernel_rfl) (Inv.gone (by kernel_rfl) Inv.nil) (LW_pure TOK rfl (LW_nil (QN_n ?_)))
                  refine DX_1 25 rfl (by kernel_rfl) (Inv.gone (by kernel_rfl) Inv.nil) ?_
                  refine LW_storeC 5 TOK hs rfl rfl rfl rfl rfl rfl rfl ?_
                  clear hs; intro w hs; refine LW_nil (QN_n ?_)
                  refine DX_end (by kernel_rfl) (Inv.gone (by kernel_rfl) Inv.nil) (then_n (hlate _ _ ?_))
                  exact ⟨_, LA', lc', [(A, b.length, c), (A1, b.length + 1, c1), (A2, b.length + 2, c2), (A3, b.length + 3, c3)], [RowOf eI 3 1 A c (List.replicate k3 m), Big Z1, Big Z2, Big Z3], FR_forget _ ⟨rfl, rfl, trivial⟩, (Sat.picks (Sat.drop1 (Sat.picks hs [0])) [4, 4, 4, 0, 2, 1, 0]), rfl, marks4_len A A1 A2 A3 c c1 c2 c3 b.length, marks4 (by omega) z1 z2 z3 (by omega) (by omega) (by omega)⟩
        · refine LW_buildSlice TOK hs rfl rfl rfl rfl rfl rfl rfl ?_
          clear hs; intro b2 w hs; refine LW_nil (QN_n ?_)
          refine DX_1 8 rfl (by kernel_rfl) (Inv.keepC 2 hs rfl rfl Inv.nil) ?_ 
          · refine LW_buildSlice TOK hs rfl rfl rfl rfl rfl rfl rfl ?_
            clear hs; intro b1 w hs; refine LW_nil (QN_n ?_)
            refine DX_1 9 rfl (by kernel_rfl) (Inv.keepC 3 hs rfl rfl Inv.nil) ?_ 
            · refine LW_appendM 0 5 eI_ok (mk := m) hs TOK rfl rfl rfl rfl rfl (by omega) (by omega) (by omega) hnc rfl rfl rfl rfl rfl (by unfold maxLen; omega) (by simp only []; omega) ?_
              clear hs; intro A1 c1 k1 Z1 w p1 q1 z1 hs; refine LW_nil (QN_n ?_)
              refine DX_1 14 rfl (by kernel_rfl) (Inv.keepC 4 hs rfl rfl Inv.nil) ?_ 
              · refine LW_appendM 2 0 eI_ok (mk := m) hs TOK rfl rfl rfl rfl rfl (by omega) (by omega) (by omega) hnc rfl rfl rfl rfl rfl (by unfold maxLen; omega) (by simp only []; omega) ?_
                clear hs; intro A2 c2 k2 Z2 w p2 q2 z2 hs; refine LW_nil (QN_n ?_)
                refine DX_1 20 rfl (by kernel_rfl) (Inv.keepC 4 hs rfl rfl Inv.nil) ?_ 
                · refine LW_appendM 3 0 eI_ok (mk := m) hs TOK rfl rfl rfl rfl rfl (by omega) (by omega) (by omega) hnc rfl rfl rfl rfl rfl (by unfold maxLen; omega) (by simp only []; omega) ?_
                  clear hs; intro A3 c3 k3 Z3 w p3 q3 z3 hs; refine LW_nil (QN_n ?_)
                  refine DX_1 21 rfl (by kernel_rfl) (Inv.keepC 4 hs rfl rfl Inv.nil) ?_
                  refine LW_buildSlice TOK hs rfl rfl rfl rfl rfl rfl rfl ?_
                  clear hs; intro b4 w hs; refine LW_nil (QN_n ?_)
                  refine DX_1 22 rfl (by kernel_rfl) (Inv.keepC 5 hs rfl rfl Inv.nil) ?_
                  refine LW_append 6 eH_ok.1 (ys := [(A, b.length, c), (A1, b.length + 1, c1), (A2, b.length + 2, c2), (A3, b.length + 3, c3)]) hs TOK rfl rfl (hs.rdC (t := 42) 0 rfl) eH_ok.2 rfl rfl rfl rfl rfl rfl rfl (by simp only [List.length_cons, List.length_nil]; unfold maxLen; omega) (by simp only [List.length_cons, List.length_nil]; omega) ?_
                  clear hs; intro LA' lc' w hs; refine LW_nil (QN_n ?_)
                  refine DX_1 23 rfl (by kernel_rfl) (Inv.gone (by kernel_rfl) Inv.nil) (LW_pure TOK rfl (LW_nil (QN_n ?_)))
                  refine DX_1 24 rfl (by kernel_rfl) (Inv.gone (by kernel_rfl) Inv.nil) (LW_pure TOK rfl (LW_nil (QN_n ?_)))
                  refine DX_1 25 rfl (by kernel_rfl) (Inv.gone (by kernel_rfl) Inv.nil) ?_
                  refine LW_storeC 5 TOK hs rfl rfl rfl rfl rfl rfl rfl ?_
                  clear hs; intro w hs; refine LW_nil (QN_n ?_)
                  refine DX_end (by kernel_rfl) (Inv.gone (by kernel_rfl) Inv.nil) (then_n (hlate _ _ ?_))
                  exact ⟨_, LA', lc', [(A, b.length, c), (A1, b.length + 1, c1), (A2, b.length + 2, c2), (A3, b.length + 3, c3)], [RowOf eI 3 1 A c (List.replicate k3 m), Big Z1, Big Z2, Big Z3], FR_forget _ ⟨rfl, rfl, trivial⟩, (Sat.picks (Sat.drop1 (Sat.picks hs [0])) [4, 4, 4, 0, 2, 1, 0]), rfl, marks4_len A A1 A2 A3 c c1 c2 c3 b.length, marks4 (by omega) z1 z2 z3 (by omega) (by omega) (by omega)⟩
end Go.Proofs.Ytaofhbjlbdpjhaa
