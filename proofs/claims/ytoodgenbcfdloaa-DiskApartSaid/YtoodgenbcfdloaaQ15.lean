/- The document's disk; walks: Files. -/
import Derived.Test.YtoodgenbcfdloaaQ14
set_option linter.unusedVariables false
set_option linter.unusedSimpArgs false
namespace Go.Proofs.Ytoodgenbcfdloaa
open Go Go.Sl Go.RowKit
set_option maxRecDepth 100000
attribute [local irreducible] CW LW DW FR DP Calls

section
variable {W : World} {D : DS} {k : RDk} {pool : List HProp} {o : RAct}
set_option maxHeartbeats 4000000 in
theorem rFiles_call (h : KH W D k pool) : Calls Try.prog 22 [Value.agg (eK k).toArray].toArray W (Ret fun v w' => ∃ A c, v = .slice A D.files.length c ∧ Sat W w' [HF A c D.files]) := by
  refine Calls_of Try.func22 rfl 42 Try.ntmps22 rfl ?_
  obtain ⟨q, S, l, d⟩ := k
  obtain ⟨rd, ins, ⟨rq, rep, rleft, rdown⟩, good, hfs, hnow, hchs, hlft⟩ := h
  dsimp only at rq rep rleft rdown rd ins
  have rdn := rd.na
  have rdt := rd.th
  have hna : S.na.length ≤ 1099511627776 := by rw [rep.na]; exact hnow
  rw [hK]
  have hs : Sat W W [RowOf eF 30 2 none 0 ([] : List RF), Big (([] : List RF).map RF.P)] := (Sat.mkBig (l := []) ((Sat.start W).nilRow 30 2)).picks [1]
  (repeat' (first | (refine LW_box hs rfl rfl ?_; clear hs; intro bx w hs) | (refine LW_alloc TOK hs rfl rfl ?_; clear hs; intro bs w hs) | (refine isLW ?_; first | refine LW_nil ?_ | (refine isLload ?_; first | refine LW_loadCAE 0 (eS S) TOK hs rfl rfl rfl rfl (Nat.le_of_ble_eq_true rfl) rfl ?_) | (refine isLstore ?_; first | (refine LW_storeCA 0 TOK hs rfl rfl rfl rfl rfl (eS_ok.2 S) rfl (Nat.le_of_ble_eq_true rfl) ?_; clear hs; intro w hs)) | refine LW_pure TOK rfl ?_) | (with_reducible first | refine then_n ?_ | refine CW_seq ?_ | refine CW_region ?_ | refine CW_block ?_)))
  refine CW_loop (γ := Nat × Option Addr × Nat × List RF) (fun g => [(1, .pointer (some ⟨bx, 0, none⟩)), (3, .pointer (some ⟨bs, 0, none⟩)), (4, .slice g.2.1 g.2.2.2.length g.2.2.1), (5, .int .i64 (g.1 : Int))])
    (fun g w' => Sat W w' [Cl bs (eS S) 43, Cl bx (eK4 q S l d) 45, RowOf eF 30 2 g.2.1 g.2.2.1 g.2.2.2, Big (g.2.2.2.map RF.P)] ∧ g.1 ≤ S.na.length ∧ g.2.2.2.map RF.f = filesOf D.fs (D.now.take g.1)) (fun g => S.na.length - g.1) (0, none, 0, []) ⟨rfl, rfl, rfl, rfl, trivial⟩ ⟨hs, by omega, rfl⟩ ?_
  clear hs
  rintro ⟨i, A1, c1, rs⟩ τ w ⟨hs, h1, hrs⟩
  try dsimp only at hs h1 hrs ⊢
  have hrl : rs.length = i := by
    have := congrArg List.length hrs
    rw [rep.na] at h1
    simpa [filesOf, Nat.min_eq_left h1] using this
  by_cases hlt : i < S.na.length
  · obtain ⟨t, hlt2, hru2, htm, e1, e2, e3, hbd⟩ := rep.at good hlt
    have hlt3 : i < D.now.length := by rw [← rep.na]; exact hlt
    have hnx : filesOf D.fs (D.now.take (i + 1)) = filesOf D.fs (D.now.take i) ++ [((Go.Sl.rd S.na (i : Int)).1, t.d)] := by
      rw [filesOf_next D.fs D.now hlt3, e1, rd_at hlt]
      have : D.now[i] = S.na[i] := by simp only [rep.na]
      rw [this]; rfl
    have hrdd := rd.data t htm
    (repeat' (first | (refine isLW ?_; first | refine LW_nil ?_ | (refine isLload ?_; first | refine LW_loadC 0 TOK hs rfl rfl rfl rfl rfl ?_) | (refine isLcall ?_; first | (refine LW_call (cap := []) rfl rfl ent63 (by have := part_call _ t.d t.A t.c t.d.length (hrdd.of hs) (Nat.le_refl _) (by omega); rw [List.take_length] at this; rw [hru2]; exact this) ?_; rintro _ w2 ⟨A2, c2, rfl, hs2⟩; replace hs := (hs.and1 hs2).picks [1, 1, 1, 1, 0]; clear hs2) | (refine LW_append1 2 eF_ok (z := ⟨(Go.Sl.rd S.na (i : Int)).1, A2, c2, t.d⟩) hs TOK rfl rfl rfl rfl rfl rfl rfl rfl rfl rfl (by unfold maxLen; omega) (by simp only []; omega) ?_; clear hs; intro A3 c3 w hs) | refine LW_pure TOK rfl ?_) | (refine isLbin ?_; first | refine LW_i64 rfl (by omega) (by omega) ?_ | (refine LW_cmp rfl (fun _ => ?_) (fun _ => ?_) <;> try (exfalso; omega))) | refine LW_pure TOK rfl ?_ | (refine LW_buildSlice TOK hs rfl rfl rfl rfl rfl rfl rfl ?_; clear hs; intro _ w hs)) | (refine isDP ?_; first | (refine isDnil ?_; first | refine DP_end ?_ ?_) | (refine isDe rfl ?_; first | refine DP_eff rfl rfl ?_ ?_) | (refine isDload rfl ?_; first | refine DP_loadC 0 hs TOK rfl rfl (by first | exact trivial | rfl) rfl rfl rfl rfl rfl ?_ ?_ | refine DP_loadRd rdn (fun _ => rfl) hs TOK rfl rfl (by first | exact trivial | rfl) rfl (by assumption) rfl rfl (by omega) (by omega) rfl ?_ ?_ | refine DP_loadRd rdt (fun _ => rfl) hs TOK rfl rfl (by first | exact trivial | rfl) rfl (by assumption) rfl rfl (by omega) (by omega) rfl ?_ ?_) | (refine isDidx rfl ?_; first | (refine DP_indexRd (rdn.of hs) TOK rfl rfl (by first | exact trivial | rfl) rfl rfl rfl rfl rfl (by omega) (by omega) ?_; intro _ _ _) | (refine DP_indexRd (rdt.of hs) TOK rfl rfl (by first | exact trivial | rfl) rfl rfl rfl rfl rfl (by omega) (by omega) ?_; intro _ _ _)) | refine DP_build TOK rfl rfl (by first | exact trivial | rfl) rfl rfl rfl rfl rfl rfl ?_ | refine DP_pure TOK rfl rfl (by first | exact trivial | rfl) rfl ?_) | (refine isI0 ?_; exact Inv.nil) | (refine isI1 ?_; first | refine Inv.keepB hs ?_ | refine Inv.keepC 0 hs rfl rfl ?_ | refine Inv.keepC 1 hs rfl rfl ?_) | (with_reducible first | refine then_n ?_ | refine CW_seq ?_ | refine CW_region ?_ | refine CW_block ?_ | refine CW_skip ?_ | refine blk_n ?_) | refine CW_true rfl ?_ | (refine CW_drawP (id := 6) [] [0, 1, 2, 3, 4, 5, 6, 7, 8, 9, 10, 11] mixed (by kernel_rfl) hs ?_; clear hs; intro hs) | (refine CW_drawP (id := 7) [10, 12, 13] [0, 1, 2, 3, 4, 5, 6, 7, 8, 9, 10, 11, 12, 13, 14] mixed (by kernel_rfl) hs ?_; clear hs; intro hs)))
    have h6 := (Sat.snocP (r := ⟨(Go.Sl.rd S.na (i : Int)).1, A2, c2, t.d⟩) (hs.picks [4, 3, 0, 0, 0])).picks [1, 1, 1, 0]
    refine ⟨(i + 1, A3, c3, rs ++ [(⟨(Go.Sl.rd S.na (i : Int)).1, A2, c2, t.d⟩ : RF)]), _, FR_forget _ ⟨rfl, rfl, rfl, by push_cast; rfl, trivial⟩, ⟨h6, hlt, ?_⟩, by dsimp only; omega⟩
    dsimp only
    rw [hnx, List.map_append, hrs]
    rfl
  · (repeat' (first | (refine isLW ?_; first | refine LW_nil ?_ | (refine isLload ?_; first | refine LW_loadC 0 TOK hs rfl rfl rfl rfl rfl ?_) | (refine isLcall ?_; first | refine LW_pure TOK rfl ?_) | (refine isLbin ?_; first | (refine LW_cmp rfl (fun _ => ?_) (fun _ => ?_) <;> try (exfalso; omega))) | refine LW_pure TOK rfl ?_) | (with_reducible first | refine then_n ?_ | refine CW_seq ?_ | refine CW_region ?_ | refine CW_exit ?_ | refine CW_ret ?_ | refine then_e ?_ | refine blk_same ?_) | refine CW_false rfl ?_ | refine RET1 Try.results22 rfl ?_))
    rw [List.take_of_length_le (by rw [← rep.na]; omega)] at hrs
    have hl2 : rs.length = D.files.length := by unfold DS.files; rw [← hrs, List.length_map]
    exact ⟨A1, c1, by rw [hl2], Sat.closeHF hrs (Sat.keeps hs [2, 2])⟩
end
end Go.Proofs.Ytoodgenbcfdloaa
