/- Walks: a call counted; a change of names; a change noted; a file found. -/
import Derived.Test.YthhklkpkhaibcaaDoorG4
import Derived.Test.YthhklkpkhaibcaaDoorSlDraw6
set_option linter.unusedVariables false
set_option linter.unusedSimpArgs false
namespace Go.Proofs.YthhklkpkhaibcaaDoor
open Go Go.Sl Go.RowKit
set_option maxRecDepth 100000
attribute [local irreducible] CW LW DW FR DP Calls

theorem turn_call (W w : World) (L : List HProp) (R : Rp) (d : Nat) (D : DS) (hs : Sat W w (R.L d D ++ L)) (ho : R.Of D) :
    Calls Tryd.prog 41 [Value.pointer (some ⟨d, 0, none⟩)].toArray w (Ret fun v w' => v = .int .i64 D.turn.1 ∧ ∃ lf, (R.wlf lf).Of D.turn.2 ∧ Sat W w' ((R.wlf lf).L d D.turn.2 ++ L)) := by
  refine Calls_of Tryd.func41 rfl 23 Tryd.ntmps41 rfl ?_
  obtain ⟨q, fs, now, las, chs, left, down⟩ := D
  have hlf := ho.lf
  have hlb := ho.lb
  dsimp only at hlf
  cases left with
  | none =>
    (repeat' (first | (refine isLW ?_; first | refine LW_nil ?_ | (refine isLload ?_; first | refine LW_loadC 0 TOK hs rfl rfl rfl rfl rfl ?_) | refine LW_pure TOK rfl ?_) | (with_reducible first | refine then_n ?_ | refine CW_seq ?_ | refine CW_region ?_ | refine CW_ret ?_ | refine then_r ?_) | refine CW_true rfl ?_ | refine RET1 Tryd.results41 rfl ?_))
    exact ⟨rfl, R.lf, ho, hs⟩
  | some k =>
    have hk := hlf k rfl
    cases k with
    | zero =>
      have h0 : R.lf = 0 := by rw [hk]; rfl
      (repeat' (first | (refine isLW ?_; first | refine LW_nil ?_ | (refine isLload ?_; first | refine LW_loadC 0 TOK hs rfl rfl rfl rfl rfl ?_) | (refine isLstore ?_; first | (refine LW_storeC 0 TOK hs rfl rfl rfl rfl rfl rfl rfl ?_; clear hs; intro w hs)) | (refine isLbin ?_; first | (refine LW_cmp rfl (fun _ => ?_) (fun _ => ?_) <;> try (exfalso; omega))) | refine LW_pure TOK rfl ?_) | (with_reducible first | refine then_n ?_ | refine CW_seq ?_ | refine CW_region ?_ | refine CW_skip ?_ | refine CW_ret ?_ | refine then_r ?_) | refine CW_true rfl ?_ | refine CW_false rfl ?_ | refine RET1 Tryd.results41 rfl ?_))
      · exact ⟨rfl, R.lf, ⟨ho.mN, ho.mL, ho.fs, ho.lf, ho.lb⟩, hs⟩
    | succ k =>
      have h1 : R.lf = (k : Int) + 1 := by rw [hk]; push_cast; rfl
      (repeat' (first | (refine isLW ?_; first | refine LW_nil ?_ | (refine isLload ?_; first | refine LW_loadC 0 TOK hs rfl rfl rfl rfl rfl ?_) | (refine isLstore ?_; first | (refine LW_storeC 0 TOK hs rfl rfl rfl rfl rfl rfl rfl ?_; clear hs; intro w hs)) | (refine isLbin ?_; first | refine LW_i64 rfl (by omega) (by omega) ?_ | (refine LW_cmp rfl (fun _ => ?_) (fun _ => ?_) <;> try (exfalso; omega))) | refine LW_pure TOK rfl ?_) | (with_reducible first | refine then_n ?_ | refine CW_seq ?_ | refine CW_region ?_ | refine CW_skip ?_ | refine CW_ret ?_) | refine CW_false rfl ?_ | refine RET1 Tryd.results41 rfl ?_))
      · exact ⟨rfl, R.lf - 1, ⟨ho.mN, ho.mL, ho.fs, fun j hj => by cases hj; show R.lf - 1 = _; omega, by show _ ≤ R.lf - 1 ∧ R.lf - 1 ≤ _; omega⟩, hs⟩
theorem do_call (W w : World) (L : List HProp) (E : List Ent') (bs : List Nat) (ck : Nat) (S : Names) (b : Nat) (c : Chg) (hm : MapOf E ck S) (hc : okC S c) (hs : Sat W w (Mp keyN b (kvs bs E) ck :: L)) :
    Calls Tryd.prog 35 [Value.map (some b), .agg (eC bs c).toArray].toArray w (Ret fun v w' => ∃ E' ck', MapOf E' ck' (doC S c) ∧ Sat W w' (Mp keyN b (kvs bs E') ck' :: L)) := by
  refine Calls_of Tryd.func35 rfl 24 Tryd.ntmps35 rfl ?_
  rcases doC_cases hc with ⟨i, hmd, ha, hb, hn, e⟩ | ⟨i, hmd, ha, hf, ⟨hb, e⟩ | ⟨hb, e⟩⟩
  · obtain ⟨E', hp, hm'⟩ := hm.put bs c.b i
    have hbn := pathB_ne hb
    unfold eC
    rw [hmd]
    (repeat' (first | refine LW_strNe (a := c.a) (b := []) rfl rfl rfl rfl (fun hne => absurd ha hne) (fun _ => ?_) | refine LW_strNe (a := c.b) (b := []) rfl rfl rfl rfl (fun _ => ?_) (fun hne => absurd hne hbn) | (refine isLW ?_; first | refine LW_nil ?_ | (refine isLload ?_; first | refine LW_loadC 0 TOK hs rfl rfl rfl rfl rfl ?_) | (refine LW_mapUpdate keyN 1 (k := c.b) hs TOK rfl rfl rfl rfl rfl rfl rfl rfl ?_; clear hs; intro w hs; rw [show ptm bs (some i) = ptv bs i from rfl, hp] at hs) | refine LW_pure TOK rfl ?_ | (refine LW_box hs rfl rfl ?_; clear hs; intro _ w hs)) | (with_reducible first | refine then_n ?_ | refine CW_seq ?_ | refine CW_region ?_ | refine CW_skip ?_) | refine CW_true rfl ?_ | refine CW_false rfl ?_ | refine RET0 Tryd.results35 ?_))
    exact ⟨E', _, by rw [e]; exact hm', hs.drop1⟩
  · obtain ⟨E', hp, hm'⟩ := hm.del bs c.a
    have han := pathB_ne ha
    have hv : (findV (kvs bs E) c.a).getD (.pointer none) = ptv bs i := by rw [hm.find, hf]; rfl
    unfold eC
    rw [hmd]
    (repeat' (first | refine LW_strNe (a := c.a) (b := []) rfl rfl rfl rfl (fun _ => ?_) (fun hne => absurd hne han) | refine LW_strNe (a := c.b) (b := []) rfl rfl rfl rfl (fun hne => absurd hb hne) (fun _ => ?_) | refine LW_lookup keyN 1 (k := c.a) hs TOK rfl rfl rfl rfl rfl rfl rfl rfl hv ?_ | (refine LW_delete keyN 1 (k := c.a) hs TOK rfl rfl rfl rfl rfl rfl ?_; clear hs; intro w hs; rw [hp] at hs) | (refine isLW ?_; first | refine LW_nil ?_ | (refine isLload ?_; first | refine LW_loadC 0 TOK hs rfl rfl rfl rfl rfl ?_) | refine LW_pure TOK rfl ?_ | (refine LW_box hs rfl rfl ?_; clear hs; intro _ w hs)) | (with_reducible first | refine then_n ?_ | refine CW_seq ?_ | refine CW_region ?_ | refine CW_skip ?_) | refine CW_true rfl ?_ | refine CW_false rfl ?_ | refine RET0 Tryd.results35 ?_))
    exact ⟨E', _, by rw [e]; exact hm', hs.drop1⟩
  · obtain ⟨E1, hp1, hm1⟩ := hm.del bs c.a
    obtain ⟨E', hp, hm'⟩ := hm1.put bs c.b i
    have han := pathB_ne ha
    have hbn := pathB_ne hb
    have hv : (findV (kvs bs E) c.a).getD (.pointer none) = ptv bs i := by rw [hm.find, hf]; rfl
    unfold eC
    rw [hmd]
    (repeat' (first | refine LW_strNe (a := c.a) (b := []) rfl rfl rfl rfl (fun _ => ?_) (fun hne => absurd hne han) | refine LW_strNe (a := c.b) (b := []) rfl rfl rfl rfl (fun _ => ?_) (fun hne => absurd hne hbn) | refine LW_lookup keyN 1 (k := c.a) hs TOK rfl rfl rfl rfl rfl rfl rfl rfl hv ?_ | (refine LW_delete keyN 1 (k := c.a) hs TOK rfl rfl rfl rfl rfl rfl ?_; clear hs; intro w hs; rw [hp1] at hs) | (refine isLW ?_; first | refine LW_nil ?_ | (refine isLload ?_; first | refine LW_loadC 0 TOK hs rfl rfl rfl rfl rfl ?_) | (refine LW_mapUpdate keyN 1 (k := c.b) hs TOK rfl rfl rfl rfl rfl rfl rfl rfl ?_; clear hs; intro w hs; rw [hp] at hs) | refine LW_pure TOK rfl ?_ | (refine LW_box hs rfl rfl ?_; clear hs; intro _ w hs)) | (with_reducible first | refine then_n ?_ | refine CW_seq ?_ | refine CW_region ?_) | refine CW_true rfl ?_ | refine RET0 Tryd.results35 ?_))
    exact ⟨E', _, by rw [e]; exact hm', hs.drop1⟩
theorem note_call (W w : World) (L : List HProp) (R : Rp) (d : Nat) (D : DS) (c : Chg) (hs : Sat W w (R.L d D ++ L)) (ho : R.Of D) (hc : okC D.now c) (hl : D.chs.length ≤ 2199023255552) :
    Calls Tryd.prog 40 [Value.pointer (some ⟨d, 0, none⟩), .agg (eC R.bs c).toArray].toArray w (Ret fun v w' => v = .int .i64 (D.note c).1 ∧ ∃ R' : Rp, R'.F = R.F ∧ R'.Of (D.note c).2 ∧ Sat W w' (R'.L d (D.note c).2 ++ L)) := by
  refine Calls_of Tryd.func40 rfl 27 Tryd.ntmps40 rfl ?_
  obtain ⟨e1, e2, e3, e4, e5⟩ := turn_fields D
  unfold DS.note
  obtain ⟨D1, hD1⟩ : ∃ D1, D.turn.2 = D1 := ⟨_, rfl⟩
  rw [hD1] at e1 e2 e3 e4 e5 ⊢
  by_cases h0 : D.turn.1 = 0
  · rw [if_pos h0]
    have hc1 : okC D1.now c := by rw [e2]; exact hc
    have hl1 : D1.chs.length ≤ 2199023255552 := by rw [e4]; exact hl
    unfold eC
    (repeat' (first | refine Inv.keepO 5 hs rfl ?_ | refine Inv.keepO 6 hs rfl ?_ | (refine isLW ?_; first | refine LW_nil ?_ | (refine isLstore ?_; first | (refine LW_storeC 0 TOK hs rfl rfl rfl rfl rfl rfl rfl ?_; clear hs; intro w hs)) | (refine isLcall ?_; first | (refine LW_call (cap := []) rfl rfl ent41 (turn_call W _ _ R d D (hs.picks [1, 1, 1, 1, 1]) ho) ?_; clear hs; rintro _ w ⟨rfl, lf, ho1, hs⟩; rw [h0]; rw [hD1] at hs ho1; replace hs : Sat W w ((R.wlf lf).L d D1 ++ (_ :: L)) := hs) | (refine LW_call (cap := []) rfl rfl ent35 (do_call W _ _ _ R.bs _ D1.now R.bN c ho1.mN hc1 (hs.picks [1])) ?_; clear hs; rintro _ w ⟨E', ck', hm', hs⟩; replace hs := hs.picks [1]) | (refine LW_append1 3 (eC_ok R.bs) (z := c) hs TOK rfl rfl rfl rfl rfl rfl rfl rfl rfl rfl (by unfold maxLen; omega) (by simp only []; omega) ?_; clear hs; intro A2 c2 w hs)) | (refine isLbin ?_; first | (refine LW_cmp rfl (fun _ => ?_) (fun _ => ?_) <;> try (exfalso; omega))) | refine LW_pure TOK rfl ?_ | (refine LW_box hs rfl rfl ?_; clear hs; intro _ w hs) | (refine LW_buildSlice TOK hs rfl rfl rfl rfl rfl rfl rfl ?_; clear hs; intro _ w hs)) | (refine isDP ?_; first | (refine isDnil ?_; first | refine DP_end ?_ ?_) | (refine isDe rfl ?_; first | refine DP_eff rfl rfl ?_ ?_) | (refine isDload rfl ?_; first | refine DP_loadCA 5 [sv c.a, sv c.b, ptm R.bs c.made] hs TOK rfl rfl trivial rfl rfl rfl rfl (Nat.le_of_ble_eq_true rfl) rfl ?_ ?_ | refine DP_loadC 0 hs TOK rfl rfl (by first | exact trivial | rfl) rfl rfl rfl rfl rfl ?_ ?_) | refine DP_pure TOK rfl rfl (by first | exact trivial | rfl) rfl ?_) | (refine isI0 ?_; exact Inv.nil) | (refine isI1 ?_; first | refine Inv.keepC 0 hs rfl rfl ?_ | refine Inv.keepC 1 hs rfl rfl ?_ | refine Inv.gone (by kernel_rfl) ?_) | (with_reducible first | refine then_n ?_ | refine CW_seq ?_ | refine CW_region ?_ | refine CW_skip ?_ | refine CW_ret ?_) | refine CW_false rfl ?_ | (refine CW_drawP (id := 4) [5] [0, 1, 2, 3, 4, 5] mixed (by kernel_rfl) hs ?_; clear hs; intro hs) | (refine CW_drawP (id := 5) [6, 7, 10] [0, 1, 2, 3, 4, 5, 6, 7, 8, 9, 10] mixed (by kernel_rfl) hs ?_; clear hs; intro hs) | refine RET1 Tryd.results40 rfl ?_))
    refine ⟨rfl, R.wN lf E' ck' A2 c2, rfl, ⟨hm', ho1.mL, ho1.fs, ho1.lf, ho1.lb⟩, ?_⟩
    have h6 := (hs.picks [5]).drop1
    exact h6
  · rw [if_neg h0]
    unfold eC
    (repeat' (first | (refine isLW ?_; first | refine LW_nil ?_ | (refine isLcall ?_; first | (refine LW_call (cap := []) rfl rfl ent41 (turn_call W _ _ R d D (hs.picks [1, 1, 1, 1, 1]) ho) ?_; clear hs; rintro _ w ⟨rfl, lf, ho1, hs⟩)) | (refine isLbin ?_; first | (refine LW_cmp rfl (fun _ => ?_) (fun _ => ?_) <;> try (exfalso; omega))) | refine LW_pure TOK rfl ?_ | (refine LW_box hs rfl rfl ?_; clear hs; intro _ w hs)) | (with_reducible first | refine then_n ?_ | refine CW_seq ?_ | refine CW_region ?_ | refine CW_ret ?_ | refine then_r ?_) | refine CW_true rfl ?_ | refine RET1 Tryd.results40 rfl ?_))
    exact ⟨rfl, R.wlf lf, rfl, ho1, (hs.picks [5]).drop1⟩
end Go.Proofs.YthhklkpkhaibcaaDoor
