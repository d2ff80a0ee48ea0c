/- The document's disk; walks: Crash. (Laid by wip/tools/genq16.py.) -/
import Derived.Test.YtoodgenbcfdloaaQ15
set_option linter.unusedVariables false
set_option linter.unusedSimpArgs false
namespace Go.Proofs.Ytoodgenbcfdloaa
open Go Go.Sl Go.RowKit
set_option maxRecDepth 100000
attribute [local irreducible] CW LW DW FR DP Calls

theorem Good.keptSub {D : DS} (h : Good D) (m : Nat) : ∀ i ∈ idsL ((D.chs.take m).foldl doC D.las), i ∈ D.ids := fun i hi => by
  rcases List.mem_append.1 ((h.st.kept m).sub i hi) with h1 | h1
  · exact List.mem_append_left _ h1
  · exact List.mem_append_right _ ((madeL_take _ _).subset h1)
theorem Good.keptLen {D : DS} (h : Good D) (m : Nat) : ((D.chs.take m).foldl doC D.las).length ≤ D.fs.length := by
  have h1 := (h.st.kept m).nd
  have h2 := len_le_of_nodup h1 (l2 := List.range D.fs.length) (fun x hx => List.mem_range.2 (h.idlt x (h.keptSub m x hx)))
  unfold idsL at h2
  rwa [List.length_map, List.length_range] at h2
/-- The file of a number of the document's. -/
theorem Rep.atId {D : DS} {S : RSt} (rep : Rep D S) (good : Good D) {i : Nat} (hi : i ∈ D.ids) : ∃ t, i < S.th.length ∧ Go.Sl.rd S.th (i : Int) = t ∧ t ∈ S.th ∧ D.fs.getD i default = ⟨t.d, t.syn⟩ ∧ t.d.length ≤ 4194304 ∧ t.syn ≤ t.d.length := by
  obtain ⟨hk2, e1, e2, e3⟩ := rep.get good hi
  have hbd := dat_bd good hi
  have hfl := good.fl i
  refine ⟨_, hk2, rfl, ?_, ?_, ?_, ?_⟩ <;> rw [rd_at hk2]
  · exact List.getElem_mem hk2
  · rw [e1, e2]; rfl
  · rw [e1]; exact hbd
  · rw [e1, e2]; exact hfl
section
variable {W : World} {D : DS} {k : RDk} {pool : List HProp} {o : RAct}
set_option maxHeartbeats 8000000 in
theorem rCrash_call (h : KH W D k pool) (keep : Int) (C : Option Addr) (cc : Nat) (cuts : List (Int × Int)) (rdc : Rd eP W C cuts) (hcl : cuts.length ≤ 140737488355328) : Calls Try.prog 24 [Value.agg (eK k).toArray, .int .i64 keep, .slice C cuts.length cc].toArray W (Ret fun v w' => ∃ A c, v = .slice A (D.crash keep cuts).length c ∧ Sat W w' [HF A c (D.crash keep cuts)]) := by
  refine Calls_of Try.func24 rfl 72 Try.ntmps24 rfl ?_
  have hs := Sat.start W
  obtain ⟨q, S, l, d⟩ := k
  obtain ⟨rd, ins, ⟨rq, rep, rleft, rdown⟩, good, hfs, hnow, hchs, hlft⟩ := h
  dsimp only at rq rep rleft rdown rd ins
  have rdch := rd.ch
  have rdt := rd.th
  have hch : S.ch.length ≤ 1099511627776 := by rw [rep.ch]; exact hchs
  obtain ⟨kz, hkz⟩ : ∃ kz, clamp keep 0 (S.ch.length : Int) = kz := ⟨_, rfl⟩
  have hkb := clamp_in keep (S.ch.length : Int) (by omega)
  rw [hkz] at hkb
  have hcr : D.crash keep cuts = leftL D.fs cuts 0 ((D.chs.take kz.toNat).foldl doC D.las) := by unfold DS.crash keptN; rw [← rep.ch, hkz]
  rw [hcr, hK]
  (repeat' (first | (refine LW_box hs rfl rfl ?_; clear hs; intro bx w hs) | (refine LW_alloc TOK hs rfl rfl ?_; clear hs; intro bs w hs) | (refine isLW ?_; first | refine LW_nil ?_ | (refine isLload ?_; first | refine LW_loadCAE 0 (eS S) TOK hs rfl rfl rfl rfl (Nat.le_of_ble_eq_true rfl) rfl ?_ | refine LW_loadC 0 TOK hs rfl rfl rfl rfl rfl ?_) | (refine isLstore ?_; first | (refine LW_storeCA 0 TOK hs rfl rfl rfl rfl rfl (eS_ok.2 S) rfl (Nat.le_of_ble_eq_true rfl) ?_; clear hs; intro w hs)) | (refine isLcall ?_; first | (refine LW_call (cap := []) rfl rfl ent66 (into_call _ keep 0 (S.ch.length : Int) (by omega)) ?_; rintro _ _ ⟨rfl, rfl⟩; rw [hkz]) | refine LW_pure TOK rfl ?_) | refine LW_pure TOK rfl ?_) | (with_reducible first | refine then_n ?_ | refine CW_seq ?_ | refine CW_region ?_ | refine CW_block ?_)))
  have hka : ((kz.toNat : Nat) : Int) = kz := by omega
  replace hs : Sat W _ [Cl bs (eS S) 43, Cl bx (eK4 q S l d) 45, Big []] := (Sat.mkBig (l := []) hs).picks [1, 1, 0]
  refine CW_loop (γ := Nat × Option Addr × Nat × List HProp) (fun g => [(2, .slice C cuts.length cc), (7, .pointer (some ⟨bs, 0, none⟩)), (8, .slice g.2.1 ((D.chs.take g.1).foldl doC D.las).length g.2.2.1), (9, .int .i64 kz), (10, .int .i64 (g.1 : Int))])
    (fun g w' => Sat W w' [Cl bs (eS S) 43, Cl bx (eK4 q S l d) 45, Big g.2.2.2] ∧ g.1 ≤ kz.toNat ∧ (g.1 = 0 → g.2.1 = S.LA ∧ g.2.2.1 = S.lc) ∧ (0 < g.1 → RowOf eE 113 2 g.2.1 g.2.2.1 ((D.chs.take g.1).foldl doC D.las) ∈ g.2.2.2)) (fun g => kz.toNat - g.1) (0, S.LA, S.lc, []) ⟨rfl, rfl, by rw [rep.la]; rfl, rfl, rfl, trivial⟩ ⟨hs, Nat.zero_le _, fun _ => ⟨rfl, rfl⟩, fun h => absurd h (Nat.lt_irrefl _)⟩ ?_
  clear hs
  rintro ⟨i, A, c, J⟩ τ w ⟨hs, hi, h0, h1⟩
  try dsimp only at hs hi h0 h1 ⊢
  have hln := good.keptLen i
  by_cases hlt : i < kz.toNat
  · have hlt2 : i < D.chs.length := by rw [← rep.ch]; omega
    have hlt3 : i < S.ch.length := by omega
    have hok := okC_at good.ok hlt2
    have hnx := fold_next D.las hlt2
    have hrd : Go.Sl.rd S.ch (i : Int) = D.chs[i] := by rw [rd_at hlt3]; simp only [rep.ch]
    have hmd : D.chs[i].made.getD 0 ≤ 4611686018427387904 := by
      cases e : D.chs[i].made with
      | none => exact Nat.zero_le _
      | some m =>
        have : m ∈ D.ids := List.mem_append_right _ (by
          unfold madeL
          exact List.mem_filterMap.2 ⟨D.chs[i], List.getElem_mem hlt2, e⟩)
        have := good.idlt m this
        show m ≤ _
        omega
    obtain ⟨ch, hc⟩ : ∃ ch, D.chs[i] = ch := ⟨_, rfl⟩
    rw [hc] at hok hnx hrd hmd
    obtain ⟨N, hN⟩ : ∃ N, (D.chs.take i).foldl doC D.las = N := ⟨_, rfl⟩
    have hidN : ∀ p ∈ N, p.2 ≤ 4611686018427387904 := fun p hp => by
      have := good.idlt _ (good.keptSub i p.2 (by rw [hN]; exact List.mem_map.2 ⟨p, hp, rfl⟩))
      omega
    have hrdN : Rd eE w A N := by
      rw [← hN]
      by_cases hz : i = 0
      · obtain ⟨ea, ec⟩ := h0 hz
        subst hz
        rw [ea]
        have := rd.la.of hs
        rw [rep.la] at this
        exact this
      · exact (inRow.rd (c := c) (e := 113) (sz := 2) (.inr (h1 (by omega))) (hs.picks [2, 0, 0]))
    rw [hN] at hok hnx hln ⊢
    (repeat' (first | (refine isLW ?_; first | refine LW_nil ?_ | (refine isLload ?_; first | refine LW_loadRdA (vs := eCh ch) (rdch.of hs) (fun _ => rfl) TOK rfl (by assumption) rfl rfl rfl (by omega) (by omega) (by rw [hrd]) ?_ | refine LW_loadC 0 TOK hs rfl rfl rfl rfl rfl ?_) | (refine isLcall ?_; first | (refine LW_call (cap := []) rfl rfl ent67 (changed_call _ N A c ch hrdN (by omega) hok hmd hidN) ?_; rintro _ w2 ⟨A5, c5, rfl, hs2⟩; replace hs := hs.and1 hs2; clear hs2)) | (refine isLidx ?_; first | (refine LW_indexRd (rdch.of hs) TOK rfl rfl rfl rfl rfl (by omega) (by omega) ?_; intro _ _ _)) | (refine isLbin ?_; first | refine LW_i64 rfl (by omega) (by omega) ?_ | (refine LW_cmp rfl (fun _ => ?_) (fun _ => ?_) <;> try (exfalso; omega))) | refine LW_pure TOK rfl ?_) | (with_reducible first | refine then_n ?_ | refine CW_seq ?_ | refine CW_region ?_ | refine CW_block ?_ | refine CW_skip ?_ | refine blk_n ?_) | refine CW_true rfl ?_))
    have h6 := Sat.bigs ((Sat.mkBig (l := [RowOf eE 113 2 A5 c5 (doC N ch)]) hs).picks [0, 2, 0, 0])
    exact ⟨(i + 1, A5, c5, [RowOf eE 113 2 A5 c5 (doC N ch)] ++ J), _, FR_forget _ ⟨rfl, rfl, by rw [hnx]; rfl, rfl, by push_cast; rfl, trivial⟩, ⟨h6.picks [1, 1, 0], hlt, fun h => absurd h (Nat.succ_ne_zero _), fun _ => (by rw [hnx]; exact List.mem_append_left _ (by simp))⟩, by dsimp only; omega⟩
  have hik : i = kz.toNat := by omega
  subst hik
  have hidN := good.keptSub kz.toNat
  obtain ⟨N, hN⟩ : ∃ N, (D.chs.take kz.toNat).foldl doC D.las = N := ⟨_, rfl⟩
  rw [hN] at hidN hln h1 ⊢
  by_cases hz : kz.toNat = 0
  · obtain ⟨ea, ec⟩ := h0 hz
    have rdl : Rd eE W A N := by
      rw [← hN, hz, ea]
      have := rd.la
      rw [rep.la] at this
      exact this
    (repeat' (first | (refine isLW ?_; first | refine LW_nil ?_ | (refine isLbin ?_; first | (refine LW_cmp rfl (fun _ => ?_) (fun _ => ?_) <;> try (exfalso; omega))) | refine LW_pure TOK rfl ?_) | (with_reducible first | refine then_n ?_ | refine CW_seq ?_ | refine CW_region ?_ | refine CW_block ?_ | refine CW_exit ?_ | refine then_e ?_ | refine blk_same ?_) | refine CW_false rfl ?_))
    replace hs : Sat W _ [Cl bs (eS S) 43, Cl bx (eK4 q S l d) 45, RowOf eF 30 2 none 0 ([] : List RF), Big (([] : List RF).map RF.P), Big J] := (Sat.mkBig (l := []) (hs.nilRow 30 2)).picks [2, 2, 1, 0, 0]
    refine CW_loop (γ := Nat × Option Addr × Nat × List RF) (fun g => [(2, .slice C cuts.length cc), (7, .pointer (some ⟨bs, 0, none⟩)), (8, .slice A N.length c), (11, .slice g.2.1 g.2.2.2.length g.2.2.1), (12, .int .i64 (g.1 : Int))])
      (fun g w' => Sat W w' [Cl bs (eS S) 43, Cl bx (eK4 q S l d) 45, RowOf eF 30 2 g.2.1 g.2.2.1 g.2.2.2, Big (g.2.2.2.map RF.P), Big J] ∧ g.1 ≤ N.length ∧ g.2.2.2.map RF.f = leftL D.fs cuts 0 (N.take g.1)) (fun g => N.length - g.1) (0, none, 0, []) ⟨rfl, rfl, rfl, rfl, rfl, trivial⟩ ⟨hs, Nat.zero_le _, rfl⟩ ?_
    clear hs
    rintro ⟨i, A1, c1, rs⟩ τ w ⟨hs, h1, hrs⟩
    try dsimp only at hs h1 hrs ⊢
    have hrl : rs.length = i := by
      have := congrArg List.length hrs
      simpa [leftL_len, Nat.min_eq_left h1] using this
    by_cases hlt : i < N.length
    · have hmem : N[i].2 ∈ idsL N := List.mem_map.2 ⟨_, List.getElem_mem hlt, rfl⟩
      have hrdN := rd_at hlt
      have hnx := leftL_next D.fs cuts N hlt
      rw [← hrdN] at hmem hnx
      obtain ⟨t, hlt2, hru2, htm, e1, hbd, hsy⟩ := rep.atId good (hidN _ hmem)
      obtain ⟨⟨p, z⟩, hpq⟩ : ∃ x, cuts.getD i (0, 0) = x := ⟨_, rfl⟩
      rw [e1, hpq] at hnx
      have hrc : Go.Sl.rd cuts (i : Int) = (p, z) := by rw [← hpq]; rfl
      have hrdd := rd.data t htm
      by_cases hcu : i < cuts.length
      · (repeat' (first | (refine LW_alloc TOK hs rfl rfl ?_; clear hs; intro bt w hs) | (refine isDe rfl ?_; refine DP_eff rfl rfl (by repeat' (first | exact Inv.nil | refine Inv.keepB hs ?_ | refine Inv.keepO 0 hs rfl ?_ | refine Inv.keepC 0 hs rfl rfl ?_ | refine Inv.keepC 1 hs rfl rfl ?_ | refine Inv.keepC 2 hs rfl rfl ?_ | refine Inv.gone (by kernel_rfl) ?_)) ?_) | (refine isDnil ?_; refine DP_end (by repeat' (first | exact Inv.nil | refine Inv.keepB hs ?_ | refine Inv.keepO 0 hs rfl ?_ | refine Inv.keepC 0 hs rfl rfl ?_ | refine Inv.keepC 1 hs rfl rfl ?_ | refine Inv.keepC 2 hs rfl rfl ?_ | refine Inv.gone (by kernel_rfl) ?_)) ?_) | (refine isLW ?_; first | refine LW_nil ?_ | (refine isLload ?_; first | refine LW_loadRdA (vs := eP (p, z)) (rdc.of hs) (fun _ => rfl) TOK rfl (by assumption) rfl rfl rfl (by omega) (by omega) (by rw [hrc]) ?_ | refine LW_loadRd (rdl.of hs) (fun _ => rfl) TOK rfl (by assumption) rfl rfl (by omega) (by omega) rfl ?_) | (refine isLstore ?_; first | (refine LW_storeCA 0 TOK hs rfl rfl rfl rfl rfl (eP_ok.2 (p, z)) rfl (Nat.le_of_ble_eq_true rfl) ?_; clear hs; intro w hs)) | (refine isLcall ?_; first | (refine LW_call (cap := []) rfl rfl ent68 (left_call _ t (p, z) (hrdd.of hs) hsy (by omega)) ?_; rintro _ w2 ⟨A2, c2, rfl, hs2⟩; replace hs := hs.and1 hs2; clear hs2) | (refine LW_append1 4 eF_ok (z := ⟨(Go.Sl.rd N (i : Int)).1, A2, c2, leftF ⟨t.d, t.syn⟩ (p, z)⟩) hs TOK rfl rfl rfl rfl rfl rfl rfl rfl rfl rfl (by unfold maxLen; omega) (by simp only []; omega) ?_; clear hs; intro A3 c3 w hs) | refine LW_pure TOK rfl ?_) | (refine isLidx ?_; first | (refine LW_indexRd (rdl.of hs) TOK rfl rfl rfl rfl rfl (by omega) (by omega) ?_; intro _ _ _) | (refine LW_indexRd (rdc.of hs) TOK rfl rfl rfl rfl rfl (by omega) (by omega) ?_; intro _ _ _)) | (refine isLbin ?_; first | refine LW_i64 rfl (by omega) (by omega) ?_ | (refine LW_cmp rfl (fun _ => ?_) (fun _ => ?_) <;> try (exfalso; omega))) | refine LW_pure TOK rfl ?_ | (refine LW_buildSlice TOK hs rfl rfl rfl rfl rfl rfl rfl ?_; clear hs; intro _ w hs) | refine LW_build TOK rfl rfl rfl rfl rfl rfl ?_) | (refine isDP ?_; first | (refine isDload rfl ?_; first | refine DP_loadRdA (vs := eT t) rdt (fun _ => rfl) hs TOK rfl rfl trivial rfl (by assumption) rfl rfl rfl (by omega) (by omega) (by rw [hru2]) (by repeat' (first | exact Inv.nil | refine Inv.keepB hs ?_ | refine Inv.keepO 0 hs rfl ?_ | refine Inv.keepC 0 hs rfl rfl ?_ | refine Inv.keepC 1 hs rfl rfl ?_ | refine Inv.keepC 2 hs rfl rfl ?_ | refine Inv.gone (by kernel_rfl) ?_)) ?_ | refine DP_loadCA 0 (eP (p, z)) hs TOK rfl rfl trivial rfl rfl rfl rfl (Nat.le_of_ble_eq_true rfl) rfl (by repeat' (first | exact Inv.nil | refine Inv.keepB hs ?_ | refine Inv.keepO 0 hs rfl ?_ | refine Inv.keepC 0 hs rfl rfl ?_ | refine Inv.keepC 1 hs rfl rfl ?_ | refine Inv.keepC 2 hs rfl rfl ?_ | refine Inv.gone (by kernel_rfl) ?_)) ?_ | refine DP_loadC 1 hs TOK rfl rfl (by first | exact trivial | rfl) rfl rfl rfl rfl rfl ?_ ?_ | refine DP_loadRd rdl (fun _ => rfl) hs TOK rfl rfl (by first | exact trivial | rfl) rfl (by assumption) rfl rfl (by omega) (by omega) rfl ?_ ?_) | (refine isDidx rfl ?_; first | (refine DP_indexRd (rdl.of hs) TOK rfl rfl (by first | exact trivial | rfl) rfl rfl rfl rfl rfl (by omega) (by omega) ?_; intro _ _ _) | (refine DP_indexRd (rdt.of hs) TOK rfl rfl (by first | exact trivial | rfl) rfl rfl rfl rfl rfl (by omega) (by omega) ?_; intro _ _ _)) | refine DP_pure TOK rfl rfl (by first | exact trivial | rfl) rfl ?_) | (refine isI0 ?_; exact Inv.nil) | (refine isI1 ?_; first | refine Inv.keepC 1 hs rfl rfl ?_) | (with_reducible first | refine then_n ?_ | refine CW_seq ?_ | refine CW_region ?_ | refine CW_block ?_ | refine CW_skip ?_ | refine blk_n ?_) | refine CW_true rfl ?_ | (refine CW_drawP (id := 15) [10] [0, 1, 2, 3, 4, 5, 6, 7, 8, 9, 10, 11] mixed (by kernel_rfl) hs ?_; clear hs; intro hs)))
        have h6 := (Sat.snocP (r := ⟨(Go.Sl.rd N (i : Int)).1, A2, c2, leftF ⟨t.d, t.syn⟩ (p, z)⟩) (Sat.keeps hs [0, 4, 1, 1, 1, 1])).picks [1, 1, 1, 0, 0]
        refine ⟨(i + 1, A3, c3, rs ++ [(⟨(Go.Sl.rd N (i : Int)).1, A2, c2, leftF ⟨t.d, t.syn⟩ (p, z)⟩ : RF)]), _, FR_forget _ ⟨rfl, rfl, rfl, rfl, by push_cast; rfl, trivial⟩, ⟨h6, hlt, ?_⟩, by dsimp only; omega⟩
        dsimp only
        rw [hnx, List.map_append, hrs]
        rfl
      · have hc0 : cuts.getD i (0, 0) = (0, 0) := by simp [List.getD, List.getElem?_eq_none (Nat.le_of_not_lt hcu)]
        rw [hpq] at hc0
        cases hc0
        (repeat' (first | (refine LW_alloc TOK hs rfl rfl ?_; clear hs; intro bt w hs) | (refine isDe rfl ?_; refine DP_eff rfl rfl (by repeat' (first | exact Inv.nil | refine Inv.keepB hs ?_ | refine Inv.keepO 0 hs rfl ?_ | refine Inv.keepC 0 hs rfl rfl ?_ | refine Inv.keepC 1 hs rfl rfl ?_ | refine Inv.keepC 2 hs rfl rfl ?_ | refine Inv.gone (by kernel_rfl) ?_)) ?_) | (refine isDnil ?_; refine DP_end (by repeat' (first | exact Inv.nil | refine Inv.keepB hs ?_ | refine Inv.keepO 0 hs rfl ?_ | refine Inv.keepC 0 hs rfl rfl ?_ | refine Inv.keepC 1 hs rfl rfl ?_ | refine Inv.keepC 2 hs rfl rfl ?_ | refine Inv.gone (by kernel_rfl) ?_)) ?_) | (refine isLW ?_; first | refine LW_nil ?_ | (refine isLload ?_; first | refine LW_loadRd (rdl.of hs) (fun _ => rfl) TOK rfl (by assumption) rfl rfl (by omega) (by omega) rfl ?_) | (refine isLcall ?_; first | (refine LW_call (cap := []) rfl rfl ent68 (left_call _ t ((0, 0) : Int × Int) (hrdd.of hs) hsy (by omega)) ?_; rintro _ w2 ⟨A2, c2, rfl, hs2⟩; replace hs := hs.and1 hs2; clear hs2) | (refine LW_append1 4 eF_ok (z := ⟨(Go.Sl.rd N (i : Int)).1, A2, c2, leftF ⟨t.d, t.syn⟩ ((0, 0) : Int × Int)⟩) hs TOK rfl rfl rfl rfl rfl rfl rfl rfl rfl rfl (by unfold maxLen; omega) (by simp only []; omega) ?_; clear hs; intro A3 c3 w hs) | refine LW_pure TOK rfl ?_) | (refine isLidx ?_; first | (refine LW_indexRd (rdl.of hs) TOK rfl rfl rfl rfl rfl (by omega) (by omega) ?_; intro _ _ _)) | (refine isLbin ?_; first | refine LW_i64 rfl (by omega) (by omega) ?_ | (refine LW_cmp rfl (fun _ => ?_) (fun _ => ?_) <;> try (exfalso; omega))) | refine LW_pure TOK rfl ?_ | (refine LW_buildSlice TOK hs rfl rfl rfl rfl rfl rfl rfl ?_; clear hs; intro _ w hs) | refine LW_build TOK rfl rfl rfl rfl rfl rfl ?_) | (refine isDP ?_; first | (refine isDload rfl ?_; first | refine DP_loadRdA (vs := eT t) rdt (fun _ => rfl) hs TOK rfl rfl trivial rfl (by assumption) rfl rfl rfl (by omega) (by omega) (by rw [hru2]) (by repeat' (first | exact Inv.nil | refine Inv.keepB hs ?_ | refine Inv.keepO 0 hs rfl ?_ | refine Inv.keepC 0 hs rfl rfl ?_ | refine Inv.keepC 1 hs rfl rfl ?_ | refine Inv.keepC 2 hs rfl rfl ?_ | refine Inv.gone (by kernel_rfl) ?_)) ?_ | refine DP_loadCA 0 (eP ((0, 0) : Int × Int)) hs TOK rfl rfl trivial rfl rfl rfl rfl (Nat.le_of_ble_eq_true rfl) rfl (by repeat' (first | exact Inv.nil | refine Inv.keepB hs ?_ | refine Inv.keepO 0 hs rfl ?_ | refine Inv.keepC 0 hs rfl rfl ?_ | refine Inv.keepC 1 hs rfl rfl ?_ | refine Inv.keepC 2 hs rfl rfl ?_ | refine Inv.gone (by kernel_rfl) ?_)) ?_ | refine DP_loadC 1 hs TOK rfl rfl (by first | exact trivial | rfl) rfl rfl rfl rfl rfl ?_ ?_ | refine DP_loadRd rdl (fun _ => rfl) hs TOK rfl rfl (by first | exact trivial | rfl) rfl (by assumption) rfl rfl (by omega) (by omega) rfl ?_ ?_) | (refine isDidx rfl ?_; first | (refine DP_indexRd (rdl.of hs) TOK rfl rfl (by first | exact trivial | rfl) rfl rfl rfl rfl rfl (by omega) (by omega) ?_; intro _ _ _) | (refine DP_indexRd (rdt.of hs) TOK rfl rfl (by first | exact trivial | rfl) rfl rfl rfl rfl rfl (by omega) (by omega) ?_; intro _ _ _)) | refine DP_pure TOK rfl rfl (by first | exact trivial | rfl) rfl ?_) | (refine isI0 ?_; exact Inv.nil) | (refine isI1 ?_; first | refine Inv.keepC 1 hs rfl rfl ?_) | (with_reducible first | refine then_n ?_ | refine CW_seq ?_ | refine CW_region ?_ | refine CW_block ?_ | refine CW_skip ?_ | refine blk_n ?_) | refine CW_true rfl ?_ | refine CW_false rfl ?_ | (refine CW_drawP (id := 15) [10] [0, 1, 2, 3, 4, 5, 6, 7, 8, 9, 10, 11] mixed (by kernel_rfl) hs ?_; clear hs; intro hs)))
        have h6 := (Sat.snocP (r := ⟨(Go.Sl.rd N (i : Int)).1, A2, c2, leftF ⟨t.d, t.syn⟩ ((0, 0) : Int × Int)⟩) (Sat.keeps hs [0, 4, 1, 1, 1, 1])).picks [1, 1, 1, 0, 0]
        refine ⟨(i + 1, A3, c3, rs ++ [(⟨(Go.Sl.rd N (i : Int)).1, A2, c2, leftF ⟨t.d, t.syn⟩ ((0, 0) : Int × Int)⟩ : RF)]), _, FR_forget _ ⟨rfl, rfl, rfl, rfl, by push_cast; rfl, trivial⟩, ⟨h6, hlt, ?_⟩, by dsimp only; omega⟩
        dsimp only
        rw [hnx, List.map_append, hrs]
        rfl
    · (repeat' (first | (refine isLW ?_; first | refine LW_nil ?_ | (refine isLcall ?_; first | refine LW_pure TOK rfl ?_) | (refine isLbin ?_; first | (refine LW_cmp rfl (fun _ => ?_) (fun _ => ?_) <;> try (exfalso; omega))) | refine LW_pure TOK rfl ?_) | (with_reducible first | refine then_n ?_ | refine CW_seq ?_ | refine CW_region ?_ | refine CW_exit ?_ | refine CW_ret ?_ | refine then_e ?_ | refine blk_same ?_) | refine CW_false rfl ?_ | refine RET1 Try.results24 rfl ?_))
      rw [List.take_of_length_le (by omega)] at hrs
      have hl2 : rs.length = (leftL D.fs cuts 0 N).length := by rw [← hrs, List.length_map]
      exact ⟨A1, c1, by rw [hl2], Sat.closeHF hrs (Sat.keeps hs [2, 2])⟩
  · obtain ⟨J1, J2, hJ⟩ := List.append_of_mem (h1 (by omega))
    replace hs : Sat W w [Cl bs (eS S) 43, Cl bx (eK4 q S l d) 45, RowOf eE 113 2 A c N, Big (J1 ++ J2)] := by
      rw [hJ] at hs
      have h2 : Sat W w ([] ++ Big (J1 ++ RowOf eE 113 2 A c N :: J2) :: [Cl bs (eS S) 43, Cl bx (eK4 q S l d) 45]) := hs.picks [2, 0, 0]
      exact (Sat.openBig h2).picks [2, 2, 0, 0]
    obtain ⟨J', hJ'⟩ : ∃ J', J1 ++ J2 = J' := ⟨_, rfl⟩
    rw [hJ'] at hs
    clear hJ hJ' h1 h0
    (repeat' (first | (refine isLW ?_; first | refine LW_nil ?_ | (refine isLbin ?_; first | (refine LW_cmp rfl (fun _ => ?_) (fun _ => ?_) <;> try (exfalso; omega))) | refine LW_pure TOK rfl ?_) | (with_reducible first | refine then_n ?_ | refine CW_seq ?_ | refine CW_region ?_ | refine CW_block ?_ | refine CW_exit ?_ | refine then_e ?_ | refine blk_same ?_) | refine CW_false rfl ?_))
    replace hs : Sat W _ [Cl bs (eS S) 43, Cl bx (eK4 q S l d) 45, RowOf eF 30 2 none 0 ([] : List RF), Big (([] : List RF).map RF.P), RowOf eE 113 2 A c N, Big J'] := (Sat.mkBig (l := []) (hs.nilRow 30 2)).picks [2, 2, 1, 0, 0, 0]
    refine CW_loop (γ := Nat × Option Addr × Nat × List RF) (fun g => [(2, .slice C cuts.length cc), (7, .pointer (some ⟨bs, 0, none⟩)), (8, .slice A N.length c), (11, .slice g.2.1 g.2.2.2.length g.2.2.1), (12, .int .i64 (g.1 : Int))])
      (fun g w' => Sat W w' [Cl bs (eS S) 43, Cl bx (eK4 q S l d) 45, RowOf eF 30 2 g.2.1 g.2.2.1 g.2.2.2, Big (g.2.2.2.map RF.P), RowOf eE 113 2 A c N, Big J'] ∧ g.1 ≤ N.length ∧ g.2.2.2.map RF.f = leftL D.fs cuts 0 (N.take g.1)) (fun g => N.length - g.1) (0, none, 0, []) ⟨rfl, rfl, rfl, rfl, rfl, trivial⟩ ⟨hs, Nat.zero_le _, rfl⟩ ?_
    clear hs
    rintro ⟨i, A1, c1, rs⟩ τ w ⟨hs, h1, hrs⟩
    try dsimp only at hs h1 hrs ⊢
    have hrl : rs.length = i := by
      have := congrArg List.length hrs
      simpa [leftL_len, Nat.min_eq_left h1] using this
    by_cases hlt : i < N.length
    · have hmem : N[i].2 ∈ idsL N := List.mem_map.2 ⟨_, List.getElem_mem hlt, rfl⟩
      have hrdN := rd_at hlt
      have hnx := leftL_next D.fs cuts N hlt
      rw [← hrdN] at hmem hnx
      obtain ⟨t, hlt2, hru2, htm, e1, hbd, hsy⟩ := rep.atId good (hidN _ hmem)
      obtain ⟨⟨p, z⟩, hpq⟩ : ∃ x, cuts.getD i (0, 0) = x := ⟨_, rfl⟩
      rw [e1, hpq] at hnx
      have hrc : Go.Sl.rd cuts (i : Int) = (p, z) := by rw [← hpq]; rfl
      have hrdd := rd.data t htm
      by_cases hcu : i < cuts.length
      · (repeat' (first | (refine LW_alloc TOK hs rfl rfl ?_; clear hs; intro bt w hs) | (refine isDe rfl ?_; refine DP_eff rfl rfl (by repeat' (first | exact Inv.nil | refine Inv.keepB hs ?_ | refine Inv.keepO 0 hs rfl ?_ | refine Inv.keepC 0 hs rfl rfl ?_ | refine Inv.keepC 1 hs rfl rfl ?_ | refine Inv.keepC 2 hs rfl rfl ?_ | refine Inv.keepR (hs.rd 5 rfl) (fun _ => rfl) (by assumption) (by omega) (by omega) rfl ?_ | refine Inv.keepR (hs.rd 6 rfl) (fun _ => rfl) (by assumption) (by omega) (by omega) rfl ?_ | refine Inv.gone (by kernel_rfl) ?_)) ?_) | (refine isDnil ?_; refine DP_end (by repeat' (first | exact Inv.nil | refine Inv.keepB hs ?_ | refine Inv.keepO 0 hs rfl ?_ | refine Inv.keepC 0 hs rfl rfl ?_ | refine Inv.keepC 1 hs rfl rfl ?_ | refine Inv.keepC 2 hs rfl rfl ?_ | refine Inv.keepR (hs.rd 5 rfl) (fun _ => rfl) (by assumption) (by omega) (by omega) rfl ?_ | refine Inv.keepR (hs.rd 6 rfl) (fun _ => rfl) (by assumption) (by omega) (by omega) rfl ?_ | refine Inv.gone (by kernel_rfl) ?_)) ?_) | (refine isLW ?_; first | refine LW_nil ?_ | (refine isLload ?_; first | refine LW_loadRdA (vs := eP (p, z)) (rdc.of hs) (fun _ => rfl) TOK rfl (by assumption) rfl rfl rfl (by omega) (by omega) (by rw [hrc]) ?_ | refine LW_loadRd (hs.rd 6 rfl) (fun _ => rfl) TOK rfl (by assumption) rfl rfl (by omega) (by omega) rfl ?_) | (refine isLstore ?_; first | (refine LW_storeCA 0 TOK hs rfl rfl rfl rfl rfl (eP_ok.2 (p, z)) rfl (Nat.le_of_ble_eq_true rfl) ?_; clear hs; intro w hs)) | (refine isLcall ?_; first | (refine LW_call (cap := []) rfl rfl ent68 (left_call _ t (p, z) (hrdd.of hs) hsy (by omega)) ?_; rintro _ w2 ⟨A2, c2, rfl, hs2⟩; replace hs := hs.and1 hs2; clear hs2) | (refine LW_append1 4 eF_ok (z := ⟨(Go.Sl.rd N (i : Int)).1, A2, c2, leftF ⟨t.d, t.syn⟩ (p, z)⟩) hs TOK rfl rfl rfl rfl rfl rfl rfl rfl rfl rfl (by unfold maxLen; omega) (by simp only []; omega) ?_; clear hs; intro A3 c3 w hs) | refine LW_pure TOK rfl ?_) | (refine isLidx ?_; first | (refine LW_indexRd (hs.rd 6 rfl) TOK rfl rfl rfl rfl rfl (by omega) (by omega) ?_; intro _ _ _) | (refine LW_indexRd (rdc.of hs) TOK rfl rfl rfl rfl rfl (by omega) (by omega) ?_; intro _ _ _)) | (refine isLbin ?_; first | refine LW_i64 rfl (by omega) (by omega) ?_ | (refine LW_cmp rfl (fun _ => ?_) (fun _ => ?_) <;> try (exfalso; omega))) | refine LW_pure TOK rfl ?_ | (refine LW_buildSlice TOK hs rfl rfl rfl rfl rfl rfl rfl ?_; clear hs; intro _ w hs) | refine LW_build TOK rfl rfl rfl rfl rfl rfl ?_) | (refine isDP ?_; first | (refine isDload rfl ?_; first | refine DP_loadRdA (vs := eT t) rdt (fun _ => rfl) hs TOK rfl rfl trivial rfl (by assumption) rfl rfl rfl (by omega) (by omega) (by rw [hru2]) (by repeat' (first | exact Inv.nil | refine Inv.keepB hs ?_ | refine Inv.keepO 0 hs rfl ?_ | refine Inv.keepC 0 hs rfl rfl ?_ | refine Inv.keepC 1 hs rfl rfl ?_ | refine Inv.keepC 2 hs rfl rfl ?_ | refine Inv.keepR (hs.rd 5 rfl) (fun _ => rfl) (by assumption) (by omega) (by omega) rfl ?_ | refine Inv.keepR (hs.rd 6 rfl) (fun _ => rfl) (by assumption) (by omega) (by omega) rfl ?_ | refine Inv.gone (by kernel_rfl) ?_)) ?_ | refine DP_loadCA 0 (eP (p, z)) hs TOK rfl rfl trivial rfl rfl rfl rfl (Nat.le_of_ble_eq_true rfl) rfl (by repeat' (first | exact Inv.nil | refine Inv.keepB hs ?_ | refine Inv.keepO 0 hs rfl ?_ | refine Inv.keepC 0 hs rfl rfl ?_ | refine Inv.keepC 1 hs rfl rfl ?_ | refine Inv.keepC 2 hs rfl rfl ?_ | refine Inv.keepR (hs.rd 5 rfl) (fun _ => rfl) (by assumption) (by omega) (by omega) rfl ?_ | refine Inv.keepR (hs.rd 6 rfl) (fun _ => rfl) (by assumption) (by omega) (by omega) rfl ?_ | refine Inv.gone (by kernel_rfl) ?_)) ?_ | refine DP_loadC 1 hs TOK rfl rfl (by first | exact trivial | rfl) rfl rfl rfl rfl rfl ?_ ?_ | refine DP_loadRow (hs.rd 5 rfl) (fun _ => rfl) TOK rfl rfl (by first | exact trivial | rfl) rfl (by assumption) rfl rfl (by omega) (by omega) rfl ?_ ?_) | (refine isDidx rfl ?_; first | (refine DP_indexRd (hs.rd 5 rfl) TOK rfl rfl (by first | exact trivial | rfl) rfl rfl rfl rfl rfl (by omega) (by omega) ?_; intro _ _ _) | (refine DP_indexRd (rdt.of hs) TOK rfl rfl (by first | exact trivial | rfl) rfl rfl rfl rfl rfl (by omega) (by omega) ?_; intro _ _ _)) | refine DP_pure TOK rfl rfl (by first | exact trivial | rfl) rfl ?_) | (refine isI0 ?_; exact Inv.nil) | (refine isI1 ?_; first | refine Inv.keepC 1 hs rfl rfl ?_) | (with_reducible first | refine then_n ?_ | refine CW_seq ?_ | refine CW_region ?_ | refine CW_block ?_ | refine CW_skip ?_ | refine blk_n ?_) | refine CW_true rfl ?_ | (refine CW_drawP (id := 15) [10] [0, 1, 2, 3, 4, 5, 6, 7, 8, 9, 10, 11] mixed (by kernel_rfl) hs ?_; clear hs; intro hs)))
        have h6 := (Sat.snocP (r := ⟨(Go.Sl.rd N (i : Int)).1, A2, c2, leftF ⟨t.d, t.syn⟩ (p, z)⟩) (Sat.keeps hs [0, 4, 1, 1, 1, 1, 1])).picks [1, 1, 1, 0, 0, 0]
        refine ⟨(i + 1, A3, c3, rs ++ [(⟨(Go.Sl.rd N (i : Int)).1, A2, c2, leftF ⟨t.d, t.syn⟩ (p, z)⟩ : RF)]), _, FR_forget _ ⟨rfl, rfl, rfl, rfl, by push_cast; rfl, trivial⟩, ⟨h6, hlt, ?_⟩, by dsimp only; omega⟩
        dsimp only
        rw [hnx, List.map_append, hrs]
        rfl
      · have hc0 : cuts.getD i (0, 0) = (0, 0) := by simp [List.getD, List.getElem?_eq_none (Nat.le_of_not_lt hcu)]
        rw [hpq] at hc0
        cases hc0
        (repeat' (first | (refine LW_alloc TOK hs rfl rfl ?_; clear hs; intro bt w hs) | (refine isDe rfl ?_; refine DP_eff rfl rfl (by repeat' (first | exact Inv.nil | refine Inv.keepB hs ?_ | refine Inv.keepO 0 hs rfl ?_ | refine Inv.keepC 0 hs rfl rfl ?_ | refine Inv.keepC 1 hs rfl rfl ?_ | refine Inv.keepC 2 hs rfl rfl ?_ | refine Inv.keepR (hs.rd 5 rfl) (fun _ => rfl) (by assumption) (by omega) (by omega) rfl ?_ | refine Inv.keepR (hs.rd 6 rfl) (fun _ => rfl) (by assumption) (by omega) (by omega) rfl ?_ | refine Inv.gone (by kernel_rfl) ?_)) ?_) | (refine isDnil ?_; refine DP_end (by repeat' (first | exact Inv.nil | refine Inv.keepB hs ?_ | refine Inv.keepO 0 hs rfl ?_ | refine Inv.keepC 0 hs rfl rfl ?_ | refine Inv.keepC 1 hs rfl rfl ?_ | refine Inv.keepC 2 hs rfl rfl ?_ | refine Inv.keepR (hs.rd 5 rfl) (fun _ => rfl) (by assumption) (by omega) (by omega) rfl ?_ | refine Inv.keepR (hs.rd 6 rfl) (fun _ => rfl) (by assumption) (by omega) (by omega) rfl ?_ | refine Inv.gone (by kernel_rfl) ?_)) ?_) | (refine isLW ?_; first | refine LW_nil ?_ | (refine isLload ?_; first | refine LW_loadRd (hs.rd 6 rfl) (fun _ => rfl) TOK rfl (by assumption) rfl rfl (by omega) (by omega) rfl ?_) | (refine isLcall ?_; first | (refine LW_call (cap := []) rfl rfl ent68 (left_call _ t ((0, 0) : Int × Int) (hrdd.of hs) hsy (by omega)) ?_; rintro _ w2 ⟨A2, c2, rfl, hs2⟩; replace hs := hs.and1 hs2; clear hs2) | (refine LW_append1 4 eF_ok (z := ⟨(Go.Sl.rd N (i : Int)).1, A2, c2, leftF ⟨t.d, t.syn⟩ ((0, 0) : Int × Int)⟩) hs TOK rfl rfl rfl rfl rfl rfl rfl rfl rfl rfl (by unfold maxLen; omega) (by simp only []; omega) ?_; clear hs; intro A3 c3 w hs) | refine LW_pure TOK rfl ?_) | (refine isLidx ?_; first | (refine LW_indexRd (hs.rd 6 rfl) TOK rfl rfl rfl rfl rfl (by omega) (by omega) ?_; intro _ _ _)) | (refine isLbin ?_; first | refine LW_i64 rfl (by omega) (by omega) ?_ | (refine LW_cmp rfl (fun _ => ?_) (fun _ => ?_) <;> try (exfalso; omega))) | refine LW_pure TOK rfl ?_ | (refine LW_buildSlice TOK hs rfl rfl rfl rfl rfl rfl rfl ?_; clear hs; intro _ w hs) | refine LW_build TOK rfl rfl rfl rfl rfl rfl ?_) | (refine isDP ?_; first | (refine isDload rfl ?_; first | refine DP_loadRdA (vs := eT t) rdt (fun _ => rfl) hs TOK rfl rfl trivial rfl (by assumption) rfl rfl rfl (by omega) (by omega) (by rw [hru2]) (by repeat' (first | exact Inv.nil | refine Inv.keepB hs ?_ | refine Inv.keepO 0 hs rfl ?_ | refine Inv.keepC 0 hs rfl rfl ?_ | refine Inv.keepC 1 hs rfl rfl ?_ | refine Inv.keepC 2 hs rfl rfl ?_ | refine Inv.keepR (hs.rd 5 rfl) (fun _ => rfl) (by assumption) (by omega) (by omega) rfl ?_ | refine Inv.keepR (hs.rd 6 rfl) (fun _ => rfl) (by assumption) (by omega) (by omega) rfl ?_ | refine Inv.gone (by kernel_rfl) ?_)) ?_ | refine DP_loadCA 0 (eP ((0, 0) : Int × Int)) hs TOK rfl rfl trivial rfl rfl rfl rfl (Nat.le_of_ble_eq_true rfl) rfl (by repeat' (first | exact Inv.nil | refine Inv.keepB hs ?_ | refine Inv.keepO 0 hs rfl ?_ | refine Inv.keepC 0 hs rfl rfl ?_ | refine Inv.keepC 1 hs rfl rfl ?_ | refine Inv.keepC 2 hs rfl rfl ?_ | refine Inv.keepR (hs.rd 5 rfl) (fun _ => rfl) (by assumption) (by omega) (by omega) rfl ?_ | refine Inv.keepR (hs.rd 6 rfl) (fun _ => rfl) (by assumption) (by omega) (by omega) rfl ?_ | refine Inv.gone (by kernel_rfl) ?_)) ?_ | refine DP_loadC 1 hs TOK rfl rfl (by first | exact trivial | rfl) rfl rfl rfl rfl rfl ?_ ?_ | refine DP_loadRow (hs.rd 5 rfl) (fun _ => rfl) TOK rfl rfl (by first | exact trivial | rfl) rfl (by assumption) rfl rfl (by omega) (by omega) rfl ?_ ?_) | (refine isDidx rfl ?_; first | (refine DP_indexRd (hs.rd 5 rfl) TOK rfl rfl (by first | exact trivial | rfl) rfl rfl rfl rfl rfl (by omega) (by omega) ?_; intro _ _ _) | (refine DP_indexRd (rdt.of hs) TOK rfl rfl (by first | exact trivial | rfl) rfl rfl rfl rfl rfl (by omega) (by omega) ?_; intro _ _ _)) | refine DP_pure TOK rfl rfl (by first | exact trivial | rfl) rfl ?_) | (refine isI0 ?_; exact Inv.nil) | (refine isI1 ?_; first | refine Inv.keepC 1 hs rfl rfl ?_) | (with_reducible first | refine then_n ?_ | refine CW_seq ?_ | refine CW_region ?_ | refine CW_block ?_ | refine CW_skip ?_ | refine blk_n ?_) | refine CW_true rfl ?_ | refine CW_false rfl ?_ | (refine CW_drawP (id := 15) [10] [0, 1, 2, 3, 4, 5, 6, 7, 8, 9, 10, 11] mixed (by kernel_rfl) hs ?_; clear hs; intro hs)))
        have h6 := (Sat.snocP (r := ⟨(Go.Sl.rd N (i : Int)).1, A2, c2, leftF ⟨t.d, t.syn⟩ ((0, 0) : Int × Int)⟩) (Sat.keeps hs [0, 4, 1, 1, 1, 1, 1])).picks [1, 1, 1, 0, 0, 0]
        refine ⟨(i + 1, A3, c3, rs ++ [(⟨(Go.Sl.rd N (i : Int)).1, A2, c2, leftF ⟨t.d, t.syn⟩ ((0, 0) : Int × Int)⟩ : RF)]), _, FR_forget _ ⟨rfl, rfl, rfl, rfl, by push_cast; rfl, trivial⟩, ⟨h6, hlt, ?_⟩, by dsimp only; omega⟩
        dsimp only
        rw [hnx, List.map_append, hrs]
        rfl
    · (repeat' (first | (refine isLW ?_; first | refine LW_nil ?_ | (refine isLcall ?_; first | refine LW_pure TOK rfl ?_) | (refine isLbin ?_; first | (refine LW_cmp rfl (fun _ => ?_) (fun _ => ?_) <;> try (exfalso; omega))) | refine LW_pure TOK rfl ?_) | (with_reducible first | refine then_n ?_ | refine CW_seq ?_ | refine CW_region ?_ | refine CW_exit ?_ | refine CW_ret ?_ | refine then_e ?_ | refine blk_same ?_) | refine CW_false rfl ?_ | refine RET1 Try.results24 rfl ?_))
      rw [List.take_of_length_le (by omega)] at hrs
      have hl2 : rs.length = (leftL D.fs cuts 0 N).length := by rw [← hrs, List.length_map]
      exact ⟨A1, c1, by rw [hl2], Sat.closeHF hrs (Sat.keeps hs [2, 2])⟩
end
end Go.Proofs.Ytoodgenbcfdloaa
