/- Walks: a disk loaded. -/
import Derived.Test.YthhklkpkhaibcaaDoorN3
import Derived.Test.YthhklkpkhaibcaaDoorG13
import Derived.Test.YthhklkpkhaibcaaDoorSlDraw5
set_option linter.unusedVariables false
set_option linter.unusedSimpArgs false
namespace Go.Proofs.YthhklkpkhaibcaaDoor
open Go Go.Sl Go.RowKit
set_option maxRecDepth 100000
attribute [local irreducible] CW LW DW FR DP Calls

theorem sumW_next (l : List File) {i : Nat} (hi : i < l.length) : sumW (l.take (i + 1)) = IntKind.i64.wrap (sumW (l.take i) + (l[i]).2.length) := by
  rw [List.take_add_one, List.getElem?_eq_getElem hi]
  exact sumW_snoc _ _
theorem sumW_in (l : List File) : -9223372036854775808 ≤ sumW l ∧ sumW l ≤ 9223372036854775807 := by
  rcases List.eq_nil_or_concat l with rfl | ⟨l', f, rfl⟩
  · simp [sumW]
  · rw [List.concat_eq_append, sumW_snoc]
    simp [IntKind.wrap, IntKind.bits, IntKind.signed]
    omega
theorem loadGo_cons (fs : List Fl) (now : Names) (f : File) (l : List File) : loadGo fs now (f :: l) = if pathB f.1 = false then .inl 61 else if (fnd now f.1).isSome = true then .inl 62 else loadGo (fs ++ [⟨f.2, f.2.length⟩]) (wi now f.1 fs.length) l := rfl
theorem bigIn {W w : World} {x a b c : HProp} {l L : List HProp} (h : Sat W w (x :: a :: b :: c :: Big l :: L)) : Sat W w (a :: b :: c :: Big (l ++ [x]) :: L) := by
  have h4 : Sat W w (x :: ([a, b, c] ++ Big (l ++ []) :: L)) := by rw [List.append_nil]; exact h
  exact Sat.closeBig h4
set_option maxHeartbeats 2000000 in
theorem load_call (W w : World) (L : List HProp) (q : Int) (A : Option Addr) (c : Nat) (rs : List RF) (hs : Sat W w L) (hr1 : ∀ w', Sat W w' L → Rd eF w' A rs) (hr2 : ∀ w', Sat W w' L → ∀ r ∈ rs, Rd eB w' r.A r.data)
    (hnm : ∀ r ∈ rs, r.n.length ≤ 140737488355328 ∧ r.data.length ≤ 140737488355328) (hl : rs.length ≤ 4398046511104) (hqb : -9223372036854775808 ≤ q ∧ q ≤ 9223372036854775807) :
    Calls Tryd.prog 15 [Value.int .i64 q, .slice A rs.length c].toArray w (Ret fun v w' =>
      ((load q (sumW (rs.map RF.f)) (rs.map RF.f)).1 ≠ 0 ∧ v = .tuple #[.pointer none, .int .i64 (load q (sumW (rs.map RF.f)) (rs.map RF.f)).1] ∧ Sat W w' L) ∨
      ((load q (sumW (rs.map RF.f)) (rs.map RF.f)).1 = 0 ∧ ∃ d, v = .tuple #[.pointer (some ⟨d, 0, none⟩), .int .i64 0] ∧ Sat W w' (HD d (load q (sumW (rs.map RF.f)) (rs.map RF.f)).2 :: L))) := by
  refine Calls_of Tryd.func15 rfl 69 Tryd.ntmps15 rfl ?_
  obtain ⟨files, hfiles⟩ : ∃ files, rs.map RF.f = files := ⟨_, rfl⟩
  have hfl : files.length = rs.length := by rw [← hfiles, List.length_map]
  rw [hfiles]
  unfold load
  (repeat' (first | (refine isLW ?_; first | refine LW_nil ?_ | (refine isLcall ?_; first | (refine LW_call (cap := []) rfl rfl ent28 (new_callR W _ L q hs) ?_; clear hs; rintro _ w (⟨hq, rfl, hs⟩ | ⟨hq, d, bN, bL, rfl, hs⟩); rotate_left) | refine LW_pure TOK rfl ?_) | (refine isLbin ?_; first | (refine LW_cmp rfl (fun _ => ?_) (fun _ => ?_) <;> try (exfalso; omega))) | refine LW_pure TOK rfl ?_) | (with_reducible first | refine then_n ?_ | refine CW_seq ?_ | refine CW_region ?_ | refine CW_block ?_ | refine CW_skip ?_ | refine CW_ret ?_ | refine then_r ?_) | refine CW_true rfl ?_ | refine CW_false rfl ?_ | refine RET2 Tryd.results15 rfl rfl ?_))
  · rw [if_neg hq]
    refine CW_loop (γ := Nat × List Ent' × Nat × List Fm) (fun g => [(0, .int .i64 q), (6, .pointer (some ⟨d, 0, none⟩)), (8, .int .i64 (sumW (files.take g.1))), (19, .slice A rs.length c), (20, .int .i64 (rs.length : Int)), (21, .int .i64 (g.1 : Int))])
      (fun g w' => Sat W w' (ld0 d bN bL g.2.2.1 g.2.1 g.2.2.2 q ++ L) ∧ g.1 ≤ rs.length ∧ ∃ now, MapOf g.2.1 g.2.2.1 now ∧ LSt (g.2.2.2.map (·.f)) now (files.take g.1) ∧ loadGo [] [] files = loadGo (g.2.2.2.map (·.f)) now (files.drop g.1)) (fun g => rs.length - g.1) (0, [], 0, []) ⟨rfl, rfl, rfl, rfl, rfl, rfl, trivial⟩ ⟨hs, Nat.zero_le _, [], ⟨List.Perm.refl _, List.Pairwise.nil, by simp, by simp⟩, .nil, rfl⟩ ?_
    clear hs
    rintro ⟨i, E, ck, F⟩ τ w ⟨hs, hi, now, hm, hst, hgo⟩
    dsimp only at hs hi hm hst hgo ⊢
    by_cases hlt : i < rs.length
    · have hrd := rd_at hlt
      have hmem : rs[i] ∈ rs := List.getElem_mem hlt
      have hfi : files[i]'(by omega) = (rs[i]).f := by subst hfiles; rw [List.getElem_map]
      have hsn := sumW_next files (i := i) (by omega)
      have hsb := sumW_in (files.take i)
      have hdr : files.drop i = (rs[i]).f :: files.drop (i + 1) := by rw [List.drop_eq_getElem_cons (by omega), hfi]
      rw [hfi] at hsn
      rw [hdr] at hgo
      have htk : files.take (i + 1) = files.take i ++ [(rs[i]).f] := by rw [List.take_add_one, List.getElem?_eq_getElem (by omega), hfi]; rfl
      obtain ⟨hn1, hn2⟩ := hnm _ hmem
      have hr2' := fun w' h => hr2 w' h _ hmem
      obtain ⟨r, hrr⟩ : ∃ r, rs[i] = r := ⟨_, rfl⟩
      rw [hrr] at hrd hfi hsn hdr hgo htk hn1 hn2 hr2'
      have hfnd := hm.find (F.map (·.b)) r.n
      rw [loadGo_cons] at hgo
      have hrf : r.f = (r.n, r.data) := rfl
      rw [hrf] at hgo hsn
      dsimp only at hgo hsn
      cases hp : pathB r.n with
      | false =>
        rw [if_pos hp] at hgo
        (repeat' (first | (refine isLW ?_; first | refine LW_nil ?_ | (refine isLload ?_; first | refine LW_loadRdA (vs := [sv r.n, .slice r.A r.data.length r.c]) (hr1 _ (Sat.dropN hs 4)) (fun _ => rfl) TOK rfl (by assumption) rfl rfl rfl (by omega) (by omega) (by rw [hrd]; rfl) ?_ | refine LW_loadC 0 TOK hs rfl rfl rfl rfl rfl ?_) | (refine isLstore ?_; first | (refine LW_storeCA 0 TOK hs rfl rfl rfl rfl rfl (eF_ok.2 r) rfl (Nat.le_of_ble_eq_true rfl) ?_; clear hs; intro w hs)) | (refine isLcall ?_; first | (refine LW_call (cap := []) rfl rfl ent29 (path_call _ r.n hn1) ?_; rintro _ w ⟨rfl, hs2⟩; replace hs := hs.and0 hs2; clear hs2; rw [hp])) | (refine isLidx ?_; first | (refine LW_indexRd (hr1 _ (Sat.dropN hs 4)) TOK rfl rfl rfl rfl rfl (by omega) (by omega) ?_; intro _ _ _)) | (refine isLbin ?_; first | (refine LW_cmp rfl (fun _ => ?_) (fun _ => ?_) <;> try (exfalso; omega))) | refine LW_pure TOK rfl ?_ | (refine LW_alloc TOK hs rfl rfl ?_; clear hs; intro _ w hs)) | (with_reducible first | refine then_n ?_ | refine CW_seq ?_ | refine CW_region ?_ | refine CW_block ?_ | refine CW_skip ?_ | refine CW_ret ?_ | refine then_r ?_ | refine blk_r ?_) | refine CW_true rfl ?_ | refine RET2 Tryd.results15 rfl rfl ?_))
        rw [hgo]
        exact .inl ⟨by simp, rfl, Sat.dropN hs 5⟩
      | true =>
        rw [if_neg (by simp [hp])] at hgo
        cases hf : fnd now r.n with
        | some j =>
          rw [if_pos (by rw [hf]; rfl)] at hgo
          have hv : (findV (kvs (F.map (·.b)) E) r.n).getD (.pointer none) = ptv (F.map (·.b)) j := by rw [hfnd, hf]; rfl
          (repeat' (first | (refine isLW ?_; first | refine LW_nil ?_ | (refine isLload ?_; first | refine LW_loadRdA (vs := [sv r.n, .slice r.A r.data.length r.c]) (hr1 _ (Sat.dropN hs 4)) (fun _ => rfl) TOK rfl (by assumption) rfl rfl rfl (by omega) (by omega) (by rw [hrd]; rfl) ?_ | refine LW_loadC 0 TOK hs rfl rfl rfl rfl rfl ?_) | (refine isLstore ?_; first | (refine LW_storeCA 0 TOK hs rfl rfl rfl rfl rfl (eF_ok.2 r) rfl (Nat.le_of_ble_eq_true rfl) ?_; clear hs; intro w hs)) | (refine isLcall ?_; first | (refine LW_call (cap := []) rfl rfl ent29 (path_call _ r.n hn1) ?_; rintro _ w ⟨rfl, hs2⟩; replace hs := hs.and0 hs2; clear hs2; rw [hp])) | (refine isLidx ?_; first | (refine LW_indexRd (hr1 _ (Sat.dropN hs 4)) TOK rfl rfl rfl rfl rfl (by omega) (by omega) ?_; intro _ _ _)) | (refine isLbin ?_; first | (refine LW_cmp rfl (fun _ => ?_) (fun _ => ?_) <;> try (exfalso; omega))) | refine LW_pure TOK rfl ?_ | (refine LW_alloc TOK hs rfl rfl ?_; clear hs; intro _ w hs)) | (refine isDP ?_; first | (refine isDnil ?_; first | refine DP_end ?_ ?_) | (refine isDload rfl ?_; first | refine DP_loadC 0 hs TOK rfl rfl (by first | exact trivial | rfl) rfl rfl rfl rfl rfl ?_ ?_ | refine DP_loadC 1 hs TOK rfl rfl (by first | exact trivial | rfl) rfl rfl rfl rfl rfl ?_ ?_) | (refine isDbin rfl ?_; first | refine DP_nileq TOK rfl rfl (by first | exact trivial | rfl) rfl ?_) | refine DP_lookup keyN 2 (k := r.n) hs TOK rfl rfl trivial rfl rfl rfl rfl rfl rfl rfl rfl hv ?_ ?_ | refine DP_pure TOK rfl rfl (by first | exact trivial | rfl) rfl ?_) | (refine isI0 ?_; exact Inv.nil) | (refine isI1 ?_; first | refine Inv.keepC 0 hs rfl rfl ?_ | refine Inv.keepC 1 hs rfl rfl ?_ | refine Inv.keepM keyN 2 hs rfl ?_) | (with_reducible first | refine then_n ?_ | refine CW_seq ?_ | refine CW_region ?_ | refine CW_block ?_ | refine CW_skip ?_ | refine CW_ret ?_ | refine then_r ?_ | refine blk_r ?_) | refine CW_true rfl ?_ | refine CW_false rfl ?_ | (refine CW_drawP (id := 10) [] [0, 1, 2, 3, 4, 5, 6, 7] mixed (by kernel_rfl) hs ?_; clear hs; intro hs) | refine RET2 Tryd.results15 rfl rfl ?_))
          rw [hgo]
          exact .inl ⟨by simp, rfl, Sat.dropN hs 5⟩
        | none =>
          rw [if_neg (by rw [hf]; simp)] at hgo
          have hv : (findV (kvs (F.map (·.b)) E) r.n).getD (.pointer none) = .pointer none := by rw [hfnd, hf]; rfl
          (repeat' (first | (refine isLW ?_; first | refine LW_nil ?_ | (refine isLload ?_; first | refine LW_loadRdA (vs := [sv r.n, .slice r.A r.data.length r.c]) (hr1 _ (Sat.dropN hs 4)) (fun _ => rfl) TOK rfl (by assumption) rfl rfl rfl (by omega) (by omega) (by rw [hrd]; rfl) ?_ | refine LW_loadC 0 TOK hs rfl rfl rfl rfl rfl ?_) | (refine isLstore ?_; first | (refine LW_storeCA 0 TOK hs rfl rfl rfl rfl rfl (eF_ok.2 r) rfl (Nat.le_of_ble_eq_true rfl) ?_; clear hs; intro w hs)) | (refine isLcall ?_; first | (refine LW_call (cap := []) rfl rfl ent29 (path_call _ r.n hn1) ?_; rintro _ w ⟨rfl, hs2⟩; replace hs := hs.and0 hs2; clear hs2; rw [hp]) | (refine LW_call (cap := []) rfl rfl ent30 (CloneB_call _ r.data r.A r.c (hr2' _ (Sat.dropN hs 5)) hn2) ?_; rintro _ w ⟨A2, c2, rfl, hs2⟩; replace hs := hs.and1 hs2; clear hs2) | refine LW_pure TOK rfl ?_) | (refine isLidx ?_; first | (refine LW_indexRd (hr1 _ (Sat.dropN hs 4)) TOK rfl rfl rfl rfl rfl (by omega) (by omega) ?_; intro _ _ _)) | (refine isLbin ?_; first | refine LW_arithE _ rfl hsn.symm ?_ | refine LW_i64 rfl (by omega) (by omega) ?_ | (refine LW_cmp rfl (fun _ => ?_) (fun _ => ?_) <;> try (exfalso; omega))) | (refine LW_mapUpdate keyN 4 (k := r.n) hs TOK rfl rfl rfl rfl rfl rfl rfl rfl ?_; clear hs; intro w hs) | refine LW_pure TOK rfl ?_ | (refine LW_box hs rfl rfl ?_; clear hs; intro _ w hs) | (refine LW_alloc TOK hs rfl rfl ?_; clear hs; intro _ w hs)) | (refine isDP ?_; first | (refine isDnil ?_; first | refine DP_end ?_ ?_) | (refine isDe rfl ?_; first | refine DP_eff rfl rfl ?_ ?_) | (refine isDload rfl ?_; first | refine DP_loadC 0 hs TOK rfl rfl (by first | exact trivial | rfl) rfl rfl rfl rfl rfl ?_ ?_ | refine DP_loadC 1 hs TOK rfl rfl (by first | exact trivial | rfl) rfl rfl rfl rfl rfl ?_ ?_) | (refine isDbin rfl ?_; first | refine DP_nileq TOK rfl rfl (by first | exact trivial | rfl) rfl ?_) | refine DP_lookup keyN 2 (k := r.n) hs TOK rfl rfl trivial rfl rfl rfl rfl rfl rfl rfl rfl hv ?_ ?_ | refine DP_build TOK rfl rfl (by first | exact trivial | rfl) rfl rfl rfl rfl rfl rfl ?_ | refine DP_pure TOK rfl rfl (by first | exact trivial | rfl) rfl ?_) | (refine isI0 ?_; exact Inv.nil) | (refine isI1 ?_; first | refine Inv.keepC 0 hs rfl rfl ?_ | refine Inv.keepC 1 hs rfl rfl ?_ | refine Inv.keepC 2 hs rfl rfl ?_ | refine Inv.keepC 3 hs rfl rfl ?_ | refine Inv.keepM keyN 2 hs rfl ?_) | (with_reducible first | refine then_n ?_ | refine CW_seq ?_ | refine CW_region ?_ | refine CW_block ?_ | refine CW_skip ?_ | refine blk_n ?_) | refine CW_true rfl ?_ | refine CW_false rfl ?_ | (refine CW_drawP (id := 10) [] [0, 1, 2, 3, 4, 5, 6, 7] mixed (by kernel_rfl) hs ?_; clear hs; intro hs) | (refine CW_drawP (id := 13) [8, 13, 14] [0, 1, 2, 3, 4, 5, 6, 7, 9, 10, 11, 8, 12, 13, 14] mixed (by kernel_rfl) hs ?_; clear hs; intro hs)))
          rename_i b' _
          have hbl : ∀ p ∈ now, p.2 < (F.map (·.b)).length := fun p hp => by
            have := hst.lt p.2 (List.mem_map.2 ⟨p, hp, rfl⟩)
            simpa using this
          have e1 : kvs (F.map (·.b)) E = kvs (F.map (·.b) ++ [b']) E := (kvs_more' hm (fun i hi => by
            obtain ⟨p, hp, rfl⟩ := List.mem_map.1 hi
            exact hbl p hp)).symm
          have e2 : (.pointer (some ⟨b', 0, none⟩) : Value) = ptv (F.map (·.b) ++ [b']) (F.map (·.f)).length := by
            have h1 : (F.map (·.b) ++ [b']).getD (F.map (·.f)).length 0 = b' := by simp [List.getD]
            simp only [ptv, h1]
          obtain ⟨E', hput, hm'⟩ := hm.put (F.map (·.b) ++ [b']) r.n (F.map (·.f)).length
          rw [e1, e2, hput] at hs
          have hf2 : (F ++ [(⟨b', A2, c2, ⟨r.data, r.data.length⟩⟩ : Fm)]).map (·.f) = F.map (·.f) ++ [⟨r.data, r.data.length⟩] := by simp
          have hb2 : (F ++ [(⟨b', A2, c2, ⟨r.data, r.data.length⟩⟩ : Fm)]).map (·.b) = F.map (·.b) ++ [b'] := by simp
          refine ⟨(i + 1, E', _, F ++ [(⟨b', A2, c2, ⟨r.data, r.data.length⟩⟩ : Fm)]), _, FR_forget _ ⟨rfl, rfl, rfl, rfl, rfl, rfl, trivial⟩, ⟨?_, hlt, wi now r.n (F.map (·.f)).length, hm', ?_, ?_⟩, by dsimp only; omega⟩
          · dsimp only
            unfold ld0
            rw [hb2, List.map_append]
            have h1 := (hs.picks [2]).drop1
            have h2 := Sat.mkBig (l := [Cl b' [.slice A2 r.data.length c2, .int .i64 (r.data.length : Int)] 71, RowOf eB 5 1 A2 c2 r.data]) h1
            exact bigIn h2
          · dsimp only
            rw [hf2, htk, hrf]
            exact hst.snoc (r.n, r.data) hp hf
          · dsimp only
            rw [hf2]; exact hgo
    · have hii : i = rs.length := by omega
      have h9 : files.take i = files := List.take_of_length_le (by omega)
      have h8 : files.drop i = [] := List.drop_eq_nil_of_le (by omega)
      rw [h8] at hgo
      rw [h9] at hst ⊢
      have hgo2 : loadGo [] [] files = .inr (F.map (·.f), now) := hgo
      rw [hgo2]
      dsimp only
      obtain ⟨sw, hsw⟩ : ∃ sw, sumW files = sw := ⟨_, rfl⟩
      rw [hsw]
      by_cases hsq : q < sw
      · rw [if_pos hsq]
        (repeat' (first | (refine isLW ?_; first | refine LW_nil ?_ | (refine isLbin ?_; first | (refine LW_cmp rfl (fun _ => ?_) (fun _ => ?_) <;> try (exfalso; omega))) | refine LW_pure TOK rfl ?_) | (with_reducible first | refine then_n ?_ | refine CW_seq ?_ | refine CW_region ?_ | refine CW_exit ?_ | refine CW_ret ?_ | refine then_e ?_ | refine then_r ?_ | refine blk_same ?_) | refine CW_true rfl ?_ | refine CW_false rfl ?_ | refine RET2 Tryd.results15 rfl rfl ?_))
        exact .inl ⟨by simp, rfl, Sat.dropN hs 4⟩
      · rw [if_neg hsq]
        (repeat' (first | (refine isLW ?_; first | refine LW_nil ?_ | (refine isLload ?_; first | refine LW_loadC 0 TOK hs rfl rfl rfl rfl rfl ?_) | (refine isLstore ?_; first | (refine LW_storeC 1 TOK hs rfl rfl rfl rfl rfl rfl rfl ?_; clear hs; intro w hs)) | (refine isLcall ?_; first | (refine LW_call (cap := []) rfl rfl ent31 (CloneM_call W _ _ bN ck _ 1 hs rfl) ?_; clear hs; rintro _ w ⟨b3, rfl, hs⟩)) | (refine isLbin ?_; first | (refine LW_cmp rfl (fun _ => ?_) (fun _ => ?_) <;> try (exfalso; omega))) | refine LW_pure TOK rfl ?_) | (with_reducible first | refine then_n ?_ | refine CW_seq ?_ | refine CW_region ?_ | refine CW_skip ?_ | refine CW_exit ?_ | refine CW_ret ?_ | refine then_e ?_ | refine blk_same ?_) | refine CW_false rfl ?_ | refine RET2 Tryd.results15 rfl rfl ?_))
        refine .inr ⟨rfl, d, rfl, Sat.closeD (R := ⟨bN, ck, E, b3, ck, E, none, 0, F, 0⟩) ⟨hm, hm, rfl, fun k hk => (by cases hk), by show _ ≤ (0 : Int) ∧ (0 : Int) ≤ _; omega⟩ ?_⟩
        have h4 := (((hs.picks [3]).drop1).nilRow 80 3).picks [2, 2, 1, 0]
        have hqq : ((q.toNat : Nat) : Int) = q := by omega
        unfold Rp.L dCells
        dsimp only
        rw [hqq]
        exact h4
  · rw [if_pos hq]
    exact .inl ⟨by simp, rfl, hs⟩
end Go.Proofs.YthhklkpkhaibcaaDoor
