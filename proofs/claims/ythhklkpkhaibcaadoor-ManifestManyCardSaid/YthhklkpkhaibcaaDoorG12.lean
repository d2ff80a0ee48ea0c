/- Walks: what a crash would leave. -/
import Derived.Test.YthhklkpkhaibcaaDoorG11
import Derived.Test.YthhklkpkhaibcaaDoorSlZero
set_option linter.unusedVariables false
set_option linter.unusedSimpArgs false
namespace Go.Proofs.YthhklkpkhaibcaaDoor
open Go Go.Sl Go.RowKit
set_option maxRecDepth 100000
attribute [local irreducible] CW LW DW FR DP Calls

theorem Sat.dropN {W w : World} {L : List HProp} (h : Sat W w L) : ∀ k, Sat W w (L.drop k) := by
  intro k
  induction k generalizing L with
  | zero => exact h
  | succ k ih => cases L with
    | nil => exact h
    | cons p L => exact ih h.drop1
theorem clampE (n hi : Int) (h : 0 ≤ hi) : (if (if hi < n then hi else n) > 0 then (if hi < n then hi else n) else 0) = clamp n 0 hi := by
  unfold clamp
  split <;> split <;> (try split) <;> (try split) <;> omega
theorem clamp_in (n hi : Int) (h : 0 ≤ hi) : 0 ≤ clamp n 0 hi ∧ clamp n 0 hi ≤ hi := by
  unfold clamp
  split <;> (try split) <;> omega
theorem CloneT_call (w : World) (b : List UInt8) (m : Nat) (A : Option Addr) (c : Nat) (rb : Rd eB w A b) (hm : m ≤ b.length) (hb : b.length ≤ 140737488355328) :
    Calls Tryd.prog 30 [Value.slice A m c].toArray w (Ret fun v w' => ∃ A' c', v = .slice A' (b.take m).length c' ∧ Sat w w' [RowOf eB 5 1 A' c' (b.take m)]) := by
  have e : (b.take m).length = m := by rw [List.length_take]; omega
  have := CloneB_call w (b.take m) A c (rb.take m) (by omega)
  rw [e] at this
  rw [e]; exact this
theorem leftL_snoc (fs : List Fl) (cuts : List (Int × Int)) (p : Nm × Nat) : ∀ (l : Names) (k : Nat), leftL fs cuts k (l ++ [p]) = leftL fs cuts k l ++ [(p.1, leftF (fs.getD p.2 default) (cuts.getD (k + l.length) (0, 0)))]
  | [], k => rfl
  | x :: l, k => by
    have := leftL_snoc fs cuts p l (k + 1)
    show _ :: leftL fs cuts (k + 1) (l ++ [p]) = _ :: _
    rw [this, List.length_cons]
    rw [show k + 1 + l.length = k + (l.length + 1) by omega]
    rfl
theorem leftL_next (fs : List Fl) (cuts : List (Int × Int)) (l : Names) {i : Nat} (hi : i < l.length) : leftL fs cuts 0 (l.take (i + 1)) = leftL fs cuts 0 (l.take i) ++ [((l[i]).1, leftF (fs.getD (l[i]).2 default) (cuts.getD i (0, 0)))] := by
  rw [List.take_add_one, List.getElem?_eq_getElem hi]
  show leftL fs cuts 0 (l.take i ++ [l[i]]) = _
  rw [leftL_snoc, List.length_take, Nat.min_eq_left (Nat.le_of_lt hi), Nat.zero_add]
theorem leftL_len (fs : List Fl) (cuts : List (Int × Int)) : ∀ (l : Names) (k : Nat), (leftL fs cuts k l).length = l.length
  | [], _ => rfl
  | _ :: l, k => by simp [leftL, leftL_len fs cuts l (k + 1)]
theorem okC_at : ∀ {cs : List Chg} {l : Names} {i : Nat} (_ : OkC l cs) (hi : i < cs.length), okC ((cs.take i).foldl doC l) cs[i]
  | c :: cs, l, 0, h, _ => h.1
  | c :: cs, l, i + 1, h, hi => okC_at (cs := cs) h.2 (by simpa using hi)
theorem fold_next (l : Names) {cs : List Chg} {i : Nat} (hi : i < cs.length) : (cs.take (i + 1)).foldl doC l = doC ((cs.take i).foldl doC l) cs[i] := by
  rw [List.take_add_one, List.getElem?_eq_getElem hi, List.foldl_append]
  rfl
set_option maxHeartbeats 2000000 in
theorem crash_callG (W w : World) (L : List HProp) (d : Nat) (D : DS) (keep : Int) (C : Option Addr) (cc : Nat) (cuts : List (Int × Int)) (hs : Sat W w (HD d D :: L)) (hst : St D) (hl : D.chs.length ≤ 2199023255552)
    (hk1 : -9223372036854775808 ≤ keep ∧ keep ≤ 9223372036854775807) (hr : ∀ w', Sat W w' L → Rd eP w' C cuts) (hcl : cuts.length ≤ 140737488355328)
    (hnl : (keptN D keep).length ≤ 2199023255552) (hdl : ∀ i ∈ idsL (keptN D keep), (D.dat i).length ≤ 140737488355328) :
    Calls Tryd.prog 18 [Value.pointer (some ⟨d, 0, none⟩), .int .i64 keep, .slice C cuts.length cc].toArray w (Ret fun v w' => ∃ A c, v = .slice A (D.crash keep cuts).length c ∧ Sat W w' (HF A c (D.crash keep cuts) :: HD d D :: L)) := by
  refine Calls_of Tryd.func18 rfl 108 Tryd.ntmps18 rfl ?_
  obtain ⟨R, ho, hs⟩ := Sat.openD hs
  have hrow := (hs.picks [3]).rowLe
  obtain ⟨kz, hkz⟩ : ∃ kz, clamp keep 0 (D.chs.length : Int) = kz := ⟨_, rfl⟩
  have hkb := clamp_in keep (D.chs.length : Int) (by omega)
  have hke := clampE keep (D.chs.length : Int) (by omega)
  unfold DS.crash
  unfold keptN at hnl hdl ⊢
  rw [hkz] at hkb hke hnl hdl ⊢
  (repeat' (first | (refine isLW ?_; first | refine LW_nil ?_ | (refine isLload ?_; first | refine LW_loadC 0 TOK hs rfl rfl rfl rfl rfl ?_) | (refine isLcall ?_; first | (refine LW_call (cap := []) rfl rfl ent31 (CloneM_call W _ _ R.bL R.ckL _ 2 hs rfl) ?_; clear hs; rintro _ w ⟨b2, rfl, hs⟩; replace hs := hs.picks [1, 1, 1, 1, 1])) | refine LW_pure TOK rfl ?_) | (refine isDP ?_; first | (refine isDnil ?_; first | refine DP_end ?_ ?_) | (refine isDload rfl ?_; first | refine DP_loadC 0 hs TOK rfl rfl (by first | exact trivial | rfl) rfl rfl rfl rfl rfl ?_ ?_) | refine DP_min2 _ rfl rfl trivial rfl rfl rfl ?_ | refine DP_max2 kz rfl rfl trivial rfl rfl hke ?_ | refine DP_sliceH TOK rfl rfl trivial rfl rfl rfl rfl rfl (by omega) (by omega) ?_ | refine DP_pure TOK rfl rfl (by first | exact trivial | rfl) rfl ?_) | (refine isI0 ?_; exact Inv.nil) | (refine isI1 ?_; first | refine Inv.keepC 0 hs rfl rfl ?_) | (with_reducible first | refine then_n ?_ | refine CW_seq ?_ | refine CW_region ?_ | refine CW_block ?_) | (refine CW_drawP (id := 2) [] [0, 1, 2, 3, 4, 5, 6, 7, 8, 9, 10, 11, 12, 13, 14] mixed (by kernel_rfl) hs ?_; clear hs; intro hs)))
  replace hs : Sat W w.drew (Mp keyN b2 (kvs R.bs R.EL) R.ckL :: (R.L d D ++ L)) := hs.picks [5]
  have hbd := hst.bd
  have hkl : kz.toNat ≤ D.chs.length := by omega
  have hka : ((kz.toNat : Nat) : Int) = kz := by omega
  refine CW_loop (γ := Nat × List Ent' × Nat) (fun g => [(0, .pointer (some ⟨d, 0, none⟩)), (1, .int .i64 keep), (2, .slice C cuts.length cc), (7, .map (some b2)), (35, .slice R.A kz.toNat R.c), (36, .int .i64 ((kz.toNat : Nat) : Int)), (37, .int .i64 (g.1 : Int))])
    (fun g w' => Sat W w' (Mp keyN b2 (kvs R.bs g.2.1) g.2.2 :: (R.L d D ++ L)) ∧ g.1 ≤ kz.toNat ∧ MapOf g.2.1 g.2.2 ((D.chs.take g.1).foldl doC D.las)) (fun g => kz.toNat - g.1) (0, R.EL, R.ckL) ⟨rfl, rfl, rfl, rfl, rfl, rfl, rfl, trivial⟩ ⟨hs, Nat.zero_le _, ho.mL⟩ ?_
  clear hs
  rintro ⟨i, E, ck⟩ τ w ⟨hs, hi, hm⟩
  dsimp only at hs hi hm ⊢
  by_cases hlt : i < kz.toNat
  · have hlt2 : i < D.chs.length := by omega
    have hok := okC_at hst.ok hlt2
    have hnx := fold_next D.las hlt2
    have hrd : rd D.chs (i : Int) = D.chs[i] := by unfold rd; simp [List.getD, hlt2]
    obtain ⟨c, hc⟩ : ∃ c, D.chs[i] = c := ⟨_, rfl⟩
    rw [hc] at hok hnx hrd
    (repeat' (first | (refine isLW ?_; first | refine LW_nil ?_ | (refine isLload ?_; first | refine LW_loadRdA (vs := [sv c.a, sv c.b, ptm R.bs c.made]) (hs.rd 4 rfl) (fun _ => rfl) TOK rfl (by assumption) rfl rfl rfl (by omega) (by omega) (by rw [hrd]; rfl) ?_ | refine LW_loadCAE 0 [sv c.a, sv c.b, ptm R.bs c.made] TOK hs rfl rfl rfl rfl (Nat.le_of_ble_eq_true rfl) rfl ?_) | (refine isLstore ?_; first | (refine LW_storeCA 0 TOK hs rfl rfl rfl rfl rfl ((eC_ok R.bs).2 c) rfl (Nat.le_of_ble_eq_true rfl) ?_; clear hs; intro w hs)) | (refine isLcall ?_; first | (refine LW_call (cap := []) rfl rfl ent35 (do_call W _ _ E R.bs ck _ b2 c hm hok (hs.picks [1])) ?_; clear hs; rintro _ w ⟨E', ck', hm', hs⟩)) | (refine isLidx ?_; first | (refine LW_indexRdN (hs.rd 4 rfl) TOK rfl rfl rfl rfl rfl (by omega) (by omega) (by omega) ?_; intro _ _ _)) | (refine isLbin ?_; first | refine LW_i64 rfl (by omega) (by omega) ?_ | (refine LW_cmp rfl (fun _ => ?_) (fun _ => ?_) <;> try (exfalso; omega))) | refine LW_pure TOK rfl ?_ | (refine LW_alloc TOK hs rfl rfl ?_; clear hs; intro _ w hs)) | (with_reducible first | refine then_n ?_ | refine CW_seq ?_ | refine CW_region ?_ | refine CW_block ?_ | refine CW_skip ?_ | refine blk_n ?_) | refine CW_true rfl ?_))
    exact ⟨(i + 1, E', ck'), _, FR_forget _ ⟨rfl, rfl, rfl, rfl, rfl, rfl, rfl, trivial⟩, ⟨(hs.picks [1]).drop1, hlt, by dsimp only; rw [hnx]; exact hm'⟩, by dsimp only; omega⟩
  have hik : i = kz.toNat := by omega
  subst hik
  obtain ⟨S, hS⟩ : ∃ S, (D.chs.take kz.toNat).foldl doC D.las = S := ⟨_, rfl⟩
  have hsub : ∀ j ∈ idsL S, j < D.fs.length := fun j hj => by rw [← hS] at hj; exact hst.ltKept hj
  rw [hS] at hm hdl hnl ⊢
  have hel := hm.perm.length_eq
  rw [List.length_map] at hel
  (repeat' (first | (refine isLW ?_; first | refine LW_nil ?_ | (refine isLcall ?_; first | (refine LW_call (cap := []) rfl rfl ent36 (rising_call W _ _ E R.bs ck S b2 hm (by omega) hs) ?_; clear hs; rintro _ w ⟨A1, c1, rfl, hs⟩) | refine LW_pure TOK rfl ?_) | (refine isLbin ?_; first | (refine LW_cmp rfl (fun _ => ?_) (fun _ => ?_) <;> try (exfalso; omega))) | refine LW_pure TOK rfl ?_) | (with_reducible first | refine then_n ?_ | refine CW_seq ?_ | refine CW_region ?_ | refine CW_block ?_ | refine CW_exit ?_ | refine then_e ?_ | refine blk_same ?_) | refine CW_false rfl ?_))
  replace hs : Sat W w (Big (([] : List RF).map RF.P) :: RowOf eF 42 2 none 0 ([] : List RF) :: RowOf eN 9 1 A1 c1 (S.map (·.1)) :: Mp keyN b2 (kvs R.bs E) ck :: (R.L d D ++ L)) := Sat.mkBig (l := []) (hs.nilRow 42 2)
  replace hs : Sat W w (RowOf eF 42 2 none 0 ([] : List RF) :: Big (([] : List RF).map RF.P) :: (R.L d D ++ (Mp keyN b2 (kvs R.bs E) ck :: RowOf eN 9 1 A1 c1 (S.map (·.1)) :: L))) := hs.picks [1, 0, 2, 2, 2, 2, 2, 1, 0]
  have hml : (S.map (·.1)).length = S.length := List.length_map _
  refine CW_loop (γ := Nat × Option Addr × Nat × List RF) (fun g => [(2, .slice C cuts.length cc), (7, .map (some b2)), (10, .slice g.2.1 g.2.2.2.length g.2.2.1), (46, .slice A1 (S.map (·.1)).length c1), (47, .int .i64 ((S.map (·.1)).length : Int)), (48, .int .i64 (g.1 : Int))])
    (fun g w' => Sat W w' (RowOf eF 42 2 g.2.1 g.2.2.1 g.2.2.2 :: Big (g.2.2.2.map RF.P) :: (R.L d D ++ (Mp keyN b2 (kvs R.bs E) ck :: RowOf eN 9 1 A1 c1 (S.map (·.1)) :: L))) ∧ g.1 ≤ S.length ∧ g.2.2.2.map RF.f = leftL D.fs cuts 0 (S.take g.1)) (fun g => S.length - g.1) (0, none, 0, []) ⟨rfl, rfl, rfl, rfl, rfl, rfl, trivial⟩ ⟨hs, Nat.zero_le _, rfl⟩ ?_
  clear hs
  rintro ⟨i, A, c, rs⟩ τ w ⟨hs, hi, hrs⟩
  dsimp only at hs hi hrs ⊢
  have hrl : rs.length = i := by
    have := congrArg List.length hrs
    simpa [leftL_len, Nat.min_eq_left hi] using this
  by_cases hlt : i < S.length
  · have hrn := rd_names hlt
    have hfd : fnd S (S[i]).1 = some (S[i]).2 := fnd_of_mem hm.srt (List.getElem_mem hlt)
    have hid : (S[i]).2 ∈ idsL S := List.mem_map.2 ⟨_, List.getElem_mem hlt, rfl⟩
    have hnx := leftL_next D.fs cuts S hlt
    have hbd1 := hdl _ hid
    have hfl := hsub _ hid
    obtain ⟨⟨n, j⟩, hnj⟩ : ∃ p, S[i] = p := ⟨_, rfl⟩
    rw [hnj] at hrn hfd hid hnx hbd1 hfl
    dsimp only at hrn hfd hid hnx hbd1 hfl
    obtain ⟨f, l1, l2, hF, hl1, hff, hg, hs⟩ := Sat.openF (L := _ :: _ :: _ :: _ :: L) (hs.picks [2, 2, 2, 2, 2]) ho hfl
    have hv : (findV (kvs R.bs E) n).getD (.pointer none) = .pointer (some ⟨f.b, 0, none⟩) := by rw [hm.find, hfd]; simp only [Option.map_some, Option.getD_some, ptv, hg]
    have hfe : D.fs.getD j default = f.f := hff.symm
    have hbd2 : f.f.data.length ≤ 140737488355328 := by rw [← hfe]; exact hbd1
    have hsy : f.f.syn ≤ f.f.data.length := by rw [← hfe]; exact hst.syn _ (fl_mem (D := D) hfl)
    have hrowf := (hs.picks [1]).rowLe
    rw [hfe] at hnx
    obtain ⟨⟨p, q⟩, hpq⟩ : ∃ x, cuts.getD i (0, 0) = x := ⟨_, rfl⟩
    rw [hpq] at hnx
    have hrc : rd cuts (i : Int) = (p, q) := by rw [← hpq]; rfl
    obtain ⟨kc, hkc⟩ : ∃ x, clamp p 0 ((f.f.data.length : Int) - f.f.syn) = x := ⟨_, rfl⟩
    have hk2 := clamp_in p ((f.f.data.length : Int) - f.f.syn) (by omega)
    have hke1 := clampE p ((f.f.data.length : Int) - f.f.syn) (by omega)
    rw [hkc] at hk2 hke1
    obtain ⟨zc, hzc⟩ : ∃ x, clamp q 0 ((f.f.data.length : Int) - f.f.syn - kc) = x := ⟨_, rfl⟩
    have hz2 := clamp_in q ((f.f.data.length : Int) - f.f.syn - kc) (by omega)
    have hze1 := clampE q ((f.f.data.length : Int) - f.f.syn - kc) (by omega)
    rw [hzc] at hz2 hze1
    have hlf : leftF f.f (p, q) = f.f.data.take ((f.f.syn : Int) + kc).toNat ++ List.replicate zc.toNat 0 := by
      unfold leftF
      dsimp only
      rw [hkc, hzc]
      congr 2
      omega
    have htl : (f.f.data.take ((f.f.syn : Int) + kc).toNat).length = ((f.f.syn : Int) + kc).toNat := by rw [List.length_take]; omega
    by_cases hcu : i < cuts.length
    · (repeat' (first | refine LW_lookup keyN 9 (k := n) hs TOK rfl rfl rfl rfl rfl rfl rfl rfl hv ?_ | (refine isLW ?_; first | refine LW_nil ?_ | (refine isLload ?_; first | refine LW_loadRd0 (v := sv n) (hs.rd 10 rfl) (fun _ => rfl) TOK rfl (by assumption) rfl rfl (by omega) (by omega) (by rw [hrn]; rfl) ?_ | refine LW_loadRdA (vs := [.int .i64 p, .int .i64 q]) (hr _ (Sat.dropN hs 12)) (fun _ => rfl) TOK rfl (by assumption) rfl rfl rfl (by omega) (by omega) (by rw [hrc]; rfl) ?_ | refine LW_loadC 0 TOK hs rfl rfl rfl rfl rfl ?_ | refine LW_loadC 1 TOK hs rfl rfl rfl rfl rfl ?_) | (refine isLstore ?_; first | (refine LW_storeCA 0 TOK hs rfl rfl rfl rfl rfl (eP_ok.2 (p, q)) rfl (Nat.le_of_ble_eq_true rfl) ?_; clear hs; intro w hs)) | (refine isLcall ?_; first | (refine LW_call (cap := []) rfl rfl ent30 (CloneT_call _ f.f.data ((f.f.syn : Int) + kc).toNat f.A f.c (hs.rd 2 rfl) (by omega) hbd2) ?_; rintro _ w ⟨A2, c2, rfl, hs2⟩; replace hs := hs.and1 hs2; clear hs2) | (refine LW_appendZ 0 eB_ok.1 (0 : UInt8) hs TOK rfl rfl (by omega) rfl rfl rfl rfl rfl rfl rfl rfl rfl rfl (by unfold maxLen; omega) (by simp only []; omega) (by omega) ?_; clear hs; intro A3 c3 w hs) | (refine LW_append1 9 eF_ok (z := ⟨n, A3, c3, f.f.data.take ((f.f.syn : Int) + kc).toNat ++ List.replicate zc.toNat 0⟩) hs TOK rfl rfl rfl rfl rfl rfl rfl rfl rfl rfl (by unfold maxLen; omega) (by simp only []; omega) ?_; clear hs; intro A4 c4 w hs) | refine LW_pure TOK rfl ?_) | (refine isLidx ?_; first | (refine LW_indexRd (hr _ (Sat.dropN hs 12)) TOK rfl rfl rfl rfl rfl (by omega) (by omega) ?_; intro _ _ _) | (refine LW_indexRd (hs.rd 10 rfl) TOK rfl rfl rfl rfl rfl (by omega) (by omega) ?_; intro _ _ _)) | (refine isLbin ?_; first | refine LW_i64 rfl (by omega) (by omega) ?_ | (refine LW_cmp rfl (fun _ => ?_) (fun _ => ?_) <;> try (exfalso; omega))) | refine LW_min2 _ rfl rfl rfl ?_ | refine LW_max2 kc rfl rfl hke1 ?_ | refine LW_max2 zc rfl rfl hze1 ?_ | refine LW_pure TOK rfl ?_ | (refine LW_alloc TOK hs rfl rfl ?_; clear hs; intro _ w hs) | (refine LW_buildSlice TOK hs rfl rfl rfl rfl rfl rfl rfl ?_; clear hs; intro _ w hs) | refine LW_build TOK rfl rfl rfl rfl rfl rfl ?_) | (refine isDP ?_; first | (refine isDnil ?_; first | refine DP_end ?_ ?_) | (refine isDe rfl ?_; first | refine DP_eff rfl rfl ?_ ?_) | (refine isDload rfl ?_; first | refine DP_loadC 1 hs TOK rfl rfl (by first | exact trivial | rfl) rfl rfl rfl rfl rfl ?_ ?_) | (refine isDbin rfl ?_; first | refine DP_i64 rfl rfl (by first | exact trivial | rfl) rfl (by omega) (by omega) ?_) | refine DP_sliceH TOK rfl rfl trivial rfl rfl rfl rfl rfl (by omega) (by omega) ?_ | refine DP_pure TOK rfl rfl (by first | exact trivial | rfl) rfl ?_) | (refine isI0 ?_; exact Inv.nil) | (refine isI1 ?_; first | refine Inv.keepC 1 hs rfl rfl ?_ | refine Inv.gone (by kernel_rfl) ?_) | (with_reducible first | refine then_n ?_ | refine CW_seq ?_ | refine CW_region ?_ | refine CW_block ?_ | refine CW_skip ?_ | refine blk_n ?_) | refine CW_true rfl ?_ | (refine CW_drawP (id := 15) [] [0, 1, 2, 3, 4, 5, 6, 7, 8, 9, 10] mixed (by kernel_rfl) hs ?_; clear hs; intro hs) | (refine CW_drawP (id := 17) [11] [0, 1, 2, 3, 4, 5, 6, 7, 8, 9, 10, 11, 12] mixed (by kernel_rfl) hs ?_; clear hs; intro hs)))
      have h5 := (hs.picks [1]).drop1
      have h6 := Sat.shutF hF (L := _ :: _ :: _ :: _ :: _ :: L) (h5.picks [1, 1, 1, 1, 1, 1, 1])
      have h7 := (Sat.snocP (r := ⟨n, A3, c3, f.f.data.take ((f.f.syn : Int) + kc).toNat ++ List.replicate zc.toNat 0⟩) (h6.picks [5, 6])).picks [6]
      refine ⟨(i + 1, A4, c4, rs ++ [(⟨n, A3, c3, f.f.data.take ((f.f.syn : Int) + kc).toNat ++ List.replicate zc.toNat 0⟩ : RF)]), _, FR_forget _ ⟨rfl, rfl, rfl, rfl, rfl, rfl, trivial⟩, ⟨h7, hlt, ?_⟩, by dsimp only; omega⟩
      dsimp only
      rw [hnx, List.map_append, hrs, hlf]
      rfl
    · have hc0 : cuts.getD i (0, 0) = (0, 0) := by simp [List.getD, List.getElem?_eq_none (Nat.le_of_not_lt hcu)]
      rw [hpq] at hc0
      cases hc0
      (repeat' (first | refine LW_lookup keyN 9 (k := n) hs TOK rfl rfl rfl rfl rfl rfl rfl rfl hv ?_ | (refine isLW ?_; first | refine LW_nil ?_ | (refine isLload ?_; first | refine LW_loadRd0 (v := sv n) (hs.rd 10 rfl) (fun _ => rfl) TOK rfl (by assumption) rfl rfl (by omega) (by omega) (by rw [hrn]; rfl) ?_ | refine LW_loadC 0 TOK hs rfl rfl rfl rfl rfl ?_ | refine LW_loadC 1 TOK hs rfl rfl rfl rfl rfl ?_) | (refine isLcall ?_; first | (refine LW_call (cap := []) rfl rfl ent30 (CloneT_call _ f.f.data ((f.f.syn : Int) + kc).toNat f.A f.c (hs.rd 2 rfl) (by omega) hbd2) ?_; rintro _ w ⟨A2, c2, rfl, hs2⟩; replace hs := hs.and1 hs2; clear hs2) | (refine LW_appendZ 0 eB_ok.1 (0 : UInt8) hs TOK rfl rfl (by omega) rfl rfl rfl rfl rfl rfl rfl rfl rfl rfl (by unfold maxLen; omega) (by simp only []; omega) (by omega) ?_; clear hs; intro A3 c3 w hs) | (refine LW_append1 9 eF_ok (z := ⟨n, A3, c3, f.f.data.take ((f.f.syn : Int) + kc).toNat ++ List.replicate zc.toNat 0⟩) hs TOK rfl rfl rfl rfl rfl rfl rfl rfl rfl rfl (by unfold maxLen; omega) (by simp only []; omega) ?_; clear hs; intro A4 c4 w hs) | refine LW_pure TOK rfl ?_) | (refine isLidx ?_; first | (refine LW_indexRd (hs.rd 10 rfl) TOK rfl rfl rfl rfl rfl (by omega) (by omega) ?_; intro _ _ _)) | (refine isLbin ?_; first | refine LW_i64 rfl (by omega) (by omega) ?_ | (refine LW_cmp rfl (fun _ => ?_) (fun _ => ?_) <;> try (exfalso; omega))) | refine LW_min2 _ rfl rfl rfl ?_ | refine LW_max2 kc rfl rfl hke1 ?_ | refine LW_max2 zc rfl rfl hze1 ?_ | refine LW_pure TOK rfl ?_ | (refine LW_alloc TOK hs rfl rfl ?_; clear hs; intro _ w hs) | (refine LW_buildSlice TOK hs rfl rfl rfl rfl rfl rfl rfl ?_; clear hs; intro _ w hs) | refine LW_build TOK rfl rfl rfl rfl rfl rfl ?_) | (refine isDP ?_; first | (refine isDnil ?_; first | refine DP_end ?_ ?_) | (refine isDe rfl ?_; first | refine DP_eff rfl rfl ?_ ?_) | (refine isDload rfl ?_; first | refine DP_loadC 1 hs TOK rfl rfl (by first | exact trivial | rfl) rfl rfl rfl rfl rfl ?_ ?_) | (refine isDbin rfl ?_; first | refine DP_i64 rfl rfl (by first | exact trivial | rfl) rfl (by omega) (by omega) ?_) | refine DP_sliceH TOK rfl rfl trivial rfl rfl rfl rfl rfl (by omega) (by omega) ?_ | refine DP_pure TOK rfl rfl (by first | exact trivial | rfl) rfl ?_) | (refine isI0 ?_; exact Inv.nil) | (refine isI1 ?_; first | refine Inv.keepC 1 hs rfl rfl ?_ | refine Inv.gone (by kernel_rfl) ?_) | (with_reducible first | refine then_n ?_ | refine CW_seq ?_ | refine CW_region ?_ | refine CW_block ?_ | refine CW_skip ?_ | refine blk_n ?_) | refine CW_true rfl ?_ | refine CW_false rfl ?_ | (refine CW_drawP (id := 15) [] [0, 1, 2, 3, 4, 5, 6, 7, 8, 9, 10] mixed (by kernel_rfl) hs ?_; clear hs; intro hs) | (refine CW_drawP (id := 17) [11] [0, 1, 2, 3, 4, 5, 6, 7, 8, 9, 10, 11, 12] mixed (by kernel_rfl) hs ?_; clear hs; intro hs)))
      have h5 := (hs.picks [1]).drop1
      have h6 := Sat.shutF hF (L := _ :: _ :: _ :: _ :: _ :: L) (h5.picks [1, 1, 1, 1, 1, 1, 1])
      have h7 := (Sat.snocP (r := ⟨n, A3, c3, f.f.data.take ((f.f.syn : Int) + kc).toNat ++ List.replicate zc.toNat 0⟩) (h6.picks [5, 6])).picks [6]
      refine ⟨(i + 1, A4, c4, rs ++ [(⟨n, A3, c3, f.f.data.take ((f.f.syn : Int) + kc).toNat ++ List.replicate zc.toNat 0⟩ : RF)]), _, FR_forget _ ⟨rfl, rfl, rfl, rfl, rfl, rfl, trivial⟩, ⟨h7, hlt, ?_⟩, by dsimp only; omega⟩
      dsimp only
      rw [hnx, List.map_append, hrs, hlf]
      rfl
  · (repeat' (first | (refine isLW ?_; first | refine LW_nil ?_ | (refine isLbin ?_; first | (refine LW_cmp rfl (fun _ => ?_) (fun _ => ?_) <;> try (exfalso; omega))) | refine LW_pure TOK rfl ?_) | (with_reducible first | refine then_n ?_ | refine CW_seq ?_ | refine CW_region ?_ | refine CW_exit ?_ | refine CW_ret ?_ | refine then_e ?_ | refine blk_same ?_) | refine CW_false rfl ?_ | refine RET1 Tryd.results18 rfl ?_))
    have h9 : leftL D.fs cuts 0 (S.take i) = leftL D.fs cuts 0 S := by rw [List.take_of_length_le (by omega)]
    rw [h9] at hrs
    have hl2 : rs.length = (leftL D.fs cuts 0 S).length := by rw [← hrs, List.length_map]
    refine ⟨A, c, by rw [hl2], ?_⟩
    have h7 := (Sat.closeHF hrs hs).picks [1, 1, 1, 1, 1]
    have h8 := Sat.closeD ho (L := _ :: _ :: _ :: L) h7
    exact ((h8.picks [2, 2]).drop1.drop1).picks [1]
end Go.Proofs.YthhklkpkhaibcaaDoor
