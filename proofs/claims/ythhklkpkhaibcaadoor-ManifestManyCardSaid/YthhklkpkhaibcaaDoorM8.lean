/- Walks: many, swept. -/
import Derived.Test.YthhklkpkhaibcaaDoorM7
import Derived.Test.YthhklkpkhaibcaaDoorSlDraw6
import Derived.Test.YthhklkpkhaibcaaDoorSlMin
set_option linter.unusedVariables false
set_option linter.unusedSimpArgs false
namespace Go.Proofs.YthhklkpkhaibcaaDoor
open Go Go.Sl Go.RowKit
set_option maxRecDepth 100000
attribute [local irreducible] CW LW DW FR DP Calls
theorem many_at {n i : Nat} (hi : i < n) : (manyF n)[i + 1]? = some (segN i, []) := by
  unfold manyF
  rw [List.getElem?_cons_succ, List.getElem?_map, List.getElem?_range hi]; rfl
theorem many_call (w0 : World) (n : Nat) (hn : n ≤ 600) : Calls Tryd.prog 26 [Value.int .i64 (n : Int)].toArray w0 (Ret fun v w' => ∃ A c, v = .slice A (manyF n).length c ∧ Sat w0 w' [HF A c (manyF n)]) := by
  refine Calls_of Tryd.func26 rfl 19 Tryd.ntmps26 rfl ?_
  have hs := Sat.start w0
  have hml := many_len n
  (repeat' (first | (refine isLW ?_; first | refine LW_nil ?_ | refine LW_build TOK rfl rfl rfl rfl rfl rfl ?_ | (refine LW_buildSlice TOK hs rfl rfl rfl rfl rfl rfl rfl ?_; clear hs; intro b3 w hs) | refine LW_pure TOK rfl ?_) | (with_reducible first | refine then_n ?_ | refine CW_seq ?_ | refine CW_region ?_ | refine CW_block ?_)))
  have h1 : Sat w0 w [RowOf eF 42 2 (some ⟨b3, 0, none⟩) 1 [(⟨forN, none, 0, []⟩ : RF)], Big [RowOf eB 5 1 none 0 []]] := (Sat.mkBig (l := [_]) ((hs.toRow (sz := 2) (n0 := 1) 0 rfl rfl (by decide)).nilRow 5 1)).picks [1]
  clear hs
  refine CW_loop (γ := Option Addr × Nat × List RF) (fun g => [(0, .int .i64 (n : Int)), (3, .slice g.1 g.2.2.length g.2.1), (4, .int .i64 (g.2.2.length : Int))]) (fun g w' => Sat w0 w' [RowOf eF 42 2 g.1 g.2.1 g.2.2, Big (g.2.2.map RF.P)] ∧ 1 ≤ g.2.2.length ∧ g.2.2.length ≤ n + 1 ∧ g.2.2.map RF.f = (manyF n).take g.2.2.length) (fun g => n + 1 - g.2.2.length) (some ⟨b3, 0, none⟩, 1, [⟨forN, none, 0, []⟩]) ⟨rfl, rfl, rfl, trivial⟩ ⟨h1, Nat.le_refl _, by dsimp only; rw [List.length_singleton]; omega, rfl⟩ ?_
  clear h1
  rintro ⟨A1, c1, rs⟩ τ w' ⟨hs, h1, h2, h3⟩
  dsimp only at hs h1 h2 h3 ⊢
  by_cases hlt : rs.length ≤ n
  · have hnm : nameM (rs.length : Int) = segN (rs.length - 1) := by unfold segN; congr 1; omega
    have hxt : (manyF n).take (rs.length + 1) = (manyF n).take rs.length ++ [(segN (rs.length - 1), [])] := by
      have := many_at (n := n) (i := rs.length - 1) (by omega)
      rw [show rs.length - 1 + 1 = rs.length by omega] at this
      rw [List.take_add_one, this]; rfl
    (repeat' (first | (refine isLW ?_; first | refine LW_nil ?_ | (refine isLcall ?_; first | (refine LW_call (cap := []) rfl rfl ent9 (refName_call _ _ _ (rs.length : Int) (by omega) hs) ?_; clear hs; rintro _ w ⟨rfl, hs⟩; rw [hnm]) | (refine LW_append1 0 eF_ok (z := ⟨segN (rs.length - 1), none, 0, []⟩) hs TOK rfl rfl rfl rfl rfl rfl rfl rfl rfl rfl (by unfold maxLen; omega) (by simp only []; omega) ?_; clear hs; intro A3 c3 w hs)) | (refine isLbin ?_; first | refine LW_i64 rfl (by omega) (by omega) ?_ | (refine LW_cmp rfl (fun _ => ?_) (fun _ => ?_) <;> try (exfalso; omega))) | refine LW_build TOK rfl rfl rfl rfl rfl rfl ?_ | refine LW_pure TOK rfl ?_ | (refine LW_buildSlice TOK hs rfl rfl rfl rfl rfl rfl rfl ?_; clear hs; intro _ w hs)) | (with_reducible first | refine then_n ?_ | refine CW_seq ?_ | refine CW_region ?_ | refine CW_block ?_ | refine CW_skip ?_ | refine blk_n ?_) | refine CW_true rfl ?_))
    have h7 := (Sat.snocP (rs := rs) (r := ⟨segN (rs.length - 1), none, 0, []⟩) (L := [RowOf eF 42 2 A3 c3 (rs ++ [(⟨segN (rs.length - 1), none, 0, []⟩ : RF)])]) ((hs.nilRow 5 1).picks [0, 1])).picks [1]
    have hlen : (rs ++ [(⟨segN (rs.length - 1), none, 0, []⟩ : RF)]).length = rs.length + 1 := by simp
    refine ⟨(A3, c3, rs ++ [(⟨segN (rs.length - 1), none, 0, []⟩ : RF)]), _, FR_forget _ ⟨rfl, rfl, ?_, trivial⟩, ⟨h7, ?_, ?_, ?_⟩, ?_⟩
    · show some (Value.int .i64 _) = some (Value.int .i64 _)
      rw [hlen]
      push_cast; rfl
    · dsimp only; rw [hlen]; omega
    · dsimp only; rw [hlen]; omega
    · dsimp only; rw [hlen, hxt, List.map_append, h3]; rfl
    · dsimp only; rw [hlen]; omega
  · (repeat' (first | (refine isLW ?_; first | refine LW_nil ?_ | (refine isLbin ?_; first | (refine LW_cmp rfl (fun _ => ?_) (fun _ => ?_) <;> try (exfalso; omega))) | refine LW_pure TOK rfl ?_) | (with_reducible first | refine then_n ?_ | refine CW_seq ?_ | refine CW_region ?_ | refine CW_exit ?_ | refine CW_ret ?_ | refine then_e ?_ | refine blk_same ?_) | refine CW_false rfl ?_ | refine RET1 Tryd.results26 rfl ?_))
    have he : rs.length = (manyF n).length := by omega
    have h9 : rs.map RF.f = manyF n := by rw [h3, he, List.take_length]
    exact ⟨A1, c1, by rw [he], Sat.closeHF h9 hs⟩
def manyM (n k : Nat) : Mn := ⟨1, 3, (n : Int) + 2, 0, oneSg k⟩
theorem manyM_ok {n k : Nat} (hn : n ≤ 600) (hk : k < n) : OkM (manyM n k) := by
  refine ⟨⟨by show (1 : Int) ≤ 1; decide, by show (1 : Int) ≤ 1099511627776; decide⟩, ⟨by show (1 : Int) ≤ 3; decide, by show (3 : Int) ≤ 3; decide⟩, by show (1 : Int) ≤ (n : Int) + 2 ∧ (n : Int) + 2 ≤ _; omega, Int.le_refl _, by show 1 ≤ 1 ∧ 1 ≤ 128; decide, fun i hi => ?_⟩
  have : i = 0 := by simp [manyM, oneSg] at hi; exact hi
  subst this
  simp [okSeg, manyM, prevN, oneSg]
  omega
theorem manyM_in {n k : Nat} (hn : n ≤ 600) : (manyM n k).In := ⟨⟨by show _ ≤ (1 : Int); decide, by show (1 : Int) ≤ _; decide⟩, ⟨by show _ ≤ (3 : Int); decide, by show (3 : Int) ≤ _; decide⟩, by show _ ≤ (n : Int) + 2 ∧ (n : Int) + 2 ≤ _; omega, ⟨by show _ ≤ (0 : Int); decide, by show (0 : Int) ≤ _; decide⟩, Nat.le_of_ble_eq_true rfl⟩
theorem two_files {rs : List RF} {a b : Nm} {x y : List UInt8} (h : rs.map RF.f = [(a, x), (b, y)]) : ∃ r0 r1, rs = [r0, r1] ∧ r0.n = a ∧ r1.n = b := by
  match rs, h with
  | [], h => simp at h
  | [_], h => simp at h
  | _ :: _ :: _ :: _, h => simp at h
  | [r0, r1], h =>
    simp only [List.map_cons, List.map_nil, List.cons.injEq, and_true, RF.f, Prod.mk.injEq] at h
    exact ⟨r0, r1, rfl, h.1.1, h.2.1⟩
set_option maxHeartbeats 4000000 in
theorem swept_call (W w : World) (L : List HProp) (n k : Nat) (hn : n ≤ 600) (hk : k < n) (ht : Tab W) (hs : Sat W w L) :
    Calls Tryd.prog 10 [Value.int .i64 (n : Int), .int .i64 ((k : Int) + 1)].toArray w (Ret fun v w' => ∃ B cb G, v = .tuple #[.slice B G.length cb, .bool true] ∧ G.length = n - 1 ∧ G.Nodup ∧ (∀ g ∈ G, ∃ i, i < n ∧ ¬ i = k ∧ g = segN i) ∧ Sat W w' (RowOf eN 9 1 B cb G :: L)) := by
  refine Calls_of Tryd.func10 rfl 69 Tryd.ntmps10 rfl ?_
  obtain ⟨D, hlo, hleft⟩ := many_load hn
  obtain ⟨hg, fs, n0, hL, hD⟩ := load_out2 (by rw [many_sum]; omega) hlo
  obtain ⟨D2, G, x, y, hsw, q1, q2, q3, hfi⟩ := many_swept hn hk hlo
  have hml := many_len n
  have hgood := sweepM_good (l := oneSg k) hg
  rw [hsw] at hgood
  obtain ⟨g1, g2, g3, g4⟩ := hgood
  dsimp only at g1 g2 g3 g4
  have hfs : D.fs.length = n + 1 := by rw [hD]; show fs.length = _; rw [hL.fsE, List.length_map, many_len]
  have hch : D.chs.length = 0 := by rw [hD]; rfl
  have hll := list_le D
  have hnl := now_le hg
  have hfit : Fit D2 := ⟨g1, by omega, by omega⟩
  have hld : ∀ {w : World} {L : List HProp} {A : Option Addr} {c : Nat} {rs : List RF}, rs.map RF.f = manyF n → Sat W w (RowOf eF 42 2 A c rs :: Big (rs.map RF.P) :: L) → Calls Tryd.prog 15 [Value.int .i64 4194304, .slice A (manyF n).length c].toArray w (Ret fun v w' => ∃ d, v = .tuple #[.pointer (some ⟨d, 0, none⟩), .int .i64 0] ∧ Sat W w' (HD d D :: RowOf eF 42 2 A c rs :: Big (rs.map RF.P) :: L)) := fun {w L A c rs} hr h => by
    have hrl : rs.length = (manyF n).length := by rw [← hr, List.length_map]
    have hfn : ∀ r ∈ rs, r.n.length ≤ 140737488355328 ∧ r.data.length ≤ 140737488355328 := fun r hm => by
      have hm2 : r.f ∈ manyF n := hr ▸ List.mem_map.2 ⟨r, hm, rfl⟩
      rcases many_mem hm2 with e | ⟨i, hi, e⟩
      · have e1 : r.n = forN := congrArg Prod.fst e
        have e2 : r.data = [] := congrArg Prod.snd e
        rw [e1, e2]; exact ⟨Nat.le_of_ble_eq_true rfl, Nat.zero_le _⟩
      · have e1 : r.n = segN i := congrArg Prod.fst e
        have e2 : r.data = [] := congrArg Prod.snd e
        rw [e1, e2]; exact ⟨by have := (seg_path (i := i) (by omega)).2; omega, Nat.zero_le _⟩
    have := load_call W w _ 4194304 A c rs h (fun w' k => k.rd 0 rfl) (fun w' k => bigRd (k.picks [1])) hfn (by omega) (by omega)
    rw [hr, hlo, hrl] at this
    refine Calls.ret this ?_
    rintro v w' (⟨e1, _⟩ | ⟨_, e1⟩)
    · exact absurd rfl e1
    · exact e1
  have hswc : ∀ {w : World} {d : Nat} {L : List HProp} {bs : Nat} {c : Nat}, Sat W w (HD d D :: Cl bs ((oneSg k).flatMap eSg) 60 :: L) → Calls Tryd.prog 17 [Value.pointer (some ⟨d, 0, none⟩), .agg (eM (manyM n k) (some ⟨bs, 0, none⟩) c).toArray].toArray w (Ret fun v w' => ∃ B cb, v = .tuple #[.slice B G.length cb, .int .i64 0] ∧ Sat W w' (RowOf eN 9 1 B cb G :: HD d D2 :: Cl bs ((oneSg k).flatMap eSg) 60 :: L)) := fun {w d L bs c} h => by
    have := Sweep_call W w _ d D (manyM n k) (some ⟨bs, 0, none⟩) c h hg (by omega) (by omega) (manyM_in hn) (fun w' k2 => k2.rdC (t := 60) 0 rfl) ht (manyM_ok hn hk)
    rw [show (manyM n k).segs = oneSg k from rfl, hsw] at this
    exact this
  have hfic : ∀ {w : World} {d : Nat} {L : List HProp}, Sat W w (HD d D2 :: L) → Calls Tryd.prog 19 [Value.pointer (some ⟨d, 0, none⟩)].toArray w (Ret fun v w' => ∃ (A : Option Addr) (c : Nat) (r0 r1 : RF), v = .slice A 2 c ∧ r0.n = forN ∧ r1.n = segN k ∧ Sat W w' (RowOf eF 42 2 A c [r0, r1] :: HD d D2 :: L)) := fun {w d L} h => by
    have := files_call W w L d D2 h hfit
    rw [hfi] at this
    refine Calls.ret this ?_
    rintro v w' ⟨A, c, rfl, h2⟩
    obtain ⟨rs, hrs, h3⟩ := Sat.openHF h2
    obtain ⟨r0, r1, rfl, e1, e2⟩ := two_files hrs
    exact ⟨A, c, r0, r1, rfl, e1, e2, (h3.picks [1]).drop1⟩
  have hnm : nameM ((k : Int) + 1) = segN k := rfl
  (repeat' (first | refine DP_strNe (a := r0.n) (b := forN) rfl rfl (by first | exact trivial | rfl) rfl rfl rfl rfl (fun hne => absurd hr0 hne) (fun _ => ?_) | refine DP_strNe (a := r1.n) (b := segN k) rfl rfl (by first | exact trivial | rfl) rfl rfl rfl rfl (fun hne => absurd hr1 hne) (fun _ => ?_) | (refine isLW ?_; first | refine LW_nil ?_ | (refine isLg ?_; first | refine LW_take rfl ?_) | (refine isLload ?_; first | refine LW_loadCAE 0 (eM (manyM n k) (some ⟨bs, 0, none⟩) 1) TOK hs rfl rfl rfl rfl (Nat.le_of_ble_eq_true rfl) rfl ?_) | (refine isLstore ?_; first | (refine LW_storeCA 0 TOK hs rfl rfl rfl rfl rfl (eM_one (manyM n k) _ 1) rfl (Nat.le_of_ble_eq_true rfl) ?_; clear hs; intro w hs)) | (refine isLcall ?_; first | (refine LW_call (cap := []) rfl rfl ent9 (refName_call _ _ _ ((k : Int) + 1) (by omega) hs) ?_; clear hs; rintro _ w ⟨rfl, hs⟩; rw [hnm]) | (refine LW_call (cap := []) rfl rfl ent26 (many_call _ n hn) ?_; rintro _ w2 ⟨A1, c1, rfl, hs2⟩; replace hs := hs.and1 hs2; clear hs2; obtain ⟨rs, hrs, hs⟩ := Sat.openHF hs) | (refine LW_call (cap := []) rfl rfl ent15 (hld hrs hs) ?_; clear hs; rintro _ w ⟨d, rfl, hs⟩) | (refine LW_call (cap := []) rfl rfl ent17 (hswc (hs.picks [2, 1])) ?_; clear hs; rintro _ w ⟨B, cb, rfl, hs⟩) | (refine LW_call (cap := []) rfl rfl ent19 (hfic (hs.picks [1])) ?_; clear hs; rintro _ w ⟨A9, c9, r0, r1, rfl, hr0, hr1, hs⟩; have hl2 : ([r0, r1] : List RF).length = 2 := rfl)) | (refine isLbin ?_; first | refine LW_i64 rfl (by omega) (by omega) ?_ | (refine LW_cmp rfl (fun _ => ?_) (fun _ => ?_) <;> try (exfalso; omega)) | refine LW_nileq TOK rfl ?_) | refine LW_build TOK rfl rfl rfl rfl rfl rfl ?_ | (refine LW_buildSlice (t := 30) TOK hs rfl rfl rfl rfl rfl rfl rfl ?_; clear hs; intro bs w hs) | (refine LW_alloc TOK hs rfl rfl ?_; clear hs; intro b8 w hs) | refine LW_pure TOK rfl ?_) | (refine isDP ?_; first | (refine isDnil ?_; first | refine DP_end ?_ ?_) | (refine isDe rfl ?_; first | refine DP_eff rfl rfl ?_ ?_) | (refine isDload rfl ?_; first | refine DP_loadRow (hs.rd 0 rfl) (fun _ => rfl) TOK rfl rfl (by first | exact trivial | rfl) rfl (by assumption) rfl rfl (by omega) (by omega) rfl ?_ ?_) | (refine isDidx rfl ?_; first | (refine DP_indexRdN (hs.rd 0 rfl) TOK rfl rfl (by first | exact trivial | rfl) rfl rfl rfl rfl rfl (by omega) (by omega) (by omega) ?_; intro _ _ _)) | (refine isDbin rfl ?_; first | (refine DP_cmp rfl rfl (by first | exact trivial | rfl) rfl (fun _ => ?_) (fun _ => ?_) <;> try (exfalso; omega)) | refine DP_i64 rfl rfl (by first | exact trivial | rfl) rfl (by omega) (by omega) ?_) | refine DP_pure TOK rfl rfl (by first | exact trivial | rfl) rfl ?_) | (refine isI0 ?_; exact Inv.nil) | (refine isI1 ?_; first | refine Inv.keepR (hs.rd 0 rfl) (fun _ => rfl) (by assumption) (by omega) (by omega) rfl ?_) | (with_reducible first | refine then_n ?_ | refine CW_seq ?_ | refine CW_region ?_ | refine CW_skip ?_ | refine CW_ret ?_) | refine CW_false rfl ?_ | (refine CW_drawP (id := 7) [27] [0, 1, 2, 3, 4, 5, 6, 7, 8, 9, 10, 11, 12, 13, 14, 15, 16, 17, 18, 19, 20, 21, 22, 23, 24, 25, 26, 27, 28, 29] mixed (by kernel_rfl) hs ?_; clear hs; intro hs) | refine RET2 Tryd.results10 rfl rfl ?_))
  exact ⟨B, cb, G, rfl, q1, q2, q3, Sat.dropN (hs.picks [0, 0, 1, 1, 1, 1]) 6⟩
end Go.Proofs.YthhklkpkhaibcaaDoor
