/- The document's disk; walks: Arm, Free, Read, List. -/
import Derived.Test.YtoodgenbcfdloaaQ12
set_option linter.unusedVariables false
set_option linter.unusedSimpArgs false
namespace Go.Proofs.Ytoodgenbcfdloaa
open Go Go.Sl Go.RowKit
set_option maxRecDepth 100000
attribute [local irreducible] CW LW DW FR DP Calls

section
variable {W : World} {D : DS} {k : RDk} {pool : List HProp} {o : RAct}
theorem rArm_call (h : KH W D k pool) (n : Int) (hn : -9223372036854775808 ≤ n ∧ n ≤ 9223372036854775807) : Calls Try.prog 88 [Value.agg (eK k).toArray, .int .i64 n].toArray W (Ret fun v w' => ∃ k', v = .agg (eK k').toArray ∧ KP W (D.arm n) pool k' w') := by
  refine Calls_of Try.func88 rfl 14 Try.ntmps88 rfl ?_
  have hs := Sat.start W
  obtain ⟨q, S, l, d⟩ := k
  have h' := h
  obtain ⟨rd, ins, ⟨rq, rep, rleft, rdown⟩, good, hfs, hnow, hchs, hlft⟩ := h'
  dsimp only at rq rep rleft rdown rd ins
  unfold DS.arm
  by_cases hd : D.down = true
  · rw [if_pos hd]
    rw [hd] at rdown
    subst rdown
    rw [hK]
    (repeat' (first | (refine isLW ?_; first | refine LW_nil ?_ | (refine isLload ?_; first | refine LW_loadCAE 1 (eK ⟨q, S, l, true⟩) TOK hs rfl rfl rfl rfl (Nat.le_of_ble_eq_true rfl) rfl ?_ | refine LW_loadC 1 TOK hs rfl rfl rfl rfl rfl ?_) | (refine isLstore ?_; first | (refine LW_storeCA 0 TOK hs rfl rfl rfl rfl rfl (eK_ok.2 ⟨q, S, l, true⟩) rfl (Nat.le_of_ble_eq_true rfl) ?_; clear hs; intro w hs)) | refine LW_pure TOK rfl ?_ | (refine LW_box hs rfl rfl ?_; clear hs; intro _ w hs) | (refine LW_alloc TOK hs rfl rfl ?_; clear hs; intro _ w hs)) | (with_reducible first | refine then_n ?_ | refine CW_seq ?_ | refine CW_region ?_ | refine CW_ret ?_ | refine then_r ?_) | refine RETA 0 hs TOK Try.results88 rfl rfl rfl rfl rfl ?_ | refine CW_true rfl ?_))
    exact ⟨_, rfl, h.same hs⟩
  rw [if_neg hd]
  have hd : D.down = false := by simpa using hd
  rw [hd] at rdown
  subst rdown
  rw [hK]
  by_cases hn0 : n < 0
  · rw [if_neg (by omega)]
    (repeat' (first | (refine isLW ?_; first | refine LW_nil ?_ | (refine isLload ?_; first | refine LW_loadCAE 1 (eK ⟨q, S, -1, false⟩) TOK hs rfl rfl rfl rfl (Nat.le_of_ble_eq_true rfl) rfl ?_ | refine LW_loadC 1 TOK hs rfl rfl rfl rfl rfl ?_) | (refine isLstore ?_; first | (refine LW_storeCA 0 TOK hs rfl rfl rfl rfl rfl (eK_ok.2 ⟨q, S, -1, false⟩) rfl (Nat.le_of_ble_eq_true rfl) ?_; clear hs; intro w hs) | (refine LW_storeC 1 TOK hs rfl rfl rfl rfl rfl rfl rfl ?_; clear hs; intro w hs)) | (refine isLbin ?_; first | (refine LW_cmp rfl (fun _ => ?_) (fun _ => ?_) <;> try (exfalso; omega))) | refine LW_pure TOK rfl ?_ | (refine LW_box hs rfl rfl ?_; clear hs; intro _ w hs) | (refine LW_alloc TOK hs rfl rfl ?_; clear hs; intro _ w hs)) | (with_reducible first | refine then_n ?_ | refine CW_seq ?_ | refine CW_region ?_ | refine CW_skip ?_ | refine CW_ret ?_) | refine RETA 0 hs TOK Try.results88 rfl rfl rfl rfl rfl ?_ | refine CW_true rfl ?_ | refine CW_false rfl ?_))
    exact ⟨⟨q, S, -1, false⟩, rfl, [], ⟨rq, rep.congr rfl rfl rfl rfl, rfl, hd.symm⟩, ins, Sat.mkBig (l := []) (r := []) (Sat.keeps hs [])⟩
  · rw [if_pos (by omega)]
    (repeat' (first | (refine isLW ?_; first | refine LW_nil ?_ | (refine isLload ?_; first | refine LW_loadCAE 1 (eK ⟨q, S, n, false⟩) TOK hs rfl rfl rfl rfl (Nat.le_of_ble_eq_true rfl) rfl ?_ | refine LW_loadC 1 TOK hs rfl rfl rfl rfl rfl ?_) | (refine isLstore ?_; first | (refine LW_storeCA 0 TOK hs rfl rfl rfl rfl rfl (eK_ok.2 ⟨q, S, n, false⟩) rfl (Nat.le_of_ble_eq_true rfl) ?_; clear hs; intro w hs) | (refine LW_storeC 1 TOK hs rfl rfl rfl rfl rfl rfl rfl ?_; clear hs; intro w hs)) | (refine isLbin ?_; first | (refine LW_cmp rfl (fun _ => ?_) (fun _ => ?_) <;> try (exfalso; omega))) | refine LW_pure TOK rfl ?_ | (refine LW_box hs rfl rfl ?_; clear hs; intro _ w hs) | (refine LW_alloc TOK hs rfl rfl ?_; clear hs; intro _ w hs)) | (with_reducible first | refine then_n ?_ | refine CW_seq ?_ | refine CW_region ?_ | refine CW_skip ?_ | refine CW_ret ?_) | refine RETA 0 hs TOK Try.results88 rfl rfl rfl rfl rfl ?_ | refine CW_false rfl ?_))
    exact ⟨⟨q, S, n, false⟩, rfl, [], ⟨rq, rep.congr rfl rfl rfl rfl, by show n = (n.toNat : Int); omega, hd.symm⟩, ins, Sat.mkBig (l := []) (r := []) (Sat.keeps hs [])⟩
theorem rFree_call (h : KH W D k pool) : Calls Try.prog 97 [Value.agg (eK k).toArray].toArray W (Ret fun v w' => v = .int .i64 D.free ∧ Sat W w' []) := by
  refine Calls_of Try.func97 rfl 15 Try.ntmps97 rfl ?_
  have hs := Sat.start W
  obtain ⟨q, S, l, d⟩ := k
  obtain ⟨rd, ins, ⟨rq, rep, rleft, rdown⟩, good, hfs, hnow, hchs, hlft⟩ := h
  dsimp only at rq rep rleft rdown rd ins
  have rdt := rd.th
  have hth : S.th.length ≤ 1099511627776 := by rw [rep.len]; exact hfs
  have htk : takenT S.th = D.taken := rep.taken good
  have hroom := good.room
  have hquota := good.quota
  rw [hK]
  unfold DS.free
  by_cases hd : D.down = true
  · rw [if_pos hd]
    rw [hd] at rdown
    subst rdown
    (repeat' (first | (refine isLW ?_; first | refine LW_nil ?_ | (refine isLload ?_; first | refine LW_loadC 0 TOK hs rfl rfl rfl rfl rfl ?_) | refine LW_pure TOK rfl ?_ | (refine LW_box hs rfl rfl ?_; clear hs; intro _ w hs)) | (with_reducible first | refine then_n ?_ | refine CW_seq ?_ | refine CW_region ?_ | refine CW_ret ?_ | refine then_r ?_) | refine CW_true rfl ?_ | refine RET1 Try.results97 rfl ?_))
    exact ⟨rfl, Sat.keeps hs []⟩
  rw [if_neg hd]
  have hd : D.down = false := by simpa using hd
  rw [hd] at rdown
  subst rdown
  (repeat' (first | (refine isLW ?_; first | refine LW_nil ?_ | (refine isLload ?_; first | refine LW_loadCAE 0 (eS S) TOK hs rfl rfl rfl rfl (Nat.le_of_ble_eq_true rfl) rfl ?_ | refine LW_loadC 0 TOK hs rfl rfl rfl rfl rfl ?_ | refine LW_loadC 1 TOK hs rfl rfl rfl rfl rfl ?_) | (refine isLstore ?_; first | (refine LW_storeCA 0 TOK hs rfl rfl rfl rfl rfl (eS_ok.2 S) rfl (Nat.le_of_ble_eq_true rfl) ?_; clear hs; intro w hs)) | (refine isLcall ?_; first | (refine LW_call (cap := []) rfl rfl ent101 (taken_call _ S (rdt.of hs) (by omega) (by omega)) ?_; rintro _ w2 ⟨rfl, hs2⟩; replace hs := hs.and0 hs2; clear hs2)) | (refine isLbin ?_; first | refine LW_i64 rfl (by omega) (by omega) ?_) | refine LW_pure TOK rfl ?_ | (refine LW_box hs rfl rfl ?_; clear hs; intro _ w hs) | (refine LW_alloc TOK hs rfl rfl ?_; clear hs; intro _ w hs)) | (with_reducible first | refine then_n ?_ | refine CW_seq ?_ | refine CW_region ?_ | refine CW_skip ?_ | refine CW_ret ?_) | refine CW_false rfl ?_ | refine RET1 Try.results97 rfl ?_))
  exact ⟨by rw [← htk, rq], Sat.keeps hs []⟩
end
end Go.Proofs.Ytoodgenbcfdloaa

/- The document's disk; walks: Read, List. -/
set_option linter.unusedVariables false
set_option linter.unusedSimpArgs false
namespace Go.Proofs.Ytoodgenbcfdloaa
open Go Go.Sl Go.RowKit
set_option maxRecDepth 100000
attribute [local irreducible] CW LW DW FR DP Calls

section
variable {W : World} {D : DS} {k : RDk} {pool : List HProp} {o : RAct}
/-- The file of a name of the document's. -/
theorem Rep.at {S : RSt} (rep : Rep D S) (good : Good D) {j : Nat} (hj : j < S.na.length) : ∃ t, (Go.Sl.rd S.na (j : Int)).2 < S.th.length ∧ Go.Sl.rd S.th ((Go.Sl.rd S.na (j : Int)).2 : Int) = t ∧ t ∈ S.th ∧ t.d = D.dat (Go.Sl.rd S.na (j : Int)).2 ∧ t.syn = (D.fl (Go.Sl.rd S.na (j : Int)).2).syn ∧ t.there = true ∧ t.d.length ≤ 4194304 := by
  have hjr : Go.Sl.rd S.na (j : Int) = S.na[j] := rd_at hj
  have hgm : S.na[j] ∈ D.now := by rw [← rep.na]; exact List.getElem_mem hj
  have hmem : (Go.Sl.rd S.na (j : Int)).2 ∈ D.now.map (·.2) := by
    rw [hjr]; exact List.mem_map.2 ⟨S.na[j], hgm, rfl⟩
  have hids := good.subNow hmem
  obtain ⟨hk2, e1, e2, e3⟩ := rep.get good hids
  have hbd := dat_bd good hids
  refine ⟨_, hk2, rfl, ?_, ?_, ?_, ?_, ?_⟩ <;> rw [rd_at hk2]
  · exact List.getElem_mem hk2
  · exact e1
  · exact e2
  · exact e3
  · rw [e1]; exact hbd
set_option maxHeartbeats 4000000 in
theorem rRead_call (h : KH W D k pool) (n : Nm) (hnl : n.length ≤ 140737488355328) : Calls Try.prog 95 [Value.agg (eK k).toArray, sv n].toArray W (Ret fun v w' => ∃ A c, v = .tuple #[.slice A (D.read n).length c, .int .i64 (D.find n).1] ∧ Sat W w' [RowOf eB 5 1 A c (D.read n)]) := by
  refine Calls_of Try.func95 rfl 39 Try.ntmps95 rfl ?_
  have hs := Sat.start W
  obtain ⟨q, S, l, d⟩ := k
  obtain ⟨rd, ins, ⟨rq, rep, rleft, rdown⟩, good, hfs, hnow, hchs, hlft⟩ := h
  dsimp only at rq rep rleft rdown rd ins
  have rdt := rd.th
  have rdn := rd.na
  have hna : S.na.length ≤ 1099511627776 := by rw [rep.na]; exact hnow
  have hth : S.th.length ≤ 1099511627776 := by rw [rep.len]; exact hfs
  rw [hK]
  have hno : ∀ c, (D.find n).1 = c → c ≠ 0 → D.read n = [] := fun c e h0 => by unfold DS.read; rw [if_neg (by rw [e]; exact h0)]
  by_cases hd : D.down = true
  · have e : (D.find n).1 = 60 := by unfold DS.find; rw [if_pos hd]
    rw [e, hno _ e (by decide)]
    rw [hd] at rdown
    subst rdown
    (repeat' (first | (refine isLW ?_; first | refine LW_nil ?_ | (refine isLload ?_; first | refine LW_loadC 0 TOK hs rfl rfl rfl rfl rfl ?_) | refine LW_pure TOK rfl ?_ | (refine LW_box hs rfl rfl ?_; clear hs; intro _ w hs)) | (with_reducible first | refine then_n ?_ | refine CW_seq ?_ | refine CW_region ?_ | refine CW_ret ?_ | refine then_r ?_) | refine CW_true rfl ?_ | refine RET2 Try.results95 rfl rfl ?_))
    exact ⟨none, 0, rfl, (Sat.keeps hs []).nilRow 5 1⟩
  have hd2 : D.down = false := by simpa using hd
  rw [hd2] at rdown
  subst rdown
  cases hp : pathB n
  · have e : (D.find n).1 = 61 := by unfold DS.find; rw [if_neg hd, if_pos hp]
    rw [e, hno _ e (by decide)]
    (repeat' (first | (refine isLW ?_; first | refine LW_nil ?_ | (refine isLload ?_; first | refine LW_loadC 0 TOK hs rfl rfl rfl rfl rfl ?_) | (refine isLcall ?_; first | (refine LW_call (cap := []) rfl rfl ent61 (rpath_call _ n hnl) ?_; rintro _ w2 ⟨rfl, hs2⟩; replace hs := hs.and0 hs2; clear hs2; rw [hp])) | refine LW_pure TOK rfl ?_ | (refine LW_box hs rfl rfl ?_; clear hs; intro _ w hs)) | (with_reducible first | refine then_n ?_ | refine CW_seq ?_ | refine CW_region ?_ | refine CW_skip ?_ | refine CW_ret ?_ | refine then_r ?_) | refine CW_true rfl ?_ | refine CW_false rfl ?_ | refine RET2 Try.results95 rfl rfl ?_))
    exact ⟨none, 0, rfl, (Sat.keeps hs []).nilRow 5 1⟩
  have hfe : D.find n = match fnd D.now n with
      | none => ((63, 0) : Int × Nat)
      | some i => ((0, i) : Int × Nat) := by unfold DS.find; rw [if_neg hd, if_neg (by simp [hp])]; rfl
  rcases placeE_fnd (l := S.na) (n := n) with ⟨g1, g0⟩ | ⟨j, g1, g2, g3⟩
  · rw [rep.na] at g0
    rw [g0] at hfe
    have e : (D.find n).1 = 63 := by rw [hfe]
    rw [e, hno _ e (by decide)]
    (repeat' (first | (refine isLW ?_; first | refine LW_nil ?_ | (refine isLload ?_; first | refine LW_loadCAE 0 (eS S) TOK hs rfl rfl rfl rfl (Nat.le_of_ble_eq_true rfl) rfl ?_ | refine LW_loadC 0 TOK hs rfl rfl rfl rfl rfl ?_) | (refine isLstore ?_; first | (refine LW_storeCA 0 TOK hs rfl rfl rfl rfl rfl (eS_ok.2 S) rfl (Nat.le_of_ble_eq_true rfl) ?_; clear hs; intro w hs)) | (refine isLcall ?_; first | (refine LW_call (cap := []) rfl rfl ent61 (rpath_call _ n hnl) ?_; rintro _ w2 ⟨rfl, hs2⟩; replace hs := hs.and0 hs2; clear hs2; rw [hp]) | (refine LW_call (cap := []) rfl rfl ent84 (rfind_call _ S.na S.NA S.nc n (rdn.of hs) (by omega)) ?_; rintro _ w2 ⟨rfl, hs2⟩; replace hs := hs.and0 hs2; clear hs2; rw [g1]; dsimp only [optE])) | (refine isLbin ?_; first | (refine LW_cmp rfl (fun _ => ?_) (fun _ => ?_) <;> try (exfalso; omega))) | refine LW_pure TOK rfl ?_ | (refine LW_box hs rfl rfl ?_; clear hs; intro _ w hs) | (refine LW_alloc TOK hs rfl rfl ?_; clear hs; intro _ w hs)) | (with_reducible first | refine then_n ?_ | refine CW_seq ?_ | refine CW_region ?_ | refine CW_skip ?_ | refine CW_ret ?_ | refine then_r ?_) | refine CW_true rfl ?_ | refine CW_false rfl ?_ | refine RET2 Try.results95 rfl rfl ?_))
    exact ⟨none, 0, rfl, (Sat.keeps hs []).nilRow 5 1⟩
  · obtain ⟨t, hlt, hru2, htm, e1, e2, e3, hbd⟩ := rep.at good g2
    have hi2 : (S.na.getD j default).2 = (Go.Sl.rd S.na (j : Int)).2 := by
      rw [rd_at g2]; simp [List.getD, g2]
    rw [hi2, rep.na] at g3
    rw [rep.na] at e1 hru2 hlt
    rw [g3] at hfe
    have e : (D.find n).1 = 0 := by rw [hfe]
    have er : D.read n = t.d := by unfold DS.read; rw [if_pos e, hfe, e1]
    rw [e, er]
    have hrdd := rd.data t htm
    rw [← rep.na] at hru2 hlt
    (repeat' (first | (refine isLW ?_; first | refine LW_nil ?_ | (refine isLload ?_; first | refine LW_loadCAE 0 (eS S) TOK hs rfl rfl rfl rfl (Nat.le_of_ble_eq_true rfl) rfl ?_ | refine LW_loadC 0 TOK hs rfl rfl rfl rfl rfl ?_) | (refine isLstore ?_; first | (refine LW_storeCA 0 TOK hs rfl rfl rfl rfl rfl (eS_ok.2 S) rfl (Nat.le_of_ble_eq_true rfl) ?_; clear hs; intro w hs)) | (refine isLcall ?_; first | (refine LW_call (cap := []) rfl rfl ent61 (rpath_call _ n hnl) ?_; rintro _ w2 ⟨rfl, hs2⟩; replace hs := hs.and0 hs2; clear hs2; rw [hp]) | (refine LW_call (cap := []) rfl rfl ent84 (rfind_call _ S.na S.NA S.nc n (rdn.of hs) (by omega)) ?_; rintro _ w2 ⟨rfl, hs2⟩; replace hs := hs.and0 hs2; clear hs2; rw [g1]; dsimp only [optE]) | (refine LW_call (cap := []) rfl rfl ent63 (by have := part_call _ t.d t.A t.c t.d.length (hrdd.of hs) (Nat.le_refl _) (by omega); rw [List.take_length] at this; rw [hru2]; exact this) ?_; rintro _ w2 ⟨A2, c2, rfl, hs2⟩; replace hs := hs.and1 hs2; clear hs2) | refine LW_pure TOK rfl ?_) | (refine isLbin ?_; first | (refine LW_cmp rfl (fun _ => ?_) (fun _ => ?_) <;> try (exfalso; omega))) | refine LW_pure TOK rfl ?_ | (refine LW_box hs rfl rfl ?_; clear hs; intro _ w hs) | (refine LW_alloc TOK hs rfl rfl ?_; clear hs; intro _ w hs)) | (refine isDP ?_; first | (refine isDnil ?_; first | refine DP_end ?_ ?_) | (refine isDload rfl ?_; first | refine DP_loadC 0 hs TOK rfl rfl (by first | exact trivial | rfl) rfl rfl rfl rfl rfl ?_ ?_ | refine DP_loadRd rdn (fun _ => rfl) hs TOK rfl rfl (by first | exact trivial | rfl) rfl (by assumption) rfl rfl (by omega) (by omega) rfl ?_ ?_ | refine DP_loadRd rdt (fun _ => rfl) hs TOK rfl rfl (by first | exact trivial | rfl) rfl (by assumption) rfl rfl (by omega) (by omega) rfl ?_ ?_) | (refine isDidx rfl ?_; first | (refine DP_indexRd (rdn.of hs) TOK rfl rfl (by first | exact trivial | rfl) rfl rfl rfl rfl rfl (by omega) (by omega) ?_; intro _ _ _) | (refine DP_indexRd (rdt.of hs) TOK rfl rfl (by first | exact trivial | rfl) rfl rfl rfl rfl rfl (by omega) (by omega) ?_; intro _ _ _)) | refine DP_pure TOK rfl rfl (by first | exact trivial | rfl) rfl ?_) | (refine isI0 ?_; exact Inv.nil) | (refine isI1 ?_; first | refine Inv.keepB hs ?_ | refine Inv.keepC 0 hs rfl rfl ?_) | (with_reducible first | refine then_n ?_ | refine CW_seq ?_ | refine CW_region ?_ | refine CW_skip ?_ | refine CW_ret ?_) | refine CW_false rfl ?_ | (refine CW_drawP (id := 10) [] [0, 1, 2, 3, 4, 5, 6, 7, 8, 9, 10, 11] mixed (by kernel_rfl) hs ?_; clear hs; intro hs) | refine RET2 Try.results95 rfl rfl ?_))
    exact ⟨A2, c2, rfl, Sat.keeps hs [0]⟩
set_option maxHeartbeats 4000000 in
theorem rList_call (h : KH W D k pool) : Calls Try.prog 96 [Value.agg (eK k).toArray].toArray W (Ret fun v w' => ∃ A c, v = .slice A D.list.length c ∧ Sat W w' [RowOf eN 9 1 A c D.list]) := by
  refine Calls_of Try.func96 rfl 27 Try.ntmps96 rfl ?_
  have hs := (Sat.start W).nilRow 9 1
  obtain ⟨q, S, l, d⟩ := k
  obtain ⟨rd, ins, ⟨rq, rep, rleft, rdown⟩, good, hfs, hnow, hchs, hlft⟩ := h
  dsimp only at rq rep rleft rdown rd ins
  have rdn := rd.na
  have hna : S.na.length ≤ 1099511627776 := by rw [rep.na]; exact hnow
  rw [hK]
  unfold DS.list
  by_cases hd : D.down = true
  · rw [if_pos hd]
    rw [hd] at rdown
    subst rdown
    (repeat' (first | (refine isLW ?_; first | refine LW_nil ?_ | (refine isLload ?_; first | refine LW_loadC 0 TOK hs rfl rfl rfl rfl rfl ?_) | refine LW_pure TOK rfl ?_ | (refine LW_box hs rfl rfl ?_; clear hs; intro _ w hs)) | (with_reducible first | refine then_n ?_ | refine CW_seq ?_ | refine CW_region ?_ | refine CW_ret ?_ | refine then_r ?_) | refine CW_true rfl ?_ | refine RET1 Try.results96 rfl ?_))
    exact ⟨none, 0, rfl, (Sat.keeps hs []).nilRow 9 1⟩
  rw [if_neg hd]
  have hd2 : D.down = false := by simpa using hd
  rw [hd2] at rdown
  subst rdown
  rw [← rep.na]
  (repeat' (first | (refine LW_box hs rfl rfl ?_; clear hs; intro bx w hs) | (refine LW_alloc TOK hs rfl rfl ?_; clear hs; intro bs w hs) | (refine isLW ?_; first | refine LW_nil ?_ | (refine isLload ?_; first | refine LW_loadCAE 0 (eS S) TOK hs rfl rfl rfl rfl (Nat.le_of_ble_eq_true rfl) rfl ?_ | refine LW_loadC 0 TOK hs rfl rfl rfl rfl rfl ?_) | (refine isLstore ?_; first | (refine LW_storeCA 0 TOK hs rfl rfl rfl rfl rfl (eS_ok.2 S) rfl (Nat.le_of_ble_eq_true rfl) ?_; clear hs; intro w hs)) | refine LW_pure TOK rfl ?_) | (with_reducible first | refine then_n ?_ | refine CW_seq ?_ | refine CW_region ?_ | refine CW_block ?_ | refine CW_skip ?_) | refine CW_false rfl ?_))
  refine CW_loop (γ := Nat × Option Addr × Nat) (fun g => [(1, .pointer (some ⟨bx, 0, none⟩)), (3, .pointer (some ⟨bs, 0, none⟩)), (4, .slice g.2.1 ((S.na.take g.1).map (·.1)).length g.2.2), (5, .int .i64 (g.1 : Int))])
    (fun g w' => Sat W w' [Cl bs (eS S) 43, Cl bx (eK4 q S l false) 45, RowOf eN 9 1 g.2.1 g.2.2 ((S.na.take g.1).map (·.1))] ∧ g.1 ≤ S.na.length) (fun g => S.na.length - g.1) (0, none, 0) ⟨rfl, rfl, rfl, rfl, trivial⟩ ⟨hs, by omega⟩ ?_
  clear hs
  rintro ⟨i, A1, c1⟩ τ w ⟨hs, h1⟩
  try dsimp only at hs h1 ⊢
  have hlen : ((S.na.take i).map (·.1)).length = i := by rw [List.length_map, List.length_take]; omega
  by_cases hlt : i < S.na.length
  · have hru := rd_at hlt
    have hnx : (S.na.take (i + 1)).map (·.1) = (S.na.take i).map (·.1) ++ [(Go.Sl.rd S.na (i : Int)).1] := by
      rw [List.take_succ_eq_append_getElem hlt, List.map_append, hru]; rfl
    (repeat' (first | (refine isLW ?_; first | refine LW_nil ?_ | (refine isLload ?_; first | refine LW_loadC 0 TOK hs rfl rfl rfl rfl rfl ?_ | refine LW_loadRd (rdn.of hs) (fun _ => rfl) TOK rfl (by assumption) rfl rfl (by omega) (by omega) rfl ?_) | (refine isLcall ?_; first | (refine LW_append1 2 eN_ok (z := (Go.Sl.rd S.na (i : Int)).1) hs TOK rfl rfl rfl rfl rfl rfl rfl rfl rfl rfl (by unfold maxLen; omega) (by simp only []; omega) ?_; clear hs; intro A3 c3 w hs) | refine LW_pure TOK rfl ?_) | (refine isLidx ?_; first | (refine LW_indexRd (rdn.of hs) TOK rfl rfl rfl rfl rfl (by omega) (by omega) ?_; intro _ _ _)) | (refine isLbin ?_; first | refine LW_i64 rfl (by omega) (by omega) ?_ | (refine LW_cmp rfl (fun _ => ?_) (fun _ => ?_) <;> try (exfalso; omega))) | refine LW_pure TOK rfl ?_ | (refine LW_buildSlice TOK hs rfl rfl rfl rfl rfl rfl rfl ?_; clear hs; intro _ w hs)) | (with_reducible first | refine then_n ?_ | refine CW_seq ?_ | refine CW_region ?_ | refine CW_block ?_ | refine CW_skip ?_ | refine blk_n ?_) | refine CW_true rfl ?_))
    exact ⟨(i + 1, A3, c3), _, FR_forget _ ⟨rfl, rfl, by rw [hnx]; rfl, by push_cast; rfl, trivial⟩, ⟨by rw [hnx]; exact Sat.keeps hs [0, 0, 0], hlt⟩, by dsimp only; omega⟩
  · (repeat' (first | (refine isLW ?_; first | refine LW_nil ?_ | (refine isLload ?_; first | refine LW_loadC 0 TOK hs rfl rfl rfl rfl rfl ?_) | (refine isLcall ?_; first | refine LW_pure TOK rfl ?_) | (refine isLbin ?_; first | (refine LW_cmp rfl (fun _ => ?_) (fun _ => ?_) <;> try (exfalso; omega))) | refine LW_pure TOK rfl ?_) | (with_reducible first | refine then_n ?_ | refine CW_seq ?_ | refine CW_region ?_ | refine CW_exit ?_ | refine CW_ret ?_ | refine then_e ?_ | refine blk_same ?_) | refine CW_false rfl ?_ | refine RET1 Try.results96 rfl ?_))
    rw [List.take_of_length_le (by omega)] at hs
    exact ⟨A1, c1, by rw [List.take_of_length_le (by omega)], Sat.keeps hs [2]⟩
end
end Go.Proofs.Ytoodgenbcfdloaa
