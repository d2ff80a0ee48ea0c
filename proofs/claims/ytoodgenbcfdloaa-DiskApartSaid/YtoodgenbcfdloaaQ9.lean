/- The document's disk; walks: act, the other kinds. (Laid by wip/tools/genq9.py.) -/
import Derived.Test.YtoodgenbcfdloaaQ8
set_option linter.unusedVariables false
set_option linter.unusedSimpArgs false
namespace Go.Proofs.Ytoodgenbcfdloaa
open Go Go.Sl Go.RowKit
set_option maxRecDepth 100000
attribute [local irreducible] CW LW DW FR DP Calls

section
variable {W : World} {D : DS} {S : RSt} {pool : List HProp} {o : RAct}
set_option maxHeartbeats 4000000 in
theorem ract3 (h : ActH W D S pool o) (hk : o.kind = 3) (h0 : (D.sync o.a).1 = 0) : Calls Try.prog 94 [Value.agg (eS S).toArray, .agg (eA o).toArray].toArray W (Ret (ActP W (D.sync o.a).2 pool)) := by
  refine Calls_of Try.func94 rfl 125 Try.ntmps94 rfl ?_
  have hs := Sat.start W
  have hcr : (D.sync o.a) = (0, D.setF (D.find o.a).2 ⟨D.dat (D.find o.a).2, (D.dat (D.find o.a).2).length⟩) ∧ (D.find o.a).1 = 0 := by
    unfold DS.sync at h0 ⊢
    split at h0
    · rename_i h1
      rw [if_pos h1, turn_none h.left, if_pos rfl]
      exact ⟨rfl, h1⟩
    · rename_i h1; exact absurd h0 h1
  obtain ⟨hcr, hf1⟩ := hcr
  rw [hcr]
  obtain ⟨j, g1, g2, g3, g4, g5⟩ := h.found hf1
  have h' := h
  obtain ⟨rd, ins, rep, good, left, rdD, hfs, hnow, hchs⟩ := h'
  have hna : S.na.length ≤ 1099511627776 := by rw [rep.na]; exact hnow
  have hth : S.th.length ≤ 1099511627776 := by rw [rep.len]; exact hfs
  have hch : S.ch.length ≤ 1099511627776 := by rw [rep.ch]; exact hchs
  obtain ⟨i, hi⟩ : ∃ i, (D.find o.a).2 = i := ⟨_, rfl⟩
  rw [hi] at g3 g4 g5 ⊢
  obtain ⟨_, e1, e2, e3⟩ := rep.get good g5
  have hru := rd_at g4
  have hrdd := rd.data _ (List.getElem_mem g4)
  have hbd := dat_bd good g5
  have hsy := good.fl i
  obtain ⟨t, ht⟩ : ∃ t, S.th[i] = t := ⟨_, rfl⟩
  rw [ht] at e1 e2 e3 hru hrdd
  rw [← e1] at hbd
  have hru2 : Go.Sl.rd S.th ((Go.Sl.rd S.na (j : Int)).2 : Int) = t := by rw [g3]; exact hru
  have hlt : (Go.Sl.rd S.na (j : Int)).2 < S.th.length := by rw [g3]; exact g4
  have rdn := rd.na
  have rdt := rd.th
  have rdc := rd.ch
  unfold eA
  rw [hk]
  (repeat' (first | (refine isLW ?_; first | refine LW_nil ?_ | (refine isLload ?_; first | refine LW_loadRdA (vs := eT t) (rdt.of hs) (fun _ => rfl) TOK rfl (by assumption) rfl rfl rfl (by omega) (by omega) (by rw [hru2]) ?_ | refine LW_loadCAE 0 (eT ⟨t.A, t.c, t.d, t.d.length, t.there⟩) TOK hs rfl rfl rfl rfl (Nat.le_of_ble_eq_true rfl) rfl ?_ | refine LW_loadCAE 4 (eS (RSt.mk A5 c5 (S.th.set (Go.Sl.rd S.na (j : Int)).2 ⟨t.A, t.c, t.d, t.d.length, t.there⟩) S.NA S.nc S.na S.LA S.lc S.la S.CA S.cc S.ch)) TOK hs rfl rfl rfl rfl (Nat.le_of_ble_eq_true rfl) rfl ?_ | refine LW_loadC 0 TOK hs rfl rfl rfl rfl rfl ?_ | refine LW_loadC 1 TOK hs rfl rfl rfl rfl rfl ?_ | refine LW_loadC 2 TOK hs rfl rfl rfl rfl rfl ?_ | refine LW_loadC 3 TOK hs rfl rfl rfl rfl rfl ?_ | refine LW_loadRd (rdn.of hs) (fun _ => rfl) TOK rfl (by assumption) rfl rfl (by omega) (by omega) rfl ?_) | (refine isLstore ?_; first | (refine LW_storeCA 0 TOK hs rfl rfl rfl rfl rfl (eT_ok.2 t) rfl (Nat.le_of_ble_eq_true rfl) ?_; clear hs; intro w hs) | (refine LW_storeCA 2 TOK hs rfl rfl rfl rfl rfl (eS_ok.2 (RSt.mk A5 c5 (S.th.set (Go.Sl.rd S.na (j : Int)).2 ⟨t.A, t.c, t.d, t.d.length, t.there⟩) S.NA S.nc S.na S.LA S.lc S.la S.CA S.cc S.ch)) rfl (Nat.le_of_ble_eq_true rfl) ?_; clear hs; intro w hs) | (refine LW_storeC 0 TOK hs rfl rfl rfl rfl rfl rfl rfl ?_; clear hs; intro w hs) | (refine LW_storeC 4 TOK hs rfl rfl rfl rfl rfl rfl rfl ?_; clear hs; intro w hs)) | (refine isLcall ?_; first | (refine LW_call (cap := []) rfl rfl ent84 (rfind_call _ S.na S.NA S.nc o.a (rdn.of hs) (by omega)) ?_; rintro _ w2 ⟨rfl, hs2⟩; replace hs := hs.and0 hs2; clear hs2; rw [g1]; dsimp only [optE]) | (refine LW_call (cap := []) rfl rfl ent103 (set_call _ S.th S.TA S.tc (Go.Sl.rd S.na (j : Int)).2 ⟨t.A, t.c, t.d, t.d.length, t.there⟩ (rdt.of hs) (by omega) hlt) ?_; rintro _ w2 ⟨A5, c5, rfl, hs2⟩; replace hs := hs.and1 hs2; clear hs2) | refine LW_pure TOK rfl ?_) | (refine isLidx ?_; first | (refine LW_indexRd (rdn.of hs) TOK rfl rfl rfl rfl rfl (by omega) (by omega) ?_; intro _ _ _) | (refine LW_indexRd (rdt.of hs) TOK rfl rfl rfl rfl rfl (by omega) (by omega) ?_; intro _ _ _)) | (refine isLbin ?_; first | (refine LW_cmp rfl (fun _ => ?_) (fun _ => ?_) <;> try (exfalso; omega))) | refine LW_pure TOK rfl ?_ | (refine LW_box hs rfl rfl ?_; clear hs; intro _ w hs) | (refine LW_alloc TOK hs rfl rfl ?_; clear hs; intro _ w hs)) | (with_reducible first | refine then_n ?_ | refine CW_seq ?_ | refine CW_region ?_ | refine CW_block ?_ | refine CW_ret ?_ | refine blk_n ?_) | refine RETA 2 hs TOK Try.results94 rfl rfl rfl rfl rfl ?_ | refine CW_true rfl ?_ | refine CW_false rfl ?_))
  rw [g3] at hs
  have hfin := actP_set h g5 (f := ⟨D.dat i, (D.dat i).length⟩) (t := ⟨t.A, t.c, t.d, t.d.length, t.there⟩) (rows := [RowOf eT 111 3 A5 c5 (S.th.set i ⟨t.A, t.c, t.d, t.d.length, t.there⟩)]) (w' := w) (A := A5) (c := c5) e1 (by rw [e1]) e3 ((ins.data t (ht ▸ List.getElem_mem g4)).more _) (by simp) (Sat.mkBig (r := []) (Sat.keeps hs [0]))
  rw [g3]
  exact hfin
set_option maxHeartbeats 4000000 in
theorem ract4 (h : ActH W D S pool o) (hk : o.kind = 4) (h0 : (D.trunc o.a o.n).1 = 0) : Calls Try.prog 94 [Value.agg (eS S).toArray, .agg (eA o).toArray].toArray W (Ret (ActP W (D.trunc o.a o.n).2 pool)) := by
  refine Calls_of Try.func94 rfl 125 Try.ntmps94 rfl ?_
  have hs := Sat.start W
  have hcr : (D.trunc o.a o.n) = (0, D.setF (D.find o.a).2 ⟨(D.dat (D.find o.a).2).take o.n.toNat, min (D.fl (D.find o.a).2).syn o.n.toNat⟩) ∧ (D.find o.a).1 = 0 ∧ 0 ≤ o.n ∧ o.n ≤ (D.dat (D.find o.a).2).length := by
    unfold DS.trunc at h0 ⊢
    split at h0
    · rename_i h1
      rw [if_pos h1]
      split at h0
      · cases h0
      · rename_i h2
        rw [if_neg h2, turn_none h.left, if_pos rfl]
        exact ⟨rfl, h1, by omega, by omega⟩
    · rename_i h1; exact absurd h0 h1
  obtain ⟨hcr, hf1, hn0, hn1⟩ := hcr
  rw [hcr]
  obtain ⟨j, g1, g2, g3, g4, g5⟩ := h.found hf1
  have h' := h
  obtain ⟨rd, ins, rep, good, left, rdD, hfs, hnow, hchs⟩ := h'
  have hna : S.na.length ≤ 1099511627776 := by rw [rep.na]; exact hnow
  have hth : S.th.length ≤ 1099511627776 := by rw [rep.len]; exact hfs
  have hch : S.ch.length ≤ 1099511627776 := by rw [rep.ch]; exact hchs
  obtain ⟨i, hi⟩ : ∃ i, (D.find o.a).2 = i := ⟨_, rfl⟩
  rw [hi] at g3 g4 g5 hn1 ⊢
  obtain ⟨_, e1, e2, e3⟩ := rep.get good g5
  have hru := rd_at g4
  have hrdd := rd.data _ (List.getElem_mem g4)
  have hbd := dat_bd good g5
  have hsy := good.fl i
  obtain ⟨t, ht⟩ : ∃ t, S.th[i] = t := ⟨_, rfl⟩
  rw [ht] at e1 e2 e3 hru hrdd
  rw [← e1] at hbd
  have hru2 : Go.Sl.rd S.th ((Go.Sl.rd S.na (j : Int)).2 : Int) = t := by rw [g3]; exact hru
  have hlt : (Go.Sl.rd S.na (j : Int)).2 < S.th.length := by rw [g3]; exact g4
  have rdn := rd.na
  have rdt := rd.th
  have rdc := rd.ch
  rw [← e1] at hn1
  have hnn : o.n = ((o.n.toNat : Nat) : Int) := by omega
  have hcl : clamp (t.syn : Int) 0 o.n = ((min t.syn o.n.toNat : Nat) : Int) := by
    unfold clamp
    split
    · omega
    split <;> omega
  unfold eA
  rw [hk]
  (repeat' (first | (refine isLW ?_; first | refine LW_nil ?_ | (refine isLload ?_; first | refine LW_loadRdA (vs := eT t) (rdt.of hs) (fun _ => rfl) TOK rfl (by assumption) rfl rfl rfl (by omega) (by omega) (by rw [hru2]) ?_ | refine LW_loadCAE 1 (eT ⟨A2, c2, t.d.take o.n.toNat, min t.syn o.n.toNat, t.there⟩) TOK hs rfl rfl rfl rfl (Nat.le_of_ble_eq_true rfl) rfl ?_ | refine LW_loadCAE 5 (eS (RSt.mk A5 c5 (S.th.set (Go.Sl.rd S.na (j : Int)).2 ⟨A2, c2, t.d.take o.n.toNat, min t.syn o.n.toNat, t.there⟩) S.NA S.nc S.na S.LA S.lc S.la S.CA S.cc S.ch)) TOK hs rfl rfl rfl rfl (Nat.le_of_ble_eq_true rfl) rfl ?_ | refine LW_loadC 0 TOK hs rfl rfl rfl rfl rfl ?_ | refine LW_loadC 1 TOK hs rfl rfl rfl rfl rfl ?_ | refine LW_loadC 2 TOK hs rfl rfl rfl rfl rfl ?_ | refine LW_loadC 3 TOK hs rfl rfl rfl rfl rfl ?_ | refine LW_loadC 4 TOK hs rfl rfl rfl rfl rfl ?_ | refine LW_loadRd (rdn.of hs) (fun _ => rfl) TOK rfl (by assumption) rfl rfl (by omega) (by omega) rfl ?_) | (refine isLstore ?_; first | (refine LW_storeCA 0 TOK hs rfl rfl rfl rfl rfl (eT_ok.2 t) rfl (Nat.le_of_ble_eq_true rfl) ?_; clear hs; intro w hs) | (refine LW_storeCA 3 TOK hs rfl rfl rfl rfl rfl (eS_ok.2 (RSt.mk A5 c5 (S.th.set (Go.Sl.rd S.na (j : Int)).2 ⟨A2, c2, t.d.take o.n.toNat, min t.syn o.n.toNat, t.there⟩) S.NA S.nc S.na S.LA S.lc S.la S.CA S.cc S.ch)) rfl (Nat.le_of_ble_eq_true rfl) ?_; clear hs; intro w hs) | (refine LW_storeC 1 TOK hs rfl rfl rfl rfl rfl rfl rfl ?_; clear hs; intro w hs) | (refine LW_storeC 5 TOK hs rfl rfl rfl rfl rfl rfl rfl ?_; clear hs; intro w hs)) | (refine isLcall ?_; first | (refine LW_call (cap := []) rfl rfl ent84 (rfind_call _ S.na S.NA S.nc o.a (rdn.of hs) (by omega)) ?_; rintro _ w2 ⟨rfl, hs2⟩; replace hs := hs.and0 hs2; clear hs2; rw [g1]; dsimp only [optE]) | (refine LW_call (cap := []) rfl rfl ent63 (by have := part_call _ t.d t.A t.c o.n.toNat (hrdd.of hs) (by omega) (by omega); rw [← hnn] at this; exact this) ?_; rintro _ w2 ⟨A2, c2, rfl, hs2⟩; replace hs := hs.and1 hs2; clear hs2) | (refine LW_call (cap := []) rfl rfl ent66 (into_call _ (t.syn : Int) 0 o.n hn0) ?_; rintro _ _ ⟨rfl, rfl⟩; rw [hcl]) | (refine LW_call (cap := []) rfl rfl ent103 (set_call _ S.th S.TA S.tc (Go.Sl.rd S.na (j : Int)).2 ⟨A2, c2, t.d.take o.n.toNat, min t.syn o.n.toNat, t.there⟩ (rdt.of hs) (by omega) hlt) ?_; rintro _ w2 ⟨A5, c5, rfl, hs2⟩; replace hs := hs.and1 hs2; clear hs2)) | (refine isLidx ?_; first | (refine LW_indexRd (rdn.of hs) TOK rfl rfl rfl rfl rfl (by omega) (by omega) ?_; intro _ _ _) | (refine LW_indexRd (rdt.of hs) TOK rfl rfl rfl rfl rfl (by omega) (by omega) ?_; intro _ _ _)) | (refine isLbin ?_; first | (refine LW_cmp rfl (fun _ => ?_) (fun _ => ?_) <;> try (exfalso; omega))) | refine LW_pure TOK rfl ?_ | (refine LW_box hs rfl rfl ?_; clear hs; intro _ w hs) | (refine LW_alloc TOK hs rfl rfl ?_; clear hs; intro _ w hs)) | (with_reducible first | refine then_n ?_ | refine CW_seq ?_ | refine CW_region ?_ | refine CW_block ?_ | refine CW_ret ?_ | refine blk_n ?_) | refine RETA 3 hs TOK Try.results94 rfl rfl rfl rfl rfl ?_ | refine CW_true rfl ?_ | refine CW_false rfl ?_))
  rw [g3] at hs
  have hfin := actP_set h g5 (f := ⟨(D.dat i).take o.n.toNat, min (D.fl i).syn o.n.toNat⟩) (t := ⟨A2, c2, t.d.take o.n.toNat, min t.syn o.n.toNat, t.there⟩) (rows := [RowOf eT 111 3 A5 c5 (S.th.set i ⟨A2, c2, t.d.take o.n.toNat, min t.syn o.n.toNat, t.there⟩), RowOf eB 5 1 A2 c2 (t.d.take o.n.toNat)]) (w' := w) (A := A5) (c := c5) (by rw [e1]) (by rw [e2]) e3 (.here (by simp)) (by simp) (Sat.mkBig (r := []) (Sat.keeps hs [0, 0]))
  rw [g3]
  exact hfin
/-- The state behind one name change more. -/
theorem actP_noted (h : ActH W D S pool o) {c : Chg} (hm : c.made = none) {A1 A2 : Option Addr} {c1 c2 : Nat} {w' : World} (hsat : Sat W w' [RowOf eE 113 2 A1 c1 (doC S.na c), RowOf eCh 121 4 A2 c2 (S.ch ++ [c])]) : ActP W (D.noted c) pool (.agg (eS (namedS S c A1 c1 A2 c2)).toArray) w' :=
  ⟨_, [RowOf eE 113 2 A1 c1 (doC S.na c), RowOf eCh 121 4 A2 c2 (S.ch ++ [c])], rfl, h.rep.noted hm, ⟨h.ins.th.more _, fun t ht => (h.ins.data t ht).more _, .here (by simp [namedS]), h.ins.la.more _, .here (by simp [namedS])⟩, Sat.mkBig (r := []) hsat⟩
set_option maxHeartbeats 4000000 in
theorem ract5 (h : ActH W D S pool o) (hk : o.kind = 5) (h0 : (D.rename o.a o.b).1 = 0) : Calls Try.prog 94 [Value.agg (eS S).toArray, .agg (eA o).toArray].toArray W (Ret (ActP W (D.rename o.a o.b).2 pool)) := by
  refine Calls_of Try.func94 rfl 125 Try.ntmps94 rfl ?_
  have hs := Sat.start W
  have hcr : (D.rename o.a o.b) = (0, D.noted ⟨o.a, o.b, none⟩) ∧ (D.find o.a).1 = 0 ∧ pathB o.a = true ∧ pathB o.b = true ∧ (fnd D.now o.a).isSome = true := by
    unfold DS.rename at h0 ⊢
    split at h0
    · cases h0
    rename_i h1
    rw [if_neg h1]
    split at h0
    · cases h0
    rename_i h2
    rw [if_neg h2]
    split at h0
    · cases h0
    rename_i h3
    rw [if_neg h3]
    have hpa : pathB o.a = true := by cases e : pathB o.a; · exact absurd (.inl e) h2
                                      · rfl
    have hpb : pathB o.b = true := by cases e : pathB o.b; · exact absurd (.inr e) h2
                                      · rfl
    refine ⟨?_, ?_, hpa, hpb, Option.isSome_iff_ne_none.2 h3⟩
    · unfold DS.note; rw [turn_none h.left, if_pos rfl]
    · unfold DS.find
      rw [if_neg h1, if_neg (by simp [hpa])]
      cases e : fnd D.now o.a with
      | none => exact absurd e h3
      | some i => rfl
  obtain ⟨hcr, hf1, hpa, hpb, hsm⟩ := hcr
  rw [hcr]
  have hids := h.ids
  obtain ⟨j, g1, g2, g3, g4, g5⟩ := h.found hf1
  have h' := h
  obtain ⟨rd, ins, rep, good, left, rdD, hfs, hnow, hchs⟩ := h'
  have hna : S.na.length ≤ 1099511627776 := by rw [rep.na]; exact hnow
  have hth : S.th.length ≤ 1099511627776 := by rw [rep.len]; exact hfs
  have hch : S.ch.length ≤ 1099511627776 := by rw [rep.ch]; exact hchs
  obtain ⟨i, hi⟩ : ∃ i, (D.find o.a).2 = i := ⟨_, rfl⟩
  rw [hi] at g3 g4 g5 
  obtain ⟨_, e1, e2, e3⟩ := rep.get good g5
  have hru := rd_at g4
  have hrdd := rd.data _ (List.getElem_mem g4)
  have hbd := dat_bd good g5
  have hsy := good.fl i
  obtain ⟨t, ht⟩ : ∃ t, S.th[i] = t := ⟨_, rfl⟩
  rw [ht] at e1 e2 e3 hru hrdd
  rw [← e1] at hbd
  have hru2 : Go.Sl.rd S.th ((Go.Sl.rd S.na (j : Int)).2 : Int) = t := by rw [g3]; exact hru
  have hlt : (Go.Sl.rd S.na (j : Int)).2 < S.th.length := by rw [g3]; exact g4
  have rdn := rd.na
  have rdt := rd.th
  have rdc := rd.ch
  obtain ⟨ch, hchg⟩ : ∃ ch : Chg, (⟨o.a, o.b, none⟩ : Chg) = ch := ⟨_, rfl⟩
  have hokc : okC S.na ch := by rw [← hchg, rep.na]; exact .inr ⟨hpa, rfl, hsm, .inr hpb⟩
  have hm : ch.made.getD 0 ≤ 4611686018427387904 := by rw [← hchg]; exact Nat.zero_le _
  have hm2 : ch.made = none := by rw [← hchg]
  have hec : eCh ch = [.int .i64 2, sv o.a, sv o.b, .int .i64 0] := by
    rw [← hchg]; unfold eCh kindC; rw [if_neg (pathB_ne hpa), if_neg (pathB_ne hpb), if_neg (pathB_ne hpa), if_neg (pathB_ne hpa)]; rfl
  rw [hchg]
  unfold eA
  rw [hk]
  (repeat' (first | (refine isLW ?_; first | refine LW_nil ?_ | (refine isLload ?_; first | refine LW_loadRdA (vs := eT t) (rdt.of hs) (fun _ => rfl) TOK rfl (by assumption) rfl rfl rfl (by omega) (by omega) (by rw [hru2]) ?_ | refine LW_loadCAE 3 (eS S) TOK hs rfl rfl rfl rfl (Nat.le_of_ble_eq_true rfl) rfl ?_ | refine LW_loadC 1 TOK hs rfl rfl rfl rfl rfl ?_ | refine LW_loadC 2 TOK hs rfl rfl rfl rfl rfl ?_ | refine LW_loadC 3 TOK hs rfl rfl rfl rfl rfl ?_ | refine LW_loadRd (rdn.of hs) (fun _ => rfl) TOK rfl (by assumption) rfl rfl (by omega) (by omega) rfl ?_) | (refine isLstore ?_; first | (refine LW_storeCA 0 TOK hs rfl rfl rfl rfl rfl (eT_ok.2 t) rfl (Nat.le_of_ble_eq_true rfl) ?_; clear hs; intro w hs) | (refine LW_storeCA 3 TOK hs rfl rfl rfl rfl rfl (eS_ok.2 (namedS S ch A5 c5 A6 c6)) rfl (Nat.le_of_ble_eq_true rfl) ?_; clear hs; intro w hs)) | (refine isLcall ?_; first | (refine LW_call (cap := []) rfl rfl ent84 (rfind_call _ S.na S.NA S.nc o.a (rdn.of hs) (by omega)) ?_; rintro _ w2 ⟨rfl, hs2⟩; replace hs := hs.and0 hs2; clear hs2; rw [g1]; dsimp only [optE]) | (refine LW_call (cap := []) rfl rfl ent102 (by have : Calls Try.prog 102 [Value.agg (eS S).toArray, .agg (eCh ch).toArray].toArray _ _ := named_call _ S ch (rdn.of hs) (rdc.of hs) (by omega) (by omega) hokc hm hids; rw [hec] at this; exact this) ?_; rintro _ w2 ⟨A5, c5, A6, c6, rfl, hs2⟩; replace hs := hs.andThen hs2; clear hs2)) | (refine isLidx ?_; first | (refine LW_indexRd (rdn.of hs) TOK rfl rfl rfl rfl rfl (by omega) (by omega) ?_; intro _ _ _) | (refine LW_indexRd (rdt.of hs) TOK rfl rfl rfl rfl rfl (by omega) (by omega) ?_; intro _ _ _)) | (refine isLbin ?_; first | (refine LW_cmp rfl (fun _ => ?_) (fun _ => ?_) <;> try (exfalso; omega))) | refine LW_pure TOK rfl ?_ | (refine LW_box hs rfl rfl ?_; clear hs; intro _ w hs) | (refine LW_alloc TOK hs rfl rfl ?_; clear hs; intro _ w hs) | refine LW_build TOK rfl rfl rfl rfl rfl rfl ?_) | (with_reducible first | refine then_n ?_ | refine CW_seq ?_ | refine CW_region ?_ | refine CW_block ?_ | refine CW_ret ?_ | refine then_r ?_ | refine blk_r ?_) | refine RETA 3 hs TOK Try.results94 rfl rfl rfl rfl rfl ?_ | refine CW_true rfl ?_ | refine CW_false rfl ?_))
  exact actP_noted h hm2 (Sat.keeps hs [0, 0])
set_option maxHeartbeats 4000000 in
theorem ract6 (h : ActH W D S pool o) (hk : o.kind = 6) (h0 : (D.remove o.a).1 = 0) : Calls Try.prog 94 [Value.agg (eS S).toArray, .agg (eA o).toArray].toArray W (Ret (ActP W (D.remove o.a).2 pool)) := by
  refine Calls_of Try.func94 rfl 125 Try.ntmps94 rfl ?_
  have hs := Sat.start W
  have hcr : (D.remove o.a) = (0, D.noted ⟨o.a, [], none⟩) ∧ (D.find o.a).1 = 0 := by
    unfold DS.remove at h0 ⊢
    split at h0
    · rename_i h1
      rw [if_pos h1]
      refine ⟨?_, h1⟩
      unfold DS.note; rw [turn_none h.left, if_pos rfl]
    · rename_i h1; exact absurd h0 h1
  obtain ⟨hcr, hf1⟩ := hcr
  have hpa := (find_ok hf1).2.1
  have hsm : (fnd D.now o.a).isSome = true := by rw [(find_ok hf1).2.2]; rfl
  rw [hcr]
  have hids := h.ids
  obtain ⟨j, g1, g2, g3, g4, g5⟩ := h.found hf1
  have h' := h
  obtain ⟨rd, ins, rep, good, left, rdD, hfs, hnow, hchs⟩ := h'
  have hna : S.na.length ≤ 1099511627776 := by rw [rep.na]; exact hnow
  have hth : S.th.length ≤ 1099511627776 := by rw [rep.len]; exact hfs
  have hch : S.ch.length ≤ 1099511627776 := by rw [rep.ch]; exact hchs
  obtain ⟨i, hi⟩ : ∃ i, (D.find o.a).2 = i := ⟨_, rfl⟩
  rw [hi] at g3 g4 g5 
  obtain ⟨_, e1, e2, e3⟩ := rep.get good g5
  have hru := rd_at g4
  have hrdd := rd.data _ (List.getElem_mem g4)
  have hbd := dat_bd good g5
  have hsy := good.fl i
  obtain ⟨t, ht⟩ : ∃ t, S.th[i] = t := ⟨_, rfl⟩
  rw [ht] at e1 e2 e3 hru hrdd
  rw [← e1] at hbd
  have hru2 : Go.Sl.rd S.th ((Go.Sl.rd S.na (j : Int)).2 : Int) = t := by rw [g3]; exact hru
  have hlt : (Go.Sl.rd S.na (j : Int)).2 < S.th.length := by rw [g3]; exact g4
  have rdn := rd.na
  have rdt := rd.th
  have rdc := rd.ch
  obtain ⟨ch, hchg⟩ : ∃ ch : Chg, (⟨o.a, [], none⟩ : Chg) = ch := ⟨_, rfl⟩
  have hokc : okC S.na ch := by rw [← hchg, rep.na]; exact .inr ⟨hpa, rfl, hsm, .inl rfl⟩
  have hm : ch.made.getD 0 ≤ 4611686018427387904 := by rw [← hchg]; exact Nat.zero_le _
  have hm2 : ch.made = none := by rw [← hchg]
  have hec : eCh ch = [.int .i64 3, sv o.a, sv [], .int .i64 0] := by
    rw [← hchg]; unfold eCh kindC; rw [if_neg (pathB_ne hpa), if_pos rfl, if_neg (pathB_ne hpa), if_neg (pathB_ne hpa)]; rfl
  rw [hchg]
  unfold eA
  rw [hk]
  (repeat' (first | (refine isLW ?_; first | refine LW_nil ?_ | (refine isLload ?_; first | refine LW_loadRdA (vs := eT t) (rdt.of hs) (fun _ => rfl) TOK rfl (by assumption) rfl rfl rfl (by omega) (by omega) (by rw [hru2]) ?_ | refine LW_loadCAE 3 (eS S) TOK hs rfl rfl rfl rfl (Nat.le_of_ble_eq_true rfl) rfl ?_ | refine LW_loadC 1 TOK hs rfl rfl rfl rfl rfl ?_ | refine LW_loadC 2 TOK hs rfl rfl rfl rfl rfl ?_ | refine LW_loadC 3 TOK hs rfl rfl rfl rfl rfl ?_ | refine LW_loadRd (rdn.of hs) (fun _ => rfl) TOK rfl (by assumption) rfl rfl (by omega) (by omega) rfl ?_) | (refine isLstore ?_; first | (refine LW_storeCA 0 TOK hs rfl rfl rfl rfl rfl (eT_ok.2 t) rfl (Nat.le_of_ble_eq_true rfl) ?_; clear hs; intro w hs) | (refine LW_storeCA 3 TOK hs rfl rfl rfl rfl rfl (eS_ok.2 (namedS S ch A5 c5 A6 c6)) rfl (Nat.le_of_ble_eq_true rfl) ?_; clear hs; intro w hs)) | (refine isLcall ?_; first | (refine LW_call (cap := []) rfl rfl ent84 (rfind_call _ S.na S.NA S.nc o.a (rdn.of hs) (by omega)) ?_; rintro _ w2 ⟨rfl, hs2⟩; replace hs := hs.and0 hs2; clear hs2; rw [g1]; dsimp only [optE]) | (refine LW_call (cap := []) rfl rfl ent102 (by have : Calls Try.prog 102 [Value.agg (eS S).toArray, .agg (eCh ch).toArray].toArray _ _ := named_call _ S ch (rdn.of hs) (rdc.of hs) (by omega) (by omega) hokc hm hids; rw [hec] at this; exact this) ?_; rintro _ w2 ⟨A5, c5, A6, c6, rfl, hs2⟩; replace hs := hs.andThen hs2; clear hs2)) | (refine isLidx ?_; first | (refine LW_indexRd (rdn.of hs) TOK rfl rfl rfl rfl rfl (by omega) (by omega) ?_; intro _ _ _) | (refine LW_indexRd (rdt.of hs) TOK rfl rfl rfl rfl rfl (by omega) (by omega) ?_; intro _ _ _)) | (refine isLbin ?_; first | (refine LW_cmp rfl (fun _ => ?_) (fun _ => ?_) <;> try (exfalso; omega))) | refine LW_pure TOK rfl ?_ | (refine LW_box hs rfl rfl ?_; clear hs; intro _ w hs) | (refine LW_alloc TOK hs rfl rfl ?_; clear hs; intro _ w hs) | refine LW_build TOK rfl rfl rfl rfl rfl rfl ?_) | (with_reducible first | refine then_n ?_ | refine CW_seq ?_ | refine CW_region ?_ | refine CW_block ?_ | refine CW_ret ?_ | refine then_r ?_ | refine blk_r ?_) | refine RETA 3 hs TOK Try.results94 rfl rfl rfl rfl rfl ?_ | refine CW_true rfl ?_ | refine CW_false rfl ?_))
  exact actP_noted h hm2 (Sat.keeps hs [0, 0])
/-- The state behind a SyncDir. -/
theorem actP_last (h : ActH W D S pool o) {A1 : Option Addr} {c1 : Nat} {w' : World} (hsat : Sat W w' [RowOf eT 111 3 A1 c1 (lastT S.na 0 S.th)]) : ActP W { D with las := D.now, chs := [] } pool (.agg (eS (lastS S A1 c1)).toArray) w' :=
  ⟨_, [RowOf eT 111 3 A1 c1 (lastT S.na 0 S.th)], rfl, h.rep.lasting h.good, ⟨.here (by simp [lastS]), fun t ht => by
    obtain ⟨k, hk, rfl⟩ := List.getElem_of_mem (show t ∈ lastT S.na 0 S.th from ht)
    have hk2 : k < S.th.length := by rwa [lastT_len] at hk
    rw [lastT_get S.na S.th 0 k hk hk2]
    unfold lastTh
    split
    · exact (h.ins.data _ (List.getElem_mem hk2)).more _
    · exact .inl rfl, h.ins.na.more _, h.ins.na.more _, .inl rfl⟩, Sat.mkBig (r := []) hsat⟩
set_option maxHeartbeats 4000000 in
theorem ract7 (h : ActH W D S pool o) (hk : o.kind = 7) (h0 : D.syncdir.1 = 0) : Calls Try.prog 94 [Value.agg (eS S).toArray, .agg (eA o).toArray].toArray W (Ret (ActP W D.syncdir.2 pool)) := by
  refine Calls_of Try.func94 rfl 125 Try.ntmps94 rfl ?_
  have hs := Sat.start W
  have hcr : D.syncdir = (0, { D with las := D.now, chs := [] }) := by
    unfold DS.syncdir at h0 ⊢
    split at h0
    · cases h0
    rename_i h1
    rw [if_neg h1, turn_none h.left, if_pos rfl]
  rw [hcr]
  have h' := h
  obtain ⟨rd, ins, rep, good, left, rdD, hfs, hnow, hchs⟩ := h'
  have hna : S.na.length ≤ 1099511627776 := by rw [rep.na]; exact hnow
  have hth : S.th.length ≤ 1099511627776 := by rw [rep.len]; exact hfs
  have rdn := rd.na
  have rdt := rd.th
  unfold eA
  rw [hk]
  have hgen : ∀ {w' : World} {A1 : Option Addr} {c1 : Nat} {vs : List Value}, Sat W w' [RowOf eT 111 3 A1 c1 (lastT S.na 0 S.th)] → vs = eS (lastS S A1 c1) → ActP W { D with las := D.now, chs := [] } pool (.agg vs.toArray) w' := fun hs e => by subst e; exact actP_last h hs
  rcases placeE_fnd (l := S.na) (n := o.a) with ⟨g1, _⟩ | ⟨j, g1, g2, g3⟩
  · (repeat' (first | (refine isLW ?_; first | refine LW_nil ?_ | (refine isLload ?_; first | refine LW_loadCAE 3 (eS S) TOK hs rfl rfl rfl rfl (Nat.le_of_ble_eq_true rfl) rfl ?_ | refine LW_loadC 1 TOK hs rfl rfl rfl rfl rfl ?_ | refine LW_loadC 2 TOK hs rfl rfl rfl rfl rfl ?_) | (refine isLstore ?_; first | (refine LW_storeCA 2 TOK hs rfl rfl rfl rfl rfl (eS_ok.2 (lastS S A5 c5)) rfl (Nat.le_of_ble_eq_true rfl) ?_; clear hs; intro w hs)) | (refine isLcall ?_; first | (refine LW_call (cap := []) rfl rfl ent84 (rfind_call _ S.na S.NA S.nc o.a (rdn.of hs) (by omega)) ?_; rintro _ w2 ⟨rfl, hs2⟩; replace hs := hs.and0 hs2; clear hs2; rw [g1]; dsimp only [optE]) | (refine LW_call (cap := []) rfl rfl ent104 (lasting_call _ S (rdt.of hs) (rdn.of hs) (by omega) (by omega)) ?_; rintro _ w2 ⟨A5, c5, rfl, hs2⟩; replace hs := hs.and1 hs2; clear hs2)) | (refine isLbin ?_; first | (refine LW_cmp rfl (fun _ => ?_) (fun _ => ?_) <;> try (exfalso; omega))) | refine LW_pure TOK rfl ?_ | (refine LW_box hs rfl rfl ?_; clear hs; intro _ w hs) | (refine LW_alloc TOK hs rfl rfl ?_; clear hs; intro _ w hs)) | (with_reducible first | refine then_n ?_ | refine CW_seq ?_ | refine CW_region ?_ | refine CW_block ?_ | refine CW_skip ?_ | refine CW_ret ?_ | refine then_r ?_ | refine blk_r ?_) | refine RETA 2 hs TOK Try.results94 rfl rfl rfl rfl rfl ?_ | refine CW_true rfl ?_ | refine CW_false rfl ?_))
    exact hgen (Sat.keeps hs [0]) rfl
  · have hnd : D.now.length = S.na.length := by rw [rep.na]
    have hri : (Go.Sl.rd S.na (j : Int)).2 < S.th.length := by
      rw [rd_at g2]
      have hm : S.na[j] ∈ D.now := rep.na ▸ List.getElem_mem g2
      rw [rep.len]
      exact good.ltNow (List.mem_map.2 ⟨_, hm, rfl⟩)
    obtain ⟨t, ht⟩ : ∃ t, Go.Sl.rd S.th ((Go.Sl.rd S.na (j : Int)).2 : Int) = t := ⟨_, rfl⟩
    (repeat' (first | (refine isLW ?_; first | refine LW_nil ?_ | (refine isLload ?_; first | refine LW_loadRdA (vs := eT t) (rdt.of hs) (fun _ => rfl) TOK rfl (by assumption) rfl rfl rfl (by omega) (by omega) (by rw [ht]) ?_ | refine LW_loadCAE 3 (eS S) TOK hs rfl rfl rfl rfl (Nat.le_of_ble_eq_true rfl) rfl ?_ | refine LW_loadC 1 TOK hs rfl rfl rfl rfl rfl ?_ | refine LW_loadC 2 TOK hs rfl rfl rfl rfl rfl ?_ | refine LW_loadC 3 TOK hs rfl rfl rfl rfl rfl ?_ | refine LW_loadRd (rdn.of hs) (fun _ => rfl) TOK rfl (by assumption) rfl rfl (by omega) (by omega) rfl ?_) | (refine isLstore ?_; first | (refine LW_storeCA 0 TOK hs rfl rfl rfl rfl rfl (eT_ok.2 t) rfl (Nat.le_of_ble_eq_true rfl) ?_; clear hs; intro w hs) | (refine LW_storeCA 2 TOK hs rfl rfl rfl rfl rfl (eS_ok.2 (lastS S A5 c5)) rfl (Nat.le_of_ble_eq_true rfl) ?_; clear hs; intro w hs)) | (refine isLcall ?_; first | (refine LW_call (cap := []) rfl rfl ent84 (rfind_call _ S.na S.NA S.nc o.a (rdn.of hs) (by omega)) ?_; rintro _ w2 ⟨rfl, hs2⟩; replace hs := hs.and0 hs2; clear hs2; rw [g1]; dsimp only [optE]) | (refine LW_call (cap := []) rfl rfl ent104 (lasting_call _ S (rdt.of hs) (rdn.of hs) (by omega) (by omega)) ?_; rintro _ w2 ⟨A5, c5, rfl, hs2⟩; replace hs := hs.and1 hs2; clear hs2)) | (refine isLidx ?_; first | (refine LW_indexRd (rdn.of hs) TOK rfl rfl rfl rfl rfl (by omega) (by omega) ?_; intro _ _ _) | (refine LW_indexRd (rdt.of hs) TOK rfl rfl rfl rfl rfl (by omega) (by omega) ?_; intro _ _ _)) | (refine isLbin ?_; first | (refine LW_cmp rfl (fun _ => ?_) (fun _ => ?_) <;> try (exfalso; omega))) | refine LW_pure TOK rfl ?_ | (refine LW_box hs rfl rfl ?_; clear hs; intro _ w hs) | (refine LW_alloc TOK hs rfl rfl ?_; clear hs; intro _ w hs)) | (with_reducible first | refine then_n ?_ | refine CW_seq ?_ | refine CW_region ?_ | refine CW_block ?_ | refine CW_ret ?_ | refine then_r ?_ | refine blk_r ?_) | refine RETA 2 hs TOK Try.results94 rfl rfl rfl rfl rfl ?_ | refine CW_true rfl ?_ | refine CW_false rfl ?_))
    exact hgen (Sat.keeps hs [0]) rfl
/-- What an act that is not refused makes of a state. -/
theorem ract_call (h : ActH W D S pool o) (h1 : 1 ≤ o.kind) (h7 : o.kind ≤ 7) (h0 : (D.act o.kind o.a o.b o.n o.data).1 = 0) : Calls Try.prog 94 [Value.agg (eS S).toArray, .agg (eA o).toArray].toArray W (Ret (ActP W (D.act o.kind o.a o.b o.n o.data).2 pool)) := by
  unfold DS.act at h0 ⊢
  split at h0
  · rename_i e; rw [if_pos e]; exact ract1 h e h0
  rename_i e1; rw [if_neg e1]
  split at h0
  · rename_i e; rw [if_pos e]; exact ract2 h e h0
  rename_i e2; rw [if_neg e2]
  split at h0
  · rename_i e; rw [if_pos e]; exact ract3 h e h0
  rename_i e3; rw [if_neg e3]
  split at h0
  · rename_i e; rw [if_pos e]; exact ract4 h e h0
  rename_i e4; rw [if_neg e4]
  split at h0
  · rename_i e; rw [if_pos e]; exact ract5 h e h0
  rename_i e5; rw [if_neg e5]
  split at h0
  · rename_i e; rw [if_pos e]; exact ract6 h e h0
  rename_i e6; rw [if_neg e6]
  exact ract7 h (by omega) h0
end
end Go.Proofs.Ytoodgenbcfdloaa
