/- The document's disk; walks: act. -/
import Derived.Test.YtoodgenbcfdloaaQ7
set_option linter.unusedVariables false
set_option linter.unusedSimpArgs false
namespace Go.Proofs.Ytoodgenbcfdloaa
open Go Go.Sl Go.RowKit
set_option maxRecDepth 100000
attribute [local irreducible] CW LW DW FR DP Calls

section
variable {α : Type}
/-- A row of the pool. -/
def inRow (pool : List HProp) (enc : α → List Value) (e : TypeId) (sz : Nat) (A : Option Addr) (c : Nat) (xs : List α) : Prop := xs = [] ∨ RowOf enc e sz A c xs ∈ pool
theorem inRow.more {pool : List HProp} {enc : α → List Value} {e : TypeId} {sz : Nat} {A : Option Addr} {c : Nat} {xs : List α} (h : inRow pool enc e sz A c xs) (rows : List HProp) : inRow (rows ++ pool) enc e sz A c xs := h.imp_right fun h => List.mem_append_right _ h
theorem inRow.here {pool rows : List HProp} {enc : α → List Value} {e : TypeId} {sz : Nat} {A : Option Addr} {c : Nat} {xs : List α} (h : RowOf enc e sz A c xs ∈ rows) : inRow (rows ++ pool) enc e sz A c xs := .inr (List.mem_append_left _ h)
theorem inRow.rd {W w : World} {L pool : List HProp} {enc : α → List Value} {e : TypeId} {sz : Nat} {A : Option Addr} {c : Nat} {xs : List α} (h : inRow pool enc e sz A c xs) (hs : Sat W w (Big pool :: L)) : Rd enc w A xs := by
  rcases h with h | h
  · exact .inl h
  · obtain ⟨x, y, rfl⟩ := List.append_of_mem h
    have h3 : Sat W w ([] ++ Big (x ++ RowOf enc e sz A c xs :: y) :: L) := hs
    exact (Sat.openBig h3).rd 0 rfl
end
/-- A state whose rows lie in the pool. -/
structure InS (pool : List HProp) (S : RSt) : Prop where
  th : inRow pool eT 111 3 S.TA S.tc S.th
  data : ∀ t ∈ S.th, inRow pool eB 5 1 t.A t.c t.d
  na : inRow pool eE 113 2 S.NA S.nc S.na
  la : inRow pool eE 113 2 S.LA S.lc S.la
  ch : inRow pool eCh 121 4 S.CA S.cc S.ch
/-- A state that may be read. -/
structure RdS (w : World) (S : RSt) : Prop where
  th : Rd eT w S.TA S.th
  data : ∀ t ∈ S.th, Rd eB w t.A t.d
  na : Rd eE w S.NA S.na
  la : Rd eE w S.LA S.la
  ch : Rd eCh w S.CA S.ch
theorem InS.rd {W w : World} {L pool : List HProp} {S : RSt} (h : InS pool S) (hs : Sat W w (Big pool :: L)) : RdS w S :=
  ⟨h.th.rd hs, fun t ht => (h.data t ht).rd hs, h.na.rd hs, h.la.rd hs, h.ch.rd hs⟩
theorem Sat.bigs {W w : World} {L rows pool : List HProp} (h : Sat W w (Big rows :: Big pool :: L)) : Sat W w (Big (rows ++ pool) :: L) := by
  have h1 : Sat W w (Big pool :: (rows ++ L)) := h.big.perm List.perm_middle
  have h2 : Sat W w (pool ++ (rows ++ L)) := h1.big
  have h3 : Sat W w ((rows ++ pool) ++ L) := h2.perm (by rw [← List.append_assoc]; exact List.Perm.append_right _ List.perm_append_comm)
  exact h3.mkBig
/-- An act, as it lies. -/
structure RAct where
  kind : Int
  a : Nm
  b : Nm
  n : Int
  A : Option Addr
  c : Nat
  data : List UInt8
def eA (o : RAct) : List Value := [.int .i64 o.kind, sv o.a, sv o.b, .int .i64 o.n, .slice o.A o.data.length o.c]
theorem eA_ok : (∀ x, (eA x).length = 5) ∧ ∀ x, ∀ u ∈ eA x, u.oneCell' = true := ⟨fun _ => rfl, fun x u h => by
  simp [eA] at h
  rcases h with rfl | rfl | rfl | rfl | rfl <;> rfl⟩
/-- What the document's act answers: a state that is the disk's behind the call; what it laid. -/
def ActP (W : World) (D' : DS) (pool : List HProp) (v : Value) (w' : World) : Prop := ∃ S' rows, v = .agg (eS S').toArray ∧ Rep D' S' ∧ InS (rows ++ pool) S' ∧ Sat W w' [Big rows]
/-- What the walks of act ask for. -/
structure ActH (W : World) (D : DS) (S : RSt) (pool : List HProp) (o : RAct) : Prop where
  rd : RdS W S
  ins : InS pool S
  rep : Rep D S
  good : Good D
  left : D.left = none
  rdD : Rd eB W o.A o.data
  fs : D.fs.length ≤ 1099511627776
  now : D.now.length ≤ 1099511627776
  chs : D.chs.length ≤ 1099511627776
section
variable {W : World} {D : DS} {S : RSt} {pool : List HProp} {o : RAct}
theorem ActH.ids (h : ActH W D S pool o) : ∀ p ∈ S.na, p.2 ≤ 4611686018427387904 := fun p hp => by
  rw [h.rep.na] at hp
  have := h.good.ltNow (List.mem_map.2 ⟨p, hp, rfl⟩)
  have := h.fs
  omega
set_option maxHeartbeats 4000000 in
theorem ract1 (h : ActH W D S pool o) (hk : o.kind = 1) (h0 : (D.create o.a).1 = 0) : Calls Try.prog 94 [Value.agg (eS S).toArray, .agg (eA o).toArray].toArray W (Ret (ActP W (D.create o.a).2 pool)) := by
  refine Calls_of Try.func94 rfl 125 Try.ntmps94 rfl ?_
  have hs := (Sat.start W).nilRow 111 3
  obtain ⟨rd, ins, rep, good, left, _, hfs, hnow, hchs⟩ := h
  have hcr : D.create o.a = (0, DS.noted { D with fs := D.fs ++ [⟨[], 0⟩] } ⟨[], o.a, some D.fs.length⟩) ∧ pathB o.a = true ∧ fnd D.now o.a = none := by
    unfold DS.create at h0 ⊢
    split at h0
    · cases h0
    rename_i h1
    rw [if_neg h1]
    split at h0
    · rename_i h2
      rw [if_pos h2, turn_none left, if_pos rfl]
      exact ⟨rfl, (find_63 h2).2⟩
    · exact absurd h0 h1
  obtain ⟨hcr, hp, hfn⟩ := hcr
  rw [hcr]
  have hpl : placeE S.na o.a = none := by
    rcases placeE_fnd (l := S.na) (n := o.a) with ⟨g, _⟩ | ⟨i, g1, g2, g3⟩
    · exact g
    · rw [rep.na, hfn] at g3; cases g3
  have hna : S.na.length ≤ 1099511627776 := by rw [rep.na]; exact hnow
  have hch : S.ch.length ≤ 1099511627776 := by rw [rep.ch]; exact hchs
  have hth : S.th.length ≤ 1099511627776 := by rw [rep.len]; exact hfs
  have hnl : ([] : List RTh).length = 0 := rfl
  have hnl2 : ([] ++ S.th : List RTh).length = S.th.length := rfl
  have hnl3 : ∀ nt : RTh, ([] ++ S.th ++ [nt] : List RTh).length = S.th.length + 1 := fun _ => by simp
  have hids : ∀ p ∈ S.na, p.2 ≤ 4611686018427387904 := fun p hp => by
    rw [rep.na] at hp
    have := good.ltNow (List.mem_map.2 ⟨p, hp, rfl⟩)
    omega
  obtain ⟨ch, hchg⟩ : ∃ ch : Chg, (⟨[], o.a, some D.fs.length⟩ : Chg) = ch := ⟨_, rfl⟩
  have hokc : okC S.na ch := by rw [← hchg, rep.na]; exact .inl ⟨rfl, rfl, hp, hfn⟩
  have hm : ch.made.getD 0 ≤ 4611686018427387904 := by rw [← hchg]; show D.fs.length ≤ _; omega
  obtain ⟨nt, hnt⟩ : ∃ nt : RTh, (⟨none, 0, [], 0, true⟩ : RTh) = nt := ⟨_, rfl⟩
  have hnl4 := hnl3 nt
  have hen : eT nt = [.slice none 0 0, .int .i64 0, .bool true] := by rw [← hnt]; rfl
  have hec : eCh ch = [.int .i64 1, sv o.a, sv [], .int .i64 (((([] ++ S.th) ++ [nt] : List RTh).length : Int) - 1)] := by
    rw [← hchg]
    have : ((([] ++ S.th) ++ [nt] : List RTh).length : Int) - 1 = (D.fs.length : Int) := by rw [List.length_append, hnl2, rep.len]; simp
    rw [this]; rfl
  unfold eA
  rw [hk]
  (repeat' (first | (refine isLW ?_; first | refine LW_nil ?_ | (refine isLload ?_; first | refine LW_loadCAE 3 (eS (RSt.mk A3 c3 ([] ++ S.th ++ [nt]) S.NA S.nc S.na S.LA S.lc S.la S.CA S.cc S.ch)) TOK hs rfl rfl rfl rfl (Nat.le_of_ble_eq_true rfl) rfl ?_ | refine LW_loadC 1 TOK hs rfl rfl rfl rfl rfl ?_ | refine LW_loadC 2 TOK hs rfl rfl rfl rfl rfl ?_ | refine LW_loadC 3 TOK hs rfl rfl rfl rfl rfl ?_) | (refine isLstore ?_; first | (refine LW_storeCA 3 TOK hs rfl rfl rfl rfl rfl (eS_ok.2 (namedS (RSt.mk A3 c3 ([] ++ S.th ++ [nt]) S.NA S.nc S.na S.LA S.lc S.la S.CA S.cc S.ch) ch A5 c5 A6 c6)) rfl (Nat.le_of_ble_eq_true rfl) ?_; clear hs; intro w hs) | (refine LW_storeC 3 TOK hs rfl rfl rfl rfl rfl rfl rfl ?_; clear hs; intro w hs)) | (refine isLcall ?_; first | (refine LW_call (cap := []) rfl rfl ent84 (rfind_call _ S.na S.NA S.nc o.a (rd.na.of hs) (by omega)) ?_; rintro _ w2 ⟨rfl, hs2⟩; replace hs := hs.and0 hs2; clear hs2; rw [hpl]; dsimp only [optE]) | (refine LW_append 4 (xs := ([] : List RTh)) (ys := S.th) eT_ok.1 hs TOK rfl rfl (rd.th.of hs) eT_ok.2 rfl rfl rfl rfl rfl rfl rfl (by unfold maxLen; omega) (by simp only []; omega) ?_; clear hs; intro A2 c2 w hs) | (refine LW_append1 4 eT_ok (z := nt) hs TOK rfl rfl hen rfl rfl rfl rfl rfl rfl rfl (by unfold maxLen; omega) (by simp only []; omega) ?_; clear hs; intro A3 c3 w hs) | (refine LW_call (cap := []) rfl rfl ent102 (by have : Calls Try.prog 102 [Value.agg (eS (RSt.mk A3 c3 ([] ++ S.th ++ [nt]) S.NA S.nc S.na S.LA S.lc S.la S.CA S.cc S.ch)).toArray, .agg (eCh ch).toArray].toArray _ _ := named_call _ (RSt.mk A3 c3 ([] ++ S.th ++ [nt]) S.NA S.nc S.na S.LA S.lc S.la S.CA S.cc S.ch) ch (rd.na.of hs) (rd.ch.of hs) (by dsimp only; omega) (by dsimp only; omega) hokc hm hids; rw [hec] at this; exact this) ?_; rintro _ w2 ⟨A5, c5, A6, c6, rfl, hs2⟩; replace hs := hs.andThen hs2; clear hs2) | refine LW_pure TOK rfl ?_) | (refine isLbin ?_; first | refine LW_i64 rfl (by omega) (by omega) ?_ | (refine LW_cmp rfl (fun _ => ?_) (fun _ => ?_) <;> try (exfalso; omega))) | refine LW_pure TOK rfl ?_ | (refine LW_box hs rfl rfl ?_; clear hs; intro _ w hs) | (refine LW_alloc TOK hs rfl rfl ?_; clear hs; intro _ w hs) | (refine LW_buildSlice TOK hs rfl rfl rfl rfl rfl rfl rfl ?_; clear hs; intro _ w hs) | refine LW_build TOK rfl rfl rfl rfl rfl rfl ?_) | (with_reducible first | refine then_n ?_ | refine CW_seq ?_ | refine CW_region ?_ | refine CW_block ?_ | refine CW_skip ?_ | refine CW_ret ?_ | refine then_r ?_ | refine blk_r ?_) | refine RETA 3 hs TOK Try.results94 rfl rfl rfl rfl rfl ?_ | refine CW_true rfl ?_ | refine CW_false rfl ?_))
  have hS : (RSt.mk A3 c3 ([] ++ S.th ++ [nt]) S.NA S.nc S.na S.LA S.lc S.la S.CA S.cc S.ch) = { S with TA := A3, tc := c3, th := S.th ++ [(⟨none, 0, [], 0, true⟩ : RTh)] } := by rw [← hnt]; rfl
  refine ⟨namedS { S with TA := A3, tc := c3, th := S.th ++ [(⟨none, 0, [], 0, true⟩ : RTh)] } ch A5 c5 A6 c6, [RowOf eT 111 3 A3 c3 (S.th ++ [nt]), RowOf eE 113 2 A5 c5 (doC S.na ch), RowOf eCh 121 4 A6 c6 (S.ch ++ [ch])], by rw [← hS]; rfl, ?_, ?_, ?_⟩
  · rw [← hchg]; exact rep.made good o.a
  · refine ⟨?_, fun t ht => ?_, .here (by simp [namedS]), ins.la.more _, .here (by simp [namedS])⟩
    · exact .here (by rw [← hnt]; simp [namedS])
    · rcases List.mem_append.1 (show t ∈ S.th ++ [(⟨none, 0, [], 0, true⟩ : RTh)] from ht) with ht | ht
      · exact (ins.data t ht).more _
      · simp at ht; subst ht; exact .inl rfl
  · exact Sat.mkBig (l := [RowOf eT 111 3 A3 c3 (S.th ++ [nt]), RowOf eE 113 2 A5 c5 (doC S.na ch), RowOf eCh 121 4 A6 c6 (S.ch ++ [ch])]) (r := []) (Sat.keeps hs [6, 0, 0])
/-- A file found. -/
theorem ActH.found (h : ActH W D S pool o) (h1 : (D.find o.a).1 = 0) : ∃ j, placeE S.na o.a = some j ∧ j < S.na.length ∧ (Go.Sl.rd S.na (j : Int)).2 = (D.find o.a).2 ∧ (D.find o.a).2 < S.th.length ∧ (D.find o.a).2 ∈ D.ids := by
  have hf := (find_ok h1).2.2
  rcases placeE_fnd (l := S.na) (n := o.a) with ⟨_, g⟩ | ⟨j, g1, g2, g3⟩
  · rw [h.rep.na, hf] at g; cases g
  · rw [h.rep.na] at g3 g2
    rw [hf] at g3
    refine ⟨j, g1, by rw [h.rep.na]; exact g2, ?_, by rw [h.rep.len]; exact h.good.ltFnd hf, h.good.findId h1⟩
    rw [h.rep.na, rd_at g2]
    have e0 : D.now.getD j default = D.now[j] := by simp [List.getD, g2]
    rw [e0] at g3
    exact (Option.some.inj g3).symm
/-- The state behind a file's turn. -/
theorem actP_set (h : ActH W D S pool o) {i : Nat} (hi : i ∈ D.ids) {f : Fl} {t : RTh} {rows : List HProp} {w' : World} {A : Option Addr} {c : Nat} (hd : t.d = f.data) (hs : t.syn = f.syn) (ht : t.there = true) (hin : inRow (rows ++ pool) eB 5 1 t.A t.c t.d) (hr : RowOf eT 111 3 A c (S.th.set i t) ∈ rows) (hsat : Sat W w' [Big rows]) :
    ActP W (D.setF i f) pool (.agg (eS { S with TA := A, tc := c, th := S.th.set i t }).toArray) w' := by
  refine ⟨_, rows, rfl, h.rep.set h.good hi f hd hs ht, ⟨.here hr, fun x hx => ?_, h.ins.na.more _, h.ins.la.more _, h.ins.ch.more _⟩, hsat⟩
  rcases List.mem_or_eq_of_mem_set (show x ∈ S.th.set i t from hx) with hx | rfl
  · exact (h.ins.data x hx).more _
  · exact hin
set_option maxHeartbeats 4000000 in
theorem ract2 (h : ActH W D S pool o) (hk : o.kind = 2) (h0 : (D.append o.a o.data).1 = 0) : Calls Try.prog 94 [Value.agg (eS S).toArray, .agg (eA o).toArray].toArray W (Ret (ActP W (D.append o.a o.data).2 pool)) := by
  refine Calls_of Try.func94 rfl 125 Try.ntmps94 rfl ?_
  have hs := Sat.start W
  have hcr : (D.append o.a o.data) = (0, D.setF (D.find o.a).2 ⟨D.dat (D.find o.a).2 ++ o.data, (D.fl (D.find o.a).2).syn⟩) ∧ (D.find o.a).1 = 0 ∧ o.data.length ≤ 4194304 := by
    unfold DS.append at h0 ⊢
    split at h0
    · rename_i h1
      rw [if_pos h1]
      split at h0
      · cases h0
      · rename_i h2
        rw [if_neg h2, turn_none h.left, if_pos rfl]
        refine ⟨rfl, h1, ?_⟩
        have := h.good.quota
        unfold DS.free at h2
        split at h2 <;> omega
    · rename_i h1; exact absurd h0 h1
  obtain ⟨hcr, hf1, hdl⟩ := hcr
  rw [hcr]
  obtain ⟨j, g1, g2, g3, g4, g5⟩ := h.found hf1
  have h' := h
  obtain ⟨rd, ins, rep, good, left, rdD, hfs, hnow, hchs⟩ := h'
  have hna : S.na.length ≤ 1099511627776 := by rw [rep.na]; exact hnow
  have hth : S.th.length ≤ 1099511627776 := by rw [rep.len]; exact hfs
  obtain ⟨i, hi⟩ : ∃ i, (D.find o.a).2 = i := ⟨_, rfl⟩
  rw [hi] at g3 g4 g5 ⊢
  obtain ⟨_, e1, e2, e3⟩ := rep.get good g5
  have hru := rd_at g4
  have hrdd := rd.data _ (List.getElem_mem g4)
  have hbd := dat_bd good g5
  obtain ⟨t, ht⟩ : ∃ t, S.th[i] = t := ⟨_, rfl⟩
  rw [ht] at e1 e2 e3 hru hrdd
  rw [← e1] at hbd
  have hru2 : Go.Sl.rd S.th ((Go.Sl.rd S.na (j : Int)).2 : Int) = t := by rw [g3]; exact hru
  have hlt : (Go.Sl.rd S.na (j : Int)).2 < S.th.length := by rw [g3]; exact g4
  have rdn := rd.na
  have rdt := rd.th
  unfold eA
  rw [hk]
  (repeat' (first | (refine isLW ?_; first | refine LW_nil ?_ | (refine isLload ?_; first | refine LW_loadRdA (vs := eT t) (rdt.of hs) (fun _ => rfl) TOK rfl (by assumption) rfl rfl rfl (by omega) (by omega) (by rw [hru2]) ?_ | refine LW_loadCAE 1 (eT ⟨A3, c3, t.d ++ o.data, t.syn, t.there⟩) TOK hs rfl rfl rfl rfl (Nat.le_of_ble_eq_true rfl) rfl ?_ | refine LW_loadCAE 5 (eS (RSt.mk A5 c5 (S.th.set (Go.Sl.rd S.na (j : Int)).2 ⟨A3, c3, t.d ++ o.data, t.syn, t.there⟩) S.NA S.nc S.na S.LA S.lc S.la S.CA S.cc S.ch)) TOK hs rfl rfl rfl rfl (Nat.le_of_ble_eq_true rfl) rfl ?_ | refine LW_loadC 0 TOK hs rfl rfl rfl rfl rfl ?_ | refine LW_loadC 1 TOK hs rfl rfl rfl rfl rfl ?_ | refine LW_loadC 2 TOK hs rfl rfl rfl rfl rfl ?_ | refine LW_loadC 3 TOK hs rfl rfl rfl rfl rfl ?_ | refine LW_loadC 4 TOK hs rfl rfl rfl rfl rfl ?_ | refine LW_loadRd (rdn.of hs) (fun _ => rfl) TOK rfl (by assumption) rfl rfl (by omega) (by omega) rfl ?_) | (refine isLstore ?_; first | (refine LW_storeCA 0 TOK hs rfl rfl rfl rfl rfl (eT_ok.2 t) rfl (Nat.le_of_ble_eq_true rfl) ?_; clear hs; intro w hs) | (refine LW_storeCA 3 TOK hs rfl rfl rfl rfl rfl (eS_ok.2 (RSt.mk A5 c5 (S.th.set (Go.Sl.rd S.na (j : Int)).2 ⟨A3, c3, t.d ++ o.data, t.syn, t.there⟩) S.NA S.nc S.na S.LA S.lc S.la S.CA S.cc S.ch)) rfl (Nat.le_of_ble_eq_true rfl) ?_; clear hs; intro w hs) | (refine LW_storeC 1 TOK hs rfl rfl rfl rfl rfl rfl rfl ?_; clear hs; intro w hs) | (refine LW_storeC 5 TOK hs rfl rfl rfl rfl rfl rfl rfl ?_; clear hs; intro w hs)) | (refine isLcall ?_; first | (refine LW_call (cap := []) rfl rfl ent84 (rfind_call _ S.na S.NA S.nc o.a (rdn.of hs) (by omega)) ?_; rintro _ w2 ⟨rfl, hs2⟩; replace hs := hs.and0 hs2; clear hs2; rw [g1]; dsimp only [optE]) | (refine LW_call (cap := []) rfl rfl ent63 (part_call _ t.d t.A t.c t.d.length (hrdd.of hs) (Nat.le_refl _) (by omega)) ?_; rw [List.take_length]; rintro _ w2 ⟨A2, c2, rfl, hs2⟩; replace hs := hs.and1 hs2; clear hs2) | (refine LW_append 0 (xs := t.d) (ys := o.data) eB_ok.1 hs TOK rfl rfl (rdD.of hs) eB_ok.2 rfl rfl rfl rfl rfl rfl rfl (by unfold maxLen; omega) (by simp only []; omega) ?_; clear hs; intro A3 c3 w hs) | (refine LW_call (cap := []) rfl rfl ent103 (set_call _ S.th S.TA S.tc (Go.Sl.rd S.na (j : Int)).2 ⟨A3, c3, t.d ++ o.data, t.syn, t.there⟩ (rdt.of hs) (by omega) hlt) ?_; rintro _ w2 ⟨A5, c5, rfl, hs2⟩; replace hs := hs.and1 hs2; clear hs2) | refine LW_pure TOK rfl ?_) | (refine isLidx ?_; first | (refine LW_indexRd (rdn.of hs) TOK rfl rfl rfl rfl rfl (by omega) (by omega) ?_; intro _ _ _) | (refine LW_indexRd (rdt.of hs) TOK rfl rfl rfl rfl rfl (by omega) (by omega) ?_; intro _ _ _)) | (refine isLbin ?_; first | (refine LW_cmp rfl (fun _ => ?_) (fun _ => ?_) <;> try (exfalso; omega))) | refine LW_pure TOK rfl ?_ | (refine LW_box hs rfl rfl ?_; clear hs; intro _ w hs) | (refine LW_alloc TOK hs rfl rfl ?_; clear hs; intro _ w hs)) | (with_reducible first | refine then_n ?_ | refine CW_seq ?_ | refine CW_region ?_ | refine CW_block ?_ | refine CW_ret ?_ | refine blk_n ?_) | refine RETA 3 hs TOK Try.results94 rfl rfl rfl rfl rfl ?_ | refine CW_true rfl ?_ | refine CW_false rfl ?_))
  rw [g3] at hs
  have hfin := actP_set h g5 (f := ⟨D.dat i ++ o.data, (D.fl i).syn⟩) (t := ⟨A3, c3, t.d ++ o.data, t.syn, t.there⟩) (rows := [RowOf eT 111 3 A5 c5 (S.th.set i ⟨A3, c3, t.d ++ o.data, t.syn, t.there⟩), RowOf eB 5 1 A3 c3 (t.d ++ o.data)]) (w' := w) (A := A5) (c := c5) (by rw [e1]) e2 e3 (.here (by simp)) (by simp) (Sat.mkBig (r := []) (Sat.keeps hs [0, 0]))
  rw [g3]
  exact hfin
end
end Go.Proofs.Ytoodgenbcfdloaa
