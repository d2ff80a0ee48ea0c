/- The document's disk; walks: changed, left, set, taken. -/
import Derived.Test.YtoodgenbcfdloaaQ2
set_option linter.unusedVariables false
set_option linter.unusedSimpArgs false
namespace Go.Proofs.Ytoodgenbcfdloaa
open Go Go.Sl Go.RowKit
set_option maxRecDepth 100000
attribute [local irreducible] CW LW DW FR DP Calls

theorem changed_call (W : World) (l : Names) (A : Option Addr) (c : Nat) (ch : Chg) (ra : Rd eE W A l) (hl : l.length ≤ 2199023255552) (hok : okC l ch) (hm : ch.made.getD 0 ≤ 4611686018427387904) (hf : ∀ p ∈ l, p.2 ≤ 4611686018427387904) :
    Calls Try.prog 67 [Value.slice A l.length c, .agg (eCh ch).toArray].toArray W (Ret fun v w' => ∃ A' c', v = .slice A' (doC l ch).length c' ∧ Sat W w' [RowOf eE 113 2 A' c' (doC l ch)]) := by
  refine Calls_of Try.func67 rfl 42 Try.ntmps67 rfl ?_
  have hs := Sat.start W
  rcases hok with ⟨h1, h2, h3, h4⟩ | ⟨h1, h2, h3, h4⟩
  · obtain ⟨i, hi⟩ := Option.isSome_iff_exists.1 h2
    have he : eCh ch = [.int .i64 1, sv ch.b, sv [], .int .i64 (i : Int)] := by
      unfold eCh kindC; rw [if_pos h1, if_pos h1, if_pos h1, hi]; rfl
    have hd : doC l ch = wi l ch.b i := by
      unfold doC; dsimp only; rw [if_pos h1, if_pos h1, hi, if_neg (pathB_ne h3)]
    rw [hi] at hm
    rw [he, hd]
    (repeat' (first | (refine isLW ?_; first | refine LW_nil ?_ | (refine isLload ?_; first | refine LW_loadC 0 TOK hs rfl rfl rfl rfl rfl ?_) | (refine isLcall ?_; first | (refine LW_call (cap := []) rfl rfl ent81 (with_call _ l A c ch.b i (ra.of hs) hl hm) ?_; rintro _ w2 ⟨AR, cr, rfl, hs2⟩; replace hs := hs.and1 hs2; clear hs2)) | (refine isLbin ?_; first | (refine LW_cmp rfl (fun _ => ?_) (fun _ => ?_) <;> try (exfalso; omega))) | refine LW_pure TOK rfl ?_ | (refine LW_box hs rfl rfl ?_; clear hs; intro _ w hs)) | (with_reducible first | refine then_n ?_ | refine CW_seq ?_ | refine CW_region ?_ | refine CW_block ?_ | refine CW_ret ?_ | refine then_r ?_ | refine blk_r ?_) | refine CW_true rfl ?_ | refine RET1 Try.results67 rfl ?_))
    exact ⟨AR, cr, rfl, hs.only 0 rfl⟩
  · have ha := pathB_ne h1
    obtain ⟨f, hfn⟩ := Option.isSome_iff_exists.1 h3
    by_cases hb : ch.b = []
    · have he : eCh ch = [.int .i64 3, sv ch.a, sv [], .int .i64 0] := by
        unfold eCh kindC; rw [if_neg ha, if_pos hb, if_neg ha, if_neg ha, h2, hb]; rfl
      have hd : doC l ch = wo l ch.a := by
        unfold doC; dsimp only; rw [if_neg ha, if_pos hb]
      rw [he, hd]
      (repeat' (first | (refine isLW ?_; first | refine LW_nil ?_ | (refine isLload ?_; first | refine LW_loadC 0 TOK hs rfl rfl rfl rfl rfl ?_) | (refine isLcall ?_; first | (refine LW_call (cap := []) rfl rfl ent85 (without_call _ l A c ch.a (ra.of hs) (by omega)) ?_; rintro _ w2 ⟨AR, cr, rfl, hs2⟩; replace hs := hs.and1 hs2; clear hs2)) | (refine isLbin ?_; first | (refine LW_cmp rfl (fun _ => ?_) (fun _ => ?_) <;> try (exfalso; omega))) | refine LW_pure TOK rfl ?_ | (refine LW_box hs rfl rfl ?_; clear hs; intro _ w hs)) | (with_reducible first | refine then_n ?_ | refine CW_seq ?_ | refine CW_region ?_ | refine CW_block ?_ | refine CW_skip ?_ | refine CW_ret ?_ | refine blk_n ?_) | refine CW_false rfl ?_ | refine RET1 Try.results67 rfl ?_))
      exact ⟨AR, cr, rfl, hs.only 0 rfl⟩
    · have he : eCh ch = [.int .i64 2, sv ch.a, sv ch.b, .int .i64 0] := by
        unfold eCh kindC; rw [if_neg ha, if_neg hb, if_neg ha, if_neg ha, h2]; rfl
      have hd : doC l ch = wi (wo l ch.a) ch.b f := by
        unfold doC; dsimp only; rw [if_neg ha, if_neg hb, if_neg ha, hfn]
      rcases placeE_fnd (l := l) (n := ch.a) with ⟨_, g2⟩ | ⟨i, g1, g2, g3⟩
      · rw [g2] at hfn; cases hfn
      have hru := rd_at g2
      have e0 : l.getD i default = l[i] := by simp [List.getD, g2]
      have hfi : l[i].2 = f := by rw [hfn, e0] at g3; cases g3; rfl
      have hfb : f ≤ 4611686018427387904 := hfi ▸ hf _ (List.getElem_mem g2)
      have hwl : (wo l ch.a).length ≤ l.length := List.length_filter_le _ _
      have hrf : (rd l (i : Int)).2 = f := by rw [hru, hfi]
      rw [he, hd]
      (repeat' (first | (refine isLW ?_; first | refine LW_nil ?_ | (refine isLload ?_; first | refine LW_loadC 1 TOK hs rfl rfl rfl rfl rfl ?_ | refine LW_loadC 0 TOK hs rfl rfl rfl rfl rfl ?_ | refine LW_loadRd (ra.of hs) (fun _ => rfl) TOK rfl (by assumption) rfl rfl (by omega) (by omega) rfl ?_) | (refine isLcall ?_; first | (refine LW_call (cap := []) rfl rfl ent84 (rfind_call _ l A c ch.a (ra.of hs) (by omega)) ?_; rintro _ w2 ⟨rfl, hs2⟩; replace hs := hs.and0 hs2; clear hs2; rw [g1]; dsimp only [optE]) | (refine LW_call (cap := []) rfl rfl ent85 (without_call _ l A c ch.a (ra.of hs) (by omega)) ?_; rintro _ w2 ⟨AR, cr, rfl, hs2⟩; replace hs := hs.and1 hs2; clear hs2) | (refine LW_call (cap := []) rfl rfl ent81 (by have := with_call _ (wo l ch.a) AR cr ch.b f (hs.rd 0 rfl) (by omega) hfb; rw [← hrf] at this; exact this) ?_; rintro _ w2 ⟨A5, c5, rfl, hs2⟩; replace hs := hs.and1 hs2; clear hs2)) | (refine isLidx ?_; first | (refine LW_indexRd (ra.of hs) TOK rfl rfl rfl rfl rfl (by omega) (by omega) ?_; intro _ _ _)) | (refine isLbin ?_; first | (refine LW_cmp rfl (fun _ => ?_) (fun _ => ?_) <;> try (exfalso; omega))) | refine LW_pure TOK rfl ?_ | (refine LW_box hs rfl rfl ?_; clear hs; intro _ w hs)) | (with_reducible first | refine then_n ?_ | refine CW_seq ?_ | refine CW_region ?_ | refine CW_block ?_ | refine CW_ret ?_ | refine then_r ?_ | refine blk_r ?_) | refine CW_true rfl ?_ | refine CW_false rfl ?_ | refine RET1 Try.results67 rfl ?_))
      rw [hrf] at hs ⊢
      exact ⟨A5, c5, rfl, hs.only 0 rfl⟩
theorem left_call (W : World) (t : RTh) (p : Int × Int) (ra : Rd eB W t.A t.d) (hsy : t.syn ≤ t.d.length) (hd : t.d.length ≤ 4611686018427) :
    Calls Try.prog 68 [Value.agg (eT t).toArray, .agg (eP p).toArray].toArray W (Ret fun v w' => ∃ A' c', v = .slice A' (leftF ⟨t.d, t.syn⟩ p).length c' ∧ Sat W w' [RowOf eB 5 1 A' c' (leftF ⟨t.d, t.syn⟩ p)]) := by
  refine Calls_of Try.func68 rfl 42 Try.ntmps68 rfl ?_
  have hs := Sat.start W
  have hlf : leftF ⟨t.d, t.syn⟩ p = t.d.take (t.syn + (clamp p.1 0 ((t.d.length : Int) - t.syn)).toNat) ++ List.replicate (clamp p.2 0 ((t.d.length : Int) - t.syn - clamp p.1 0 ((t.d.length : Int) - t.syn))).toNat 0 := rfl
  have k0 := clamp_in p.1 ((t.d.length : Int) - t.syn) (by omega)
  have z0 := clamp_in p.2 ((t.d.length : Int) - t.syn - clamp p.1 0 ((t.d.length : Int) - t.syn)) (by omega)
  obtain ⟨k, hk⟩ : ∃ k, clamp p.1 0 ((t.d.length : Int) - t.syn) = k := ⟨_, rfl⟩
  rw [hk] at k0 z0 hlf
  obtain ⟨z, hz⟩ : ∃ z, clamp p.2 0 ((t.d.length : Int) - t.syn - k) = z := ⟨_, rfl⟩
  rw [hz] at z0 hlf
  have hti : ((t.syn : Int) + k) = ((t.syn + k.toNat : Nat) : Int) := by omega
  unfold eT eP
  (repeat' (first | (refine isLW ?_; first | refine LW_nil ?_ | (refine isLload ?_; first | refine LW_loadC 0 TOK hs rfl rfl rfl rfl rfl ?_ | refine LW_loadC 1 TOK hs rfl rfl rfl rfl rfl ?_) | (refine isLcall ?_; first | (refine LW_call (cap := []) rfl rfl ent66 (into_call _ p.1 0 ((t.d.length : Int) - t.syn) (by omega)) ?_; rintro _ _ ⟨rfl, rfl⟩; rw [hk]) | (refine LW_call (cap := []) rfl rfl ent66 (into_call _ p.2 0 ((t.d.length : Int) - t.syn - k) (by omega)) ?_; rintro _ _ ⟨rfl, rfl⟩; rw [hz]) | (refine LW_call (cap := []) rfl rfl ent63 (by have := part_call _ t.d t.A t.c (t.syn + k.toNat) (ra.of hs) (by omega) (by omega); rw [← hti] at this; exact this) ?_; rintro _ w2 ⟨A2, c2, rfl, hs2⟩; replace hs := hs.and1 hs2; clear hs2) | refine LW_pure TOK rfl ?_) | (refine isLbin ?_; first | refine LW_i64 rfl (by omega) (by omega) ?_) | refine LW_pure TOK rfl ?_ | (refine LW_box hs rfl rfl ?_; clear hs; intro _ w hs)) | (with_reducible first | refine then_n ?_ | refine CW_seq ?_ | refine CW_region ?_ | refine CW_block ?_)))
  obtain ⟨b, hb⟩ : ∃ b, t.d.take (t.syn + k.toNat) = b := ⟨_, rfl⟩
  rw [hb] at hs hlf ⊢
  have hbl : b.length ≤ 4611686018427 := by rw [← hb, List.length_take]; omega
  refine CW_loop (γ := Nat × Option Addr × Nat) (fun g => [(7, .int .i64 z), (8, .slice g.2.1 (b ++ List.replicate g.1 0).length g.2.2), (9, .int .i64 (g.1 : Int))]) (fun g w' => Sat W w' [RowOf eB 5 1 g.2.1 g.2.2 (b ++ List.replicate g.1 0)] ∧ (g.1 : Int) ≤ z) (fun g => z.toNat - g.1) (0, A2, c2) ⟨rfl, by dsimp only; rw [List.replicate_zero, List.append_nil]; rfl, rfl, trivial⟩ ⟨by dsimp only; rw [List.replicate_zero, List.append_nil]; exact hs.only 0 rfl, by dsimp only; omega⟩ ?_
  clear hs
  rintro ⟨j, A4, c4⟩ τ w ⟨hs, h3⟩
  try dsimp only at hs h3 ⊢
  have hjl : (b ++ List.replicate j (0 : UInt8)).length = b.length + j := by simp
  by_cases hlt : (j : Int) < z
  · have hnx : b ++ List.replicate (j + 1) (0 : UInt8) = (b ++ List.replicate j 0) ++ [0] := by rw [List.replicate_succ', List.append_assoc]
    (repeat' (first | (refine isLW ?_; first | refine LW_nil ?_ | (refine isLcall ?_; first | (refine LW_append1 0 eB_ok (z := (0 : UInt8)) hs TOK rfl rfl rfl rfl rfl rfl rfl rfl rfl rfl (by unfold maxLen; omega) (by simp only []; omega) ?_; clear hs; intro A5 c5 w hs)) | (refine isLbin ?_; first | refine LW_i64 rfl (by omega) (by omega) ?_ | (refine LW_cmp rfl (fun _ => ?_) (fun _ => ?_) <;> try (exfalso; omega))) | refine LW_pure TOK rfl ?_ | (refine LW_buildSlice TOK hs rfl rfl rfl rfl rfl rfl rfl ?_; clear hs; intro _ w hs)) | (with_reducible first | refine then_n ?_ | refine CW_seq ?_ | refine CW_region ?_ | refine CW_block ?_ | refine CW_skip ?_ | refine blk_n ?_) | refine CW_true rfl ?_))
    exact ⟨(j + 1, A5, c5), _, FR_forget _ ⟨rfl, by dsimp only; rw [hnx]; rfl, by push_cast; rfl, trivial⟩, ⟨by dsimp only; rw [hnx]; exact hs, by dsimp only; omega⟩, by dsimp only; omega⟩
  · (repeat' (first | (refine isLW ?_; first | refine LW_nil ?_ | (refine isLbin ?_; first | (refine LW_cmp rfl (fun _ => ?_) (fun _ => ?_) <;> try (exfalso; omega))) | refine LW_pure TOK rfl ?_) | (with_reducible first | refine then_n ?_ | refine CW_seq ?_ | refine CW_region ?_ | refine CW_exit ?_ | refine CW_ret ?_ | refine then_e ?_ | refine blk_same ?_) | refine CW_false rfl ?_ | refine RET1 Try.results68 rfl ?_))
    have : j = z.toNat := by omega
    subst this
    rw [hlf]
    exact ⟨A4, c4, rfl, hs⟩
theorem set_call (W : World) (l : List RTh) (A : Option Addr) (c : Nat) (f : Nat) (t : RTh) (ra : Rd eT W A l) (hl : l.length ≤ 2199023255552) (hf : f < l.length) :
    Calls Try.prog 103 [Value.slice A l.length c, .int .i64 (f : Int), .agg (eT t).toArray].toArray W (Ret fun v w' => ∃ A' c', v = .slice A' (l.set f t).length c' ∧ Sat W w' [RowOf eT 111 3 A' c' (l.set f t)]) := by
  refine Calls_of Try.func103 rfl 16 Try.ntmps103 rfl ?_
  have hs := (Sat.start W).nilRow 111 3
  have hnl : ([] : List RTh).length = 0 := rfl
  have hnl2 : ([] ++ l : List RTh).length = l.length := rfl
  (repeat' (first | (refine isLW ?_; first | refine LW_nil ?_ | (refine isLload ?_; first | refine LW_loadCAE 0 (eT t) TOK hs rfl rfl rfl rfl (Nat.le_of_ble_eq_true rfl) rfl ?_) | (refine isLstore ?_; first | (refine LW_storeRow 1 eT_ok (z := t) hs TOK rfl (by assumption) rfl rfl rfl rfl rfl (by omega) (by simp; omega) ?_; clear hs; intro w hs)) | (refine isLcall ?_; first | (refine LW_append 1 (xs := ([] : List RTh)) (ys := l) eT_ok.1 hs TOK rfl rfl (ra.of hs) eT_ok.2 rfl rfl rfl rfl rfl rfl rfl (by unfold maxLen; omega) (by simp only []; omega) ?_; clear hs; intro A3 c3 w hs)) | (refine isLidx ?_; first | (refine LW_indexRd (hs.rd 1 rfl) TOK rfl rfl rfl rfl rfl (by omega) (by omega) ?_; intro _ _ _)) | refine LW_pure TOK rfl ?_ | (refine LW_box hs rfl rfl ?_; clear hs; intro _ w hs)) | (with_reducible first | refine then_n ?_ | refine CW_seq ?_ | refine CW_region ?_ | refine CW_ret ?_) | refine RET1 Try.results103 rfl ?_))
  have hs2 : Sat W w [RowOf eT 111 3 A3 c3 (l.set f t)] := hs.only 1 rfl
  refine ⟨A3, c3, ?_, hs2⟩
  rw [List.length_set]; rfl
/-- What the document counts as taken. -/
def takenT (th : List RTh) : Nat := (th.map fun t => if t.there = true then t.d.length else 0).sum
/-- A state of the document's disk, as it lies. -/
structure RSt where
  TA : Option Addr
  tc : Nat
  th : List RTh
  NA : Option Addr
  nc : Nat
  na : Names
  LA : Option Addr
  lc : Nat
  la : Names
  CA : Option Addr
  cc : Nat
  ch : List Chg
  deriving Inhabited
def eS (S : RSt) : List Value := [.slice S.TA S.th.length S.tc, .slice S.NA S.na.length S.nc, .slice S.LA S.la.length S.lc, .slice S.CA S.ch.length S.cc]
theorem eS_ok : (∀ x, (eS x).length = 4) ∧ ∀ x, ∀ u ∈ eS x, u.oneCell' = true := ⟨fun _ => rfl, fun x u h => by
  simp [eS] at h
  rcases h with rfl | rfl | rfl | rfl <;> rfl⟩
theorem takenT_next {th : List RTh} {i : Nat} (h : i < th.length) : takenT (th.take (i + 1)) = takenT (th.take i) + (if th[i].there = true then th[i].d.length else 0) := by
  unfold takenT
  rw [List.take_succ_eq_append_getElem h, List.map_append, List.sum_append]; simp
theorem takenT_le (th : List RTh) (i : Nat) : takenT (th.take i) ≤ takenT th := by
  have : takenT (th.take i) + takenT (th.drop i) = takenT th := by
    unfold takenT
    rw [← List.sum_append, ← List.map_append, List.take_append_drop]
  omega
theorem taken_call (W : World) (S : RSt) (ra : Rd eT W S.TA S.th) (hl : S.th.length ≤ 4611686018427387904) (hb : takenT S.th ≤ 4611686018427387904) :
    Calls Try.prog 101 [Value.agg (eS S).toArray].toArray W (Ret fun v w' => v = .int .i64 (takenT S.th : Int) ∧ Sat W w' []) := by
  refine Calls_of Try.func101 rfl 28 Try.ntmps101 rfl ?_
  have hs := Sat.start W
  (repeat' (first | (refine LW_box hs rfl rfl ?_; clear hs; intro bx w hs) | (refine isLW ?_; first | refine LW_nil ?_ | refine LW_pure TOK rfl ?_) | (with_reducible first | refine then_n ?_ | refine CW_seq ?_ | refine CW_region ?_ | refine CW_block ?_)))
  refine CW_loop (γ := Nat) (fun g => [(1, .pointer (some ⟨bx, 0, none⟩)), (3, .int .i64 (takenT (S.th.take g) : Int)), (4, .int .i64 (g : Int))]) (fun g w' => Sat W w' [Cl bx (eS S) 43] ∧ g ≤ S.th.length) (fun g => S.th.length - g) 0 ⟨rfl, rfl, rfl, trivial⟩ ⟨hs, by omega⟩ ?_
  clear hs
  rintro i τ w ⟨hs, h1⟩
  try dsimp only at hs h1 ⊢
  by_cases hlt : i < S.th.length
  · have hru := rd_at hlt
    have hnx := takenT_next hlt
    have hle := takenT_le S.th (i + 1)
    have hle2 := takenT_le S.th i
    obtain ⟨t, ht⟩ : ∃ t, S.th[i] = t := ⟨_, rfl⟩
    rw [ht] at hru hnx
    by_cases hth : t.there = true
    · rw [if_pos hth] at hnx
      have hg : getA (eT t) 2 = some (.bool true) := by rw [← hth]; rfl
      have hrl : (rd S.th (i : Int)).d.length = t.d.length := by rw [hru]
      (repeat' (first | (refine isLW ?_; first | refine LW_nil ?_ | (refine isLload ?_; first | refine LW_loadRd (v := .bool true) (ra.of hs) (fun _ => rfl) TOK rfl (by assumption) rfl rfl (by omega) (by omega) (by rw [hru]; exact hg) ?_ | refine LW_loadC 0 TOK hs rfl rfl rfl rfl rfl ?_ | refine LW_loadRd (ra.of hs) (fun _ => rfl) TOK rfl (by assumption) rfl rfl (by omega) (by omega) rfl ?_) | (refine isLcall ?_; first | refine LW_pure TOK rfl ?_) | (refine isLidx ?_; first | (refine LW_indexRd (ra.of hs) TOK rfl rfl rfl rfl rfl (by omega) (by omega) ?_; intro _ _ _)) | (refine isLbin ?_; first | refine LW_i64 rfl (by omega) (by omega) ?_ | (refine LW_cmp rfl (fun _ => ?_) (fun _ => ?_) <;> try (exfalso; omega))) | refine LW_pure TOK rfl ?_) | (with_reducible first | refine then_n ?_ | refine CW_seq ?_ | refine CW_region ?_ | refine CW_block ?_ | refine CW_skip ?_ | refine blk_n ?_) | refine CW_true rfl ?_))
      exact ⟨i + 1, _, FR_forget _ ⟨rfl, by rw [hnx, hrl.symm]; push_cast; rfl, by push_cast; rfl, trivial⟩, ⟨hs, hlt⟩, by omega⟩
    · rw [if_neg hth, Nat.add_zero] at hnx
      have hg : getA (eT t) 2 = some (.bool false) := by
        have : t.there = false := by simpa using hth
        rw [← this]; rfl
      (repeat' (first | (refine isLW ?_; first | refine LW_nil ?_ | (refine isLload ?_; first | refine LW_loadRd (v := .bool false) (ra.of hs) (fun _ => rfl) TOK rfl (by assumption) rfl rfl (by omega) (by omega) (by rw [hru]; exact hg) ?_ | refine LW_loadC 0 TOK hs rfl rfl rfl rfl rfl ?_) | (refine isLcall ?_; first | refine LW_pure TOK rfl ?_) | (refine isLidx ?_; first | (refine LW_indexRd (ra.of hs) TOK rfl rfl rfl rfl rfl (by omega) (by omega) ?_; intro _ _ _)) | (refine isLbin ?_; first | refine LW_i64 rfl (by omega) (by omega) ?_ | (refine LW_cmp rfl (fun _ => ?_) (fun _ => ?_) <;> try (exfalso; omega))) | refine LW_pure TOK rfl ?_) | (with_reducible first | refine then_n ?_ | refine CW_seq ?_ | refine CW_region ?_ | refine CW_block ?_ | refine CW_skip ?_ | refine blk_n ?_) | refine CW_true rfl ?_ | refine CW_false rfl ?_))
      exact ⟨i + 1, _, FR_forget _ ⟨rfl, by rw [hnx]; rfl, by push_cast; rfl, trivial⟩, ⟨hs, hlt⟩, by omega⟩
  · (repeat' (first | (refine isLW ?_; first | refine LW_nil ?_ | (refine isLload ?_; first | refine LW_loadC 0 TOK hs rfl rfl rfl rfl rfl ?_) | (refine isLcall ?_; first | refine LW_pure TOK rfl ?_) | (refine isLbin ?_; first | (refine LW_cmp rfl (fun _ => ?_) (fun _ => ?_) <;> try (exfalso; omega))) | refine LW_pure TOK rfl ?_) | (with_reducible first | refine then_n ?_ | refine CW_seq ?_ | refine CW_region ?_ | refine CW_exit ?_ | refine CW_ret ?_ | refine then_e ?_ | refine blk_same ?_) | refine CW_false rfl ?_ | refine RET1 Try.results101 rfl ?_))
    have : S.th.take i = S.th := List.take_of_length_le (by omega)
    rw [this]
    exact ⟨rfl, hs.drop1⟩
end Go.Proofs.Ytoodgenbcfdloaa
