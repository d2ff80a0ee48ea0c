/- The book of lists that were handed out; walks: wipes, spoils. -/
import Derived.Test.YtoodgenbcfdloaaB1
import Derived.Test.YtoodgenbcfdloaaQ4
set_option linter.unusedVariables false
set_option linter.unusedSimpArgs false
namespace Go.Proofs.Ytoodgenbcfdloaa
open Go Go.Sl Go.RowKit
set_option maxRecDepth 100000
attribute [local irreducible] CW LW DW FR DP Calls
/-- A list of names has been kept. -/
def Bk.wiped (b : Bk) (NA : Option Addr) (nc : Nat) (TA : Option Addr) (tc : Nat) (h : Hd) (x : Nm) : Bk := { b with NA := NA, nc := nc, ns := b.ns ++ [h], TA := TA, tc := tc, ts := b.ts ++ [x] }
theorem BkOK.wiped {b : Bk} {pool : List HProp} (k : BkOK b pool) (NA : Option Addr) (nc : Nat) (TA : Option Addr) (tc : Nat) {h : Hd} {x : Nm} (hh : h.2.1 ≤ 1099511627776) (hx : x.length ≤ 13) : BkOK (b.wiped NA nc TA tc h x) pool :=
  { lm := k.lm, fs := k.fs
    nt := by show (b.ts ++ [x]).length = (b.ns ++ [h]).length; rw [List.length_append, List.length_append, k.nt]; rfl
    hl := k.hl, il := k.il
    jl := by show _ ≤ (b.ns ++ [h]).length; rw [List.length_append]; exact Nat.le_add_right_of_le k.jl
    dl := k.dl, df := k.df
    dn := k.dn.ext k.jl k.nt
    ll := k.ll, fl := k.fl
    nl := fun y hy => by
      rcases List.mem_append.1 hy with hy | hy
      · exact k.nl y hy
      · rw [List.mem_singleton.1 hy]; exact hh
    sl := k.sl
    tl := fun y hy => by
      rcases List.mem_append.1 hy with hy | hy
      · exact k.tl y hy
      · rw [List.mem_singleton.1 hy]; exact hx
    gl := k.gl, gi := k.gi, gj := k.gj }
/-- A list of files has been kept. -/
def Bk.spoilt (b : Bk) (FA : Option Addr) (fc : Nat) (SA : Option Addr) (sc : Nat) (h : Hd) (x : Nm) : Bk := { b with FA := FA, fc := fc, fs := b.fs ++ [h], SA := SA, sc := sc, ss := b.ss ++ [x] }
theorem BkOK.spoilt {b : Bk} {pool : List HProp} (k : BkOK b pool) (FA : Option Addr) (fc : Nat) (SA : Option Addr) (sc : Nat) {h : Hd} {x : Nm} (hh : h.2.1 ≤ 1099511627776) (hx : x.length ≤ 13) : BkOK (b.spoilt FA fc SA sc h x) pool :=
  { lm := k.lm
    fs := by show (b.ss ++ [x]).length = (b.fs ++ [h]).length; rw [List.length_append, List.length_append, k.fs]; rfl
    nt := k.nt, hl := k.hl
    il := by show _ ≤ (b.fs ++ [h]).length; rw [List.length_append]; exact Nat.le_add_right_of_le k.il
    jl := k.jl, dl := k.dl
    df := k.df.ext k.il k.fs
    dn := k.dn, ll := k.ll
    fl := fun y hy => by
      rcases List.mem_append.1 hy with hy | hy
      · exact k.fl y hy
      · rw [List.mem_singleton.1 hy]; exact hh
    nl := k.nl
    sl := fun y hy => by
      rcases List.mem_append.1 hy with hy | hy
      · exact k.sl y hy
      · rw [List.mem_singleton.1 hy]; exact hx
    tl := k.tl, gl := k.gl, gi := k.gi, gj := k.gj }
theorem set_fullN {x : List Nm} {m : Nm} {i : Nat} (h : x.take i = List.replicate i m) (hi : i < x.length) : (x.set i m).take (i + 1) = List.replicate (i + 1) m := by
  rw [List.take_add_one, List.take_set_of_le (Nat.le_refl _), h, List.getElem?_set_self hi, List.replicate_succ']; rfl
set_option maxHeartbeats 4000000 in
theorem wipes_call (W w : World) (L : List HProp) (bb : Nat) (b : Bk) (pool : List HProp) (A : Option Addr) (c : Nat) (y : List Nm) (hs : Sat W w (RowOf eN 9 1 A c y :: (b.L bb pool ++ L))) (ok : BkOK b pool) (hl : b.ns.length ≤ 1000000000) (hy : y.length ≤ 1099511627776) :
    Calls Try.prog 42 [Value.pointer (some ⟨bb, 0, none⟩), .slice A y.length c].toArray w (Ret fun v w' => v = .tuple #[] ∧ ∃ NA nc TA tc m, m.length ≤ 13 ∧ Sat W w' ((b.wiped NA nc TA tc (A, y.length, c) m).L bb pool ++ L)) := by
  refine Calls_of Try.func42 rfl 42 Try.ntmps42 rfl ?_
  have hnt := ok.nt
  (repeat' (first | (refine isLW ?_; first | refine LW_nil ?_ | (refine isLload ?_; first | refine LW_loadC 1 TOK hs rfl rfl rfl rfl rfl ?_) | (refine isLcall ?_; first | (refine LW_call (cap := []) rfl rfl ent74 (word_call W _ _ _ hs (by omega)) ?_; clear hs; rintro _ w ⟨m, rfl, hm, hs⟩) | refine LW_pure TOK rfl ?_) | refine LW_pure TOK rfl ?_) | (with_reducible first | refine then_n ?_ | refine CW_seq ?_ | refine CW_region ?_ | refine CW_block ?_)))
  refine CW_loop (γ := Nat × List Nm) (fun g => [(0, .pointer (some ⟨bb, 0, none⟩)), (1, .slice A y.length c), (4, sv m), (5, .int .i64 (g.1 : Int))])
    (fun g w' => Sat W w' (RowOf eN 9 1 A c g.2 :: (b.L bb pool ++ L)) ∧ g.2.length = y.length ∧ g.1 ≤ y.length ∧ g.2.take g.1 = List.replicate g.1 m) (fun g => y.length - g.1) (0, y) ⟨rfl, rfl, rfl, rfl, trivial⟩ ⟨hs, rfl, Nat.zero_le _, rfl⟩ ?_
  clear hs
  rintro ⟨i, x⟩ τ w ⟨hs, hx, hi, hr⟩
  dsimp only at hs hx hi hr ⊢
  by_cases hil : i < y.length
  · (repeat' (first | (refine isLW ?_; first | refine LW_nil ?_ | (refine isLstore ?_; first | (refine LW_storeRow 0 eN_ok (z := m) hs TOK rfl (by assumption) rfl rfl rfl rfl rfl (by omega) (by omega) ?_; clear hs; intro w hs)) | (refine isLcall ?_; first | refine LW_pure TOK rfl ?_) | (refine isLidx ?_; first | (refine LW_indexRdN (hs.rd 0 rfl) TOK rfl rfl rfl rfl rfl (by omega) (by omega) (by omega) ?_; intro _ _ _)) | (refine isLbin ?_; first | refine LW_i64 rfl (by omega) (by omega) ?_ | (refine LW_cmp rfl (fun _ => ?_) (fun _ => ?_) <;> try (exfalso; omega))) | refine LW_pure TOK rfl ?_) | (with_reducible first | refine then_n ?_ | refine CW_seq ?_ | refine CW_region ?_ | refine CW_block ?_ | refine CW_skip ?_ | refine blk_n ?_) | refine CW_true rfl ?_))
    exact ⟨(i + 1, x.set i m), _, FR_forget _ ⟨rfl, rfl, rfl, (by push_cast; rfl), trivial⟩, ⟨hs, by simpa using hx, hil, set_fullN hr (by omega)⟩, by dsimp only; omega⟩
  · have hxm : x = List.replicate y.length m := by
      have hib : i = y.length := by omega
      rw [hib, List.take_of_length_le (by omega)] at hr
      exact hr
    subst hxm
    (repeat' (first | (refine isLW ?_; first | refine LW_nil ?_ | (refine isLload ?_; first | refine LW_loadC 1 TOK hs rfl rfl rfl rfl rfl ?_) | (refine isLstore ?_; first | (refine LW_storeC 1 TOK hs rfl rfl rfl rfl rfl rfl rfl ?_; clear hs; intro w hs)) | (refine isLcall ?_; first | (refine LW_append1 5 (z := ((A, y.length, c) : Hd)) eH_ok hs TOK rfl rfl rfl rfl rfl rfl rfl rfl rfl rfl (by unfold maxLen; omega) (by simp only []; omega) ?_; clear hs; intro NA nc w hs) | (refine LW_append1 7 (z := m) eN_ok hs TOK rfl rfl rfl rfl rfl rfl rfl rfl rfl rfl (by unfold maxLen; omega) (by simp only []; omega) ?_; clear hs; intro TA tc w hs) | refine LW_pure TOK rfl ?_) | (refine isLbin ?_; first | (refine LW_cmp rfl (fun _ => ?_) (fun _ => ?_) <;> try (exfalso; omega))) | refine LW_pure TOK rfl ?_ | (refine LW_buildSlice TOK hs rfl rfl rfl rfl rfl rfl rfl ?_; clear hs; intro _ w hs)) | (with_reducible first | refine then_n ?_ | refine CW_seq ?_ | refine CW_region ?_ | refine CW_exit ?_ | refine then_e ?_ | refine blk_same ?_) | refine CW_false rfl ?_ | refine RET0 Try.results42 ?_))
    have hs0 : Sat W w (OwnN ((A, y.length, c), m) :: Cl bb (b.wiped NA nc TA tc (A, y.length, c) m).C 79 :: RowOf eH 23 1 b.LA b.lc b.ls :: RowOf eB 5 1 b.MA b.mc b.ms :: RowOf eH 22 1 b.FA b.fc b.fs :: RowOf eH 72 1 NA nc (b.ns ++ [(A, y.length, c)]) :: RowOf eN 9 1 b.SA b.sc b.ss :: RowOf eN 9 1 TA tc (b.ts ++ [m]) :: RowOf eH 23 1 b.HA b.hc b.hh :: RowOf eH 22 1 b.IA b.ic b.ii :: RowOf eH 72 1 b.JA b.jc b.jj :: Big (ownL OwnB b.ls b.ms b.hh.length) :: Big (ownL OwnF b.fs b.ss b.ii.length) :: Big (ownL OwnN b.ns b.ts b.jj.length) :: Big pool :: L) := hs
    clear hs
    have h1 := Sat.snocB (hs0.picks [0, 12])
    rw [← ownL_snoc hnt ok.jl] at h1
    exact ⟨rfl, NA, nc, TA, tc, m, hm, h1.picks [1, 1, 1, 1, 1, 1, 1, 1, 1, 1, 1, 1, 0]⟩
/-- The files of a list, the first ones named anew. -/
def rsw (rs : List RF) (x : Nm) (i : Nat) : List RF := (rs.take i).map (fun r => { r with n := x }) ++ rs.drop i
theorem rsw_len (rs : List RF) (x : Nm) (i : Nat) : (rsw rs x i).length = rs.length := by
  unfold rsw
  rw [List.length_append, List.length_map, List.length_take, List.length_drop]; omega
theorem rsw_at {rs : List RF} {x : Nm} {i : Nat} (hi : i < rs.length) : rd (rsw rs x i) (i : Int) = rs[i] := by
  rw [rd_lt (by rw [rsw_len]; exact hi)]
  unfold rsw
  rw [List.getElem_append_right (by simp; omega)]
  simp [Nat.min_eq_left (Nat.le_of_lt hi)]
theorem rsw_next {rs : List RF} {x : Nm} {i : Nat} (hi : i < rs.length) : (rsw rs x i).set i { rs[i] with n := x } = rsw rs x (i + 1) := by
  unfold rsw
  rw [List.drop_eq_getElem_cons hi, List.set_append_right _ _ (by simp; omega), List.length_map, List.length_take, Nat.min_eq_left (Nat.le_of_lt hi), Nat.sub_self, List.set_cons_zero, List.take_add_one, List.getElem?_eq_getElem hi, List.map_append, List.append_assoc]
  rfl
theorem rsw_all {rs : List RF} {x : Nm} {r : RF} (h : r ∈ rsw rs x rs.length) : r.n = x := by
  unfold rsw at h
  rw [List.drop_length, List.append_nil] at h
  obtain ⟨r', _, rfl⟩ := List.mem_map.1 h
  rfl
set_option maxHeartbeats 8000000 in
theorem spoils_call (W w : World) (L : List HProp) (bb : Nat) (b : Bk) (pool : List HProp) (A : Option Addr) (c : Nat) (rs : List RF) (hs : Sat W w (RowOf eF 30 2 A c rs :: Big (rs.map RF.P) :: (b.L bb pool ++ L))) (ok : BkOK b pool) (hl : b.ls.length + rs.length ≤ 1000000000) (hfl : b.fs.length ≤ 1000000000) (hd : ∀ r ∈ rs, r.data.length ≤ 1099511627776) :
    Calls Try.prog 40 [Value.pointer (some ⟨bb, 0, none⟩), .slice A rs.length c].toArray w (Ret fun v w' => v = .tuple #[] ∧ ∃ b', BkOK b' pool ∧ b'.ls.length = b.ls.length + rs.length ∧ b'.fs.length = b.fs.length + 1 ∧ b'.ns.length = b.ns.length ∧ b'.hh = b.hh ∧ b'.ii = b.ii ∧ b'.jj = b.jj ∧ Sat W w' (b'.L bb pool ++ L)) := by
  refine Calls_of Try.func40 rfl 50 Try.ntmps40 rfl ?_
  (repeat' (first | (refine isLW ?_; first | refine LW_nil ?_ | (refine isLload ?_; first | refine LW_loadC 2 TOK hs rfl rfl rfl rfl rfl ?_) | (refine isLcall ?_; first | (refine LW_call (cap := []) rfl rfl ent74 (word_call W _ _ _ hs (by omega)) ?_; clear hs; rintro _ w ⟨m, rfl, hm, hs⟩) | refine LW_pure TOK rfl ?_) | refine LW_pure TOK rfl ?_) | (with_reducible first | refine then_n ?_ | refine CW_seq ?_ | refine CW_region ?_ | refine CW_block ?_)))
  refine CW_loop (γ := Nat × Bk) (fun g => [(0, .pointer (some ⟨bb, 0, none⟩)), (1, .slice A rs.length c), (4, sv m), (5, .int .i64 (g.1 : Int))])
    (fun g w' => Sat W w' (RowOf eF 30 2 A c (rsw rs m g.1) :: Big ((rs.drop g.1).map RF.P) :: (g.2.L bb pool ++ L)) ∧ g.1 ≤ rs.length ∧ BkOK g.2 pool ∧ g.2.ls.length = b.ls.length + g.1 ∧ g.2.fs.length = b.fs.length ∧ g.2.ns.length = b.ns.length ∧ g.2.hh = b.hh ∧ g.2.ii = b.ii ∧ g.2.jj = b.jj) (fun g => rs.length - g.1) (0, b) ⟨rfl, rfl, rfl, rfl, trivial⟩ ⟨hs, Nat.zero_le _, ok, rfl, rfl, rfl, rfl, rfl, rfl⟩ ?_
  clear hs
  rintro ⟨i, b'⟩ τ w ⟨hs, hi, ok', e1, e2, e3, e4, e5, e6⟩
  dsimp only at hs hi ok' e1 e2 e3 e4 e5 e6 ⊢
  have hrl := rsw_len rs m i
  by_cases hil : i < rs.length
  · have hra := rsw_at (x := m) hil
    have hdi := hd _ (List.getElem_mem hil)
    rw [List.drop_eq_getElem_cons hil, List.map_cons] at hs
    have h0 : Sat W w (RF.P rs[i] :: Big ((rs.drop (i + 1)).map RF.P) :: RowOf eF 30 2 A c (rsw rs m i) :: (b'.L bb pool ++ L)) := Sat.openBig (X := []) (l1 := []) (hs.picks [1])
    have h1 : Sat W w (RowOf eB 5 1 rs[i].A rs[i].c rs[i].data :: (b'.L bb pool ++ (Big ((rs.drop (i + 1)).map RF.P) :: RowOf eF 30 2 A c (rsw rs m i) :: L))) := h0.picks [0, 2, 2, 2, 2, 2, 2, 2, 2, 2, 2, 2, 2, 2, 2]
    clear hs h0
    obtain ⟨r, hr⟩ : ∃ r, rs[i] = r := ⟨_, rfl⟩
    have hs := h1
    clear h1
    have hnx : (rsw rs m i).set i (RF.mk m r.A r.c r.data) = rsw rs m (i + 1) := by rw [← hr]; exact rsw_next hil
    rw [hr] at hs hra hdi
    (repeat' (first | (refine isLW ?_; first | refine LW_nil ?_ | (refine isLload ?_; first | refine LW_loadRd (v := .slice r.A r.data.length r.c) (hs.rd 16 rfl) (fun _ => rfl) TOK rfl (by assumption) rfl rfl (by omega) (by omega) (by rw [hra]; rfl) ?_) | (refine isLstore ?_; first | (refine LW_storeRowF 15 0 eF_ok (RF.mk m r.A r.c r.data) hs TOK rfl (by assumption) rfl rfl rfl rfl rfl rfl rfl (by rw [hra]; rfl) (by omega) (by omega) ?_; clear hs; intro w hs)) | (refine isLcall ?_; first | (refine LW_call (cap := []) rfl rfl ent41 (keep_call W _ _ bb b' pool r.A r.c r.data hs ok' (by omega) hdi) ?_; clear hs; rintro _ w ⟨rfl, LA, lc, MA, mc, z, hs⟩) | refine LW_pure TOK rfl ?_) | (refine isLidx ?_; first | (refine LW_indexRdN (hs.rd 16 rfl) TOK rfl rfl rfl rfl rfl (by omega) (by omega) (by omega) ?_; intro _ _ _) | (refine LW_indexRdN (hs.rd 15 rfl) TOK rfl rfl rfl rfl rfl (by omega) (by omega) (by omega) ?_; intro _ _ _)) | (refine isLbin ?_; first | refine LW_i64 rfl (by omega) (by omega) ?_ | (refine LW_cmp rfl (fun _ => ?_) (fun _ => ?_) <;> try (exfalso; omega))) | refine LW_pure TOK rfl ?_) | (with_reducible first | refine then_n ?_ | refine CW_seq ?_ | refine CW_region ?_ | refine CW_block ?_ | refine CW_skip ?_ | refine blk_n ?_) | refine CW_true rfl ?_))
    refine ⟨(i + 1, b'.kept LA lc MA mc (r.A, r.data.length, r.c) z), _, FR_forget _ ⟨rfl, rfl, rfl, (by push_cast; rfl), trivial⟩, ⟨?_, hil, ok'.kept LA lc MA mc z hdi, ?_, e2, e3, e4, e5, e6⟩, by dsimp only; omega⟩
    · rw [← hnx]; exact hs.picks [15, 14]
    · show (b'.ls ++ [_]).length = _
      rw [List.length_append, e1]; rfl
  · have hib : i = rs.length := by omega
    subst hib
    rw [List.drop_length] at hs
    have hsf := ok'.fs
    (repeat' (first | (refine isLW ?_; first | refine LW_nil ?_ | (refine isLload ?_; first | refine LW_loadC 2 TOK hs rfl rfl rfl rfl rfl ?_) | (refine isLstore ?_; first | (refine LW_storeC 2 TOK hs rfl rfl rfl rfl rfl rfl rfl ?_; clear hs; intro w hs)) | (refine isLcall ?_; first | (refine LW_append1 5 (z := ((A, rs.length, c) : Hd)) eH_ok hs TOK rfl rfl rfl rfl rfl rfl rfl rfl rfl rfl (by unfold maxLen; omega) (by simp only []; omega) ?_; clear hs; intro FA fc w hs) | (refine LW_append1 7 (z := m) eN_ok hs TOK rfl rfl rfl rfl rfl rfl rfl rfl rfl rfl (by unfold maxLen; omega) (by simp only []; omega) ?_; clear hs; intro SA sc w hs) | refine LW_pure TOK rfl ?_) | (refine isLbin ?_; first | (refine LW_cmp rfl (fun _ => ?_) (fun _ => ?_) <;> try (exfalso; omega))) | refine LW_pure TOK rfl ?_ | (refine LW_buildSlice TOK hs rfl rfl rfl rfl rfl rfl rfl ?_; clear hs; intro _ w hs)) | (with_reducible first | refine then_n ?_ | refine CW_seq ?_ | refine CW_region ?_ | refine CW_exit ?_ | refine then_e ?_ | refine blk_same ?_) | refine CW_false rfl ?_ | refine RET0 Try.results40 ?_))
    have hs0 : Sat W w (RowOf eF 30 2 A c (rsw rs m rs.length) :: Big [] :: Cl bb (b'.spoilt FA fc SA sc (A, rs.length, c) m).C 79 :: RowOf eH 23 1 b'.LA b'.lc b'.ls :: RowOf eB 5 1 b'.MA b'.mc b'.ms :: RowOf eH 22 1 FA fc (b'.fs ++ [(A, rs.length, c)]) :: RowOf eH 72 1 b'.NA b'.nc b'.ns :: RowOf eN 9 1 SA sc (b'.ss ++ [m]) :: RowOf eN 9 1 b'.TA b'.tc b'.ts :: RowOf eH 23 1 b'.HA b'.hc b'.hh :: RowOf eH 22 1 b'.IA b'.ic b'.ii :: RowOf eH 72 1 b'.JA b'.jc b'.jj :: Big (ownL OwnB b'.ls b'.ms b'.hh.length) :: Big (ownL OwnF b'.fs b'.ss b'.ii.length) :: Big (ownL OwnN b'.ns b'.ts b'.jj.length) :: Big pool :: L) := hs
    clear hs
    have h1 := (hs0.picks [1]).drop1
    have h2 : Sat W w (OwnF ((A, rs.length, c), m) :: _) := Sat.pack (M := [RowOf eF 30 2 A c (rsw rs m rs.length)]) h1 (fun f hf => ⟨rsw rs m rs.length, hrl, fun r hr => rsw_all hr, hf⟩)
    have h3 := Sat.snocB (h2.picks [0, 11])
    rw [← ownL_snoc hsf ok'.il] at h3
    exact ⟨rfl, b'.spoilt FA fc SA sc (A, rs.length, c) m, ok'.spoilt FA fc SA sc (by show rs.length ≤ _; omega) hm, e1, by show (b'.fs ++ [_]).length = _; rw [List.length_append, e2]; rfl, e3, e4, e5, e6, h3.picks [1, 1, 1, 1, 1, 1, 1, 1, 1, 1, 1, 0]⟩
end Go.Proofs.Ytoodgenbcfdloaa
