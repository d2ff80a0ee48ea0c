/- Walks: DiskOwn. -/
import Derived.Test.YtoodgenbcfdloaaB7
set_option linter.unusedVariables false
set_option linter.unusedSimpArgs false
namespace Go.Proofs.Ytoodgenbcfdloaa
open Go Go.Sl Go.RowKit
set_option maxRecDepth 100000
attribute [local irreducible] CW LW DW FR DP Calls
theorem min_q (q : Nat) (h0 : 16 ≤ q) : ∃ m : Nat, 16 ≤ m ∧ m ≤ 65536 ∧ (if (65536 : Int) < (q : Int) then (65536 : Int) else (q : Int)) = (m : Int) := by
  by_cases h : (65536 : Int) < (q : Int)
  · exact ⟨65536, by omega, by omega, by rw [if_pos h]; rfl⟩
  · exact ⟨q, h0, by omega, by rw [if_neg h]⟩
/-- What turns from step to step. -/
structure Ow where
  i : Nat
  D : DS
  b : Bk
  pool : List HProp
  LA : Option Addr
  lc : Nat
  lg : List Lg
abbrev owL (bb d : Nat) (g : Ow) : List HProp := g.b.L bb g.pool ++ [HD d g.D, RowOf eLg 23 1 g.LA g.lc g.lg, Big (g.lg.map Lg.P)]
structure OwOk (g : Ow) : Prop where
  run : Run g.D g.i
  ok : BkOK g.b g.pool
  g1 : g.b.hh.length = g.b.ls.length
  g2 : g.b.ii.length = g.b.fs.length
  g3 : g.b.jj.length = g.b.ns.length
  ll : g.lg.length ≤ g.i
  ly : ∀ x ∈ g.lg, x.y.length ≤ 70000
  s1 : g.b.ls.length ≤ 4004 * g.i
  s2 : g.b.fs.length ≤ 4 * g.i
  s3 : g.b.ns.length ≤ 2 * g.i
theorem OwOk.next {g : Ow} (h : OwOk g) : OwOk { g with i := g.i + 1 } := ⟨h.run.next, h.ok, h.g1, h.g2, h.g3, Nat.le_succ_of_le h.ll, h.ly, by have := h.s1; dsimp only; omega, by have := h.s2; dsimp only; omega, by have := h.s3; dsimp only; omega⟩
def Op.cut (o : Op) : Op := { o with data := o.data.take 70000 }
theorem cut_cells {o : Op} (h : 70000 < o.data.length) : (eO o).set 5 (.slice o.dA 70000 o.dc) = eO o.cut := by
  unfold eO Op.cut
  dsimp only
  rw [List.length_take, Nat.min_eq_left (by omega)]
  rfl
def Op.at (o : Op) (A : Option Addr) (c : Nat) : Op := { o with dA := A, dc := c }
theorem lg_row {A A2 : Option Addr} {c c2 : Nat} {lg : List Lg} {x y : List UInt8} (h : x.length = y.length) : RowOf eLg 23 1 A c (lg ++ [⟨A2, c2, y⟩]) = RowOf eLg 23 1 A c (lg ++ [⟨A2, c2, x⟩]) := by
  unfold RowOf
  rw [List.flatMap_append, List.flatMap_append, List.length_append, List.length_append]
  simp [eLg, h]
theorem cut_ok {o : Op} (h : o.Ok) : o.cut.Ok := by
  obtain ⟨h1, h2, h3, h4, h5, h6⟩ := h
  exact ⟨h1, h2, h3, h4, by unfold Op.cut; dsimp only; rw [List.length_take]; omega, h6⟩
set_option maxHeartbeats 16000000 in
theorem DiskOwn_call (W : World) (q : Int) (A : Option Addr) (c : Nat) (ops : List Op) (keep : Int) (C : Option Addr) (cc : Nat) (cuts : List (Int × Int)) (hsc : Scr W A ops) (hroom : ∀ o ∈ ops, o.data.length ≤ o.dc) (hk : -9223372036854775808 ≤ keep ∧ keep ≤ 9223372036854775807) (rc : Rd eP W C cuts) (hcl : cuts.length ≤ 140737488355328) :
    Calls Try.prog 7 [Value.int .i64 q, .slice A ops.length c, .int .i64 keep, .slice C cuts.length cc].toArray W (Ret fun v w' => v = .bool true ∧ Sat W w' []) := by
  refine Calls_of Try.func7 rfl 116 Try.ntmps7 rfl ?_
  have hs := Sat.start W
  obtain ⟨ra, hok, hdat, _, hlen⟩ := hsc
  obtain ⟨hq0, hq1, hqe⟩ := prop_in q
  obtain ⟨qq, hqq⟩ : ∃ qq, prop' q = qq := ⟨_, rfl⟩
  rw [hqq] at hq0 hq1 hqe
  obtain ⟨m, hm0, hm1, hme⟩ := min_q qq hq0
  have hrun := rdy_run hm0 (by omega : m ≤ 4194304)
  (repeat' (first | (refine isLW ?_; first | refine LW_nil ?_ | (refine isLcall ?_; first | (refine LW_call (cap := []) rfl rfl ent31 (proper_call _ q) ?_; rintro _ _ ⟨rfl, rfl⟩; rw [hqe]) | (refine LW_call (cap := []) rfl rfl ent15 (ready_call W _ [] m hm0 (by omega) hs) ?_; clear hs; rintro _ w ⟨d, rfl, hs⟩)) | (refine isLbin ?_; first | refine LW_nileq TOK rfl ?_) | refine LW_min2 _ rfl rfl hme ?_ | refine LW_build TOK rfl rfl rfl rfl rfl rfl ?_ | (refine LW_box hs rfl rfl ?_; clear hs; intro bb w hs) | refine LW_pure TOK rfl ?_) | (with_reducible first | refine then_n ?_ | refine CW_seq ?_ | refine CW_region ?_ | refine CW_block ?_ | refine CW_skip ?_) | refine CW_false rfl ?_))
  have h1 := bk0_sat (L := [HD d (rdyD m)]) hs
  have h2 : Sat W w ([RowOf eLg 23 1 none 0 [], Big (([] : List Lg).map Lg.P)] ++ (bk0.L bb [] ++ ([HD d (rdyD m)] ++ []))) := (Sat.mkBig (l := []) h1).nilRow 23 1
  have h3 : Sat W w (owL bb d ⟨0, rdyD m, bk0, [], none, 0, []⟩) := Sat.swp2 (Sat.swp h2)
  clear hs h1 h2
  refine CW_loop (γ := Ow) (fun g => [(1, .slice A ops.length c), (2, .int .i64 keep), (3, .slice C cuts.length cc), (9, .pointer (some ⟨d, 0, none⟩)), (10, .pointer (some ⟨bb, 0, none⟩)), (11, .slice g.LA g.lg.length g.lc), (12, .int .i64 (g.i : Int))]) (fun g w' => Sat W w' (owL bb d g) ∧ OwOk g ∧ g.i ≤ ops.length ∧ g.i ≤ 40) (fun g => 41 - g.i) ⟨0, rdyD m, bk0, [], none, 0, []⟩ ⟨rfl, rfl, rfl, rfl, rfl, rfl, rfl, trivial⟩ ⟨h3, ⟨hrun, bk0_ok, rfl, rfl, rfl, Nat.le_refl _, fun x hx => (by cases hx), Nat.zero_le _, Nat.zero_le _, Nat.zero_le _⟩, Nat.zero_le _, Nat.zero_le _⟩ ?_
  clear h3 hrun
  rintro g τ w ⟨hs, ok, hi, hi2⟩
  have hgl := ok.ll
  by_cases hlt : g.i < ops.length ∧ g.i < 40
  case neg =>
    (repeat' (first | (refine isLW ?_; first | refine LW_nil ?_ | (refine isLg ?_; first | refine LW_take rfl ?_ | refine LW_pass rfl rfl ?_) | (refine isLcall ?_; first | refine LW_pure TOK rfl ?_) | (refine isLbin ?_; first | (refine LW_cmp rfl (fun _ => ?_) (fun _ => ?_) <;> try (exfalso; omega))) | refine LW_pure TOK rfl ?_) | (with_reducible first | refine then_n ?_ | refine CW_seq ?_ | refine CW_region ?_ | refine CW_exit ?_ | refine CW_ret ?_ | refine then_e ?_ | refine blk_same ?_) | refine CW_false rfl ?_ | refine RET1 Try.results7 rfl ?_))
    all_goals exact ⟨rfl, hs.nil⟩
  case pos =>
  obtain ⟨hlt1, hlt2⟩ := hlt
  have hrd := rd_at hlt1
  have hmem := List.getElem_mem hlt1
  have hok := hok _ hmem
  have hdat := hdat _ hmem
  have hroom := hroom _ hmem
  obtain ⟨o, ho⟩ : ∃ o, ops[g.i] = o := ⟨_, rfl⟩
  rw [ho] at hrd hok hdat hroom
  have hfit := ok.run.fit (by omega)
  (repeat' (first | refine CW_late3 (fun a w => ∃ (o1 : Op) (bo : Nat) (τ : Nat → Value), a = FR 116 [(1, .slice A ops.length c), (2, .int .i64 keep), (3, .slice C cuts.length cc), (9, .pointer (some ⟨d, 0, none⟩)), (10, .pointer (some ⟨bb, 0, none⟩)), (11, .slice g.LA g.lg.length g.lc), (12, .int .i64 (g.i : Int)), (13, .pointer (some ⟨bo, 0, none⟩))] τ [] ∧ o1.Ok ∧ Rd eB W o1.dA o1.data ∧ o1.data.length ≤ 70000 ∧ Sat W w (Cl bo (eO o1) 66 :: owL bb d g)) ?_ ?_ | (refine isLW ?_; first | refine LW_nil ?_ | (refine isLg ?_; first | refine LW_take rfl ?_) | (refine isLcall ?_; first | refine LW_pure TOK rfl ?_) | (refine isLbin ?_; first | (refine LW_cmp rfl (fun _ => ?_) (fun _ => ?_) <;> try (exfalso; omega))) | refine LW_pure TOK rfl ?_) | (with_reducible first | refine then_n ?_ | refine CW_seq ?_ | refine CW_region ?_ | refine CW_block ?_ | refine CW_skip ?_) | refine CW_true rfl ?_))
  · clear hs hrd hok hdat ho
    rintro _ w ⟨o1, bo, τ, rfl, hok, hdat, hdl, hs⟩
    have hs0 : Sat W w (Cl bo (eO o1) 66 :: (g.b.L bb g.pool ++ [HD d g.D, RowOf eLg 23 1 g.LA g.lc g.lg, Big (g.lg.map Lg.P)])) := hs
    clear hs
    have hs := hs0
    clear hs0
    have hrun2 := ok.run.act o1.kind o1.a o1.b o1.n o1.data
    have hact : ∀ {w : World} {L : List HProp} {A2 : Option Addr} {c2 : Nat}, Sat W w (HD d g.D :: L) → (∀ w', Sat W w' L → Rd eB w' A2 o1.data) → Calls Try.prog 34 [Value.pointer (some ⟨d, 0, none⟩), .agg (eO (o1.at A2 c2)).toArray].toArray w (Ret fun v w' => v = .int .i64 (g.D.act o1.kind o1.a o1.b o1.n o1.data).1 ∧ Sat W w' (HD d (g.D.act o1.kind o1.a o1.b o1.n o1.data).2 :: L)) := fun {w L A2 c2} h hr => by
      obtain ⟨k1, k2, k3, k4, k5, k6⟩ := hok
      exact act_call W w L d g.D (o1.at A2 c2) h hfit ⟨k1, k2, k3, k4, k5, k6⟩ hr
    obtain ⟨⟨e2, D2⟩, hD2⟩ : ∃ r, g.D.act o1.kind o1.a o1.b o1.n o1.data = r := ⟨_, rfl⟩
    rw [hD2] at hact hrun2
    dsimp only at hact hrun2
    have hfit2 := hrun2.fit (by omega)
    have hdf2 : D2.files.length ≤ 2199023255552 ∧ ∀ f ∈ D2.files, f.2.length ≤ 140737488355328 := by
      refine ⟨by have := now_len hfit2; unfold DS.files filesOf; rw [List.length_map]; exact this, fun f hf => ?_⟩
      unfold DS.files filesOf at hf
      obtain ⟨p, hp, rfl⟩ := List.mem_map.1 hf
      have := dat_bd hfit2.good (hfit2.good.subNow (List.mem_map.2 ⟨p, hp, rfl⟩))
      unfold DS.dat DS.fl at this
      dsimp only
      omega
    (repeat' (first | (refine isLW ?_; first | refine LW_nil ?_ | (refine isLload ?_; first | refine LW_loadCAE 1 (eO (o1.at A2 c2)) TOK hs rfl rfl rfl rfl (Nat.le_of_ble_eq_true rfl) rfl ?_ | refine LW_loadC 0 TOK hs rfl rfl rfl rfl rfl ?_ | refine LW_loadC 1 TOK hs rfl rfl rfl rfl rfl ?_ | refine LW_loadC 2 TOK hs rfl rfl rfl rfl rfl ?_) | (refine isLstore ?_; first | (refine LW_storeC 1 TOK hs rfl rfl rfl rfl rfl rfl rfl ?_; clear hs; intro w hs)) | (refine isLcall ?_; first | (refine LW_call (cap := []) rfl rfl ent34 (hact (hs.picks [16]) (fun w' h => (h.rd 0 rfl).ahead ⟨[91, 92, 93], rfl⟩)) ?_; clear hs; rintro _ w ⟨rfl, hs⟩; replace hs : Sat W w (HD d D2 :: RowOf eB 5 1 A2 c2 (o1.data ++ [91, 92, 93]) :: Cl bo (eO (o1.at A2 c2)) 66 :: (g.b.L bb g.pool ++ [RowOf eLg 23 1 A3 c3 (g.lg ++ [⟨A2, c2, o1.data⟩]), Big (g.lg.map Lg.P)])) := hs) | (refine LW_call (cap := []) rfl rfl ent27 (alike_call _ o1.data o1.data _ _ _ _ ((hs.rd 1 rfl).ahead ⟨[91, 92, 93], rfl⟩) (hdat.of hs) (by omega)) ?_; rw [decide_eq_true rfl]; rintro _ w2 ⟨rfl, hs2⟩; replace hs := hs.and0 hs2; clear hs2) | (refine LW_call (cap := []) rfl rfl ent29 (files_call W _ _ d D2 hs hfit2) ?_; clear hs; rintro _ w ⟨A5, c5, rfl, hs⟩) | (refine LW_call (cap := []) rfl rfl ent16 (copies_call _ D2.files A5 c5 (Sat.rdF hs) hdf2.1 hdf2.2) ?_; rintro _ w2 ⟨A6, c6, rfl, hs2⟩; replace hs := hs.and1 hs2; clear hs2) | (refine LW_call (cap := []) rfl rfl ent17 (copied_call _ o1.data o1.dA o1.dc (hdat.of hs) (by omega)) ?_; rintro _ w2 ⟨A1, c1, rfl, hs2⟩; replace hs := hs.and1 hs2; clear hs2) | (refine LW_append 1 eB_ok.1 (xs := o1.data) (ys := [91, 92, 93]) hs TOK rfl rfl (hs.rdC (t := 5) 0 rfl) eB_ok.2 rfl rfl rfl rfl rfl rfl rfl (by simp only [List.length_cons, List.length_nil]; unfold maxLen; omega) (by simp only [List.length_cons, List.length_nil]; omega) ?_; clear hs; intro A2 c2 w hs; replace hs : Sat W w (RowOf eB 5 1 A2 c2 (o1.data ++ [91, 92, 93]) :: Cl bo (eO o1) 66 :: (g.b.L bb g.pool ++ [HD d g.D, RowOf eLg 23 1 g.LA g.lc g.lg, Big (g.lg.map Lg.P)])) := hs.drop1; have hcap := hs.rowLe; rw [List.length_append] at hcap) | (refine LW_append1 17 (z := (⟨A2, c2, o1.data⟩ : Lg)) eLg_ok hs TOK rfl rfl (by unfold eLg; rw [List.length_append]; rfl) rfl rfl rfl rfl rfl rfl rfl (by unfold maxLen; omega) (by simp only []; omega) ?_; clear hs; intro A3 c3 w hs) | refine LW_pure TOK rfl ?_) | refine LW_sliceH TOK rfl rfl rfl rfl rfl (by omega) (by omega) ?_ | refine LW_pure TOK rfl ?_ | (refine LW_buildSlice TOK hs rfl rfl rfl rfl rfl rfl rfl ?_; clear hs; intro _ w hs)) | (with_reducible first | refine then_n ?_ | refine CW_seq ?_ | refine CW_region ?_ | refine CW_block ?_ | refine CW_skip ?_) | refine CW_false rfl ?_))
    have hnd : (o1.data ++ [91, 92, 93]).length = o1.data.length + 3 := by rw [List.length_append]; rfl
    refine CW_loop (γ := Nat × List UInt8) (fun p => [(1, .slice A ops.length c), (2, .int .i64 keep), (3, .slice C cuts.length cc), (9, .pointer (some ⟨d, 0, none⟩)), (10, .pointer (some ⟨bb, 0, none⟩)), (11, .slice A3 (g.lg ++ [(⟨A2, c2, o1.data⟩ : Lg)]).length c3), (12, .int .i64 (g.i : Int)), (13, .pointer (some ⟨bo, 0, none⟩)), (14, .int .i64 (o1.data.length : Int)), (15, .slice A2 (o1.data ++ [91, 92, 93]).length c2), (17, .slice A6 D2.files.length c6), (18, .int .i64 (p.1 : Int))])
      (fun p w' => Sat W w' (HF A6 c6 D2.files :: HF A5 c5 D2.files :: HD d D2 :: RowOf eB 5 1 A2 c2 (p.2 ++ [91, 92, 93]) :: Cl bo (eO (o1.at A2 c2)) 66 :: (g.b.L bb g.pool ++ [RowOf eLg 23 1 A3 c3 (g.lg ++ [⟨A2, c2, o1.data⟩]), Big (g.lg.map Lg.P)])) ∧ p.2.length = o1.data.length ∧ p.1 ≤ o1.data.length) (fun p => o1.data.length - p.1) (0, o1.data) ⟨rfl, rfl, rfl, rfl, rfl, rfl, rfl, rfl, rfl, rfl, rfl, rfl, trivial⟩ ⟨hs, rfl, Nat.zero_le _⟩ ?_
    clear hs hact
    rintro ⟨j, x⟩ τ w ⟨hs, hx, hj⟩
    dsimp only at hs hx hj ⊢
    have hxl : (x ++ [91, 92, 93]).length = o1.data.length + 3 := by rw [List.length_append, hx]; rfl
    by_cases hjl : j < o1.data.length
    · obtain ⟨z, hz⟩ := byte_of ((BitVec.ofInt IntKind.u8.bits ((rd (x ++ [91, 92, 93]) (j : Int)).toNat : Int) ^^^ BitVec.ofInt IntKind.u8.bits 255).toNat : Int)
      (repeat' (first | (refine isLW ?_; first | refine LW_nil ?_ | (refine isLload ?_; first | refine LW_loadRd0 (hs.rd 3 rfl) (fun _ => rfl) TOK rfl (by assumption) rfl rfl (by omega) (by omega) rfl ?_) | (refine isLstore ?_; first | (refine LW_storeRow 3 eB_ok (z := z) hs TOK rfl (by assumption) rfl rfl rfl rfl rfl (by omega) (by omega) ?_; clear hs; intro w hs)) | (refine isLidx ?_; first | (refine LW_indexRdN (hs.rd 3 rfl) TOK rfl rfl rfl rfl rfl (by omega) (by omega) (by omega) ?_; intro _ _ _)) | (refine isLbin ?_; first | refine LW_bitsE (z.toNat : Int) rfl rfl rfl hz ?_ | refine LW_i64 rfl (by omega) (by omega) ?_ | (refine LW_cmp rfl (fun _ => ?_) (fun _ => ?_) <;> try (exfalso; omega))) | refine LW_pure TOK rfl ?_) | (with_reducible first | refine then_n ?_ | refine CW_seq ?_ | refine CW_region ?_ | refine CW_block ?_ | refine CW_skip ?_ | refine blk_n ?_) | refine CW_true rfl ?_))
      exact ⟨(j + 1, x.set j z), _, FR_forget _ ⟨rfl, rfl, rfl, rfl, rfl, rfl, rfl, rfl, rfl, rfl, rfl, (by push_cast; rfl), trivial⟩, ⟨by dsimp only; rw [← List.set_append_left _ _ (by omega)]; exact hs, by dsimp only; rw [List.length_set]; exact hx, hjl⟩, by dsimp only; omega⟩
    · rw [lg_row hx] at hs
      have hs1 : Sat W w (HF A6 c6 D2.files :: HF A5 c5 D2.files :: HD d D2 :: Lg.P ⟨A2, c2, x⟩ :: Cl bo (eO (o1.at A2 c2)) 66 :: (g.b.L bb g.pool ++ [RowOf eLg 23 1 A3 c3 (g.lg ++ [⟨A2, c2, x⟩]), Big (g.lg.map Lg.P)])) := hs
      clear hs
      have hs2 : Sat W w (Big ((g.lg ++ [(⟨A2, c2, x⟩ : Lg)]).map Lg.P) :: HF A6 c6 D2.files :: HF A5 c5 D2.files :: HD d D2 :: Cl bo (eO (o1.at A2 c2)) 66 :: (g.b.L bb g.pool ++ [RowOf eLg 23 1 A3 c3 (g.lg ++ [⟨A2, c2, x⟩])])) := Sat.snocA (hs1.picks [3, 19])
      have hs : Sat W w ([RowOf eLg 23 1 A3 c3 (g.lg ++ [⟨A2, c2, x⟩]), Big ((g.lg ++ [(⟨A2, c2, x⟩ : Lg)]).map Lg.P), HF A6 c6 D2.files, HF A5 c5 D2.files, HD d D2, Cl bo (eO (o1.at A2 c2)) 66] ++ (g.b.L bb g.pool ++ [])) := hs2.picks [19]
      clear hs1 hs2
      obtain ⟨lg2, hl2⟩ : ∃ lg2, g.lg ++ [(⟨A2, c2, x⟩ : Lg)] = lg2 := ⟨_, rfl⟩
      have hll2 : lg2.length = g.lg.length + 1 := by rw [← hl2, List.length_append]; rfl
      have hll3 : (g.lg ++ [(⟨A2, c2, o1.data⟩ : Lg)]).length = lg2.length := by rw [hll2, List.length_append]; rfl
      have hly2 : ∀ y ∈ lg2, y.y.length ≤ 70000 := fun y hy => by
        rw [← hl2] at hy
        rcases List.mem_append.1 hy with hy | hy
        · exact ok.ly y hy
        · rw [List.mem_singleton.1 hy]; show x.length ≤ _; omega
      rw [hl2] at hs
      rw [hll3]
      have k1 := ok.s1
      have k2 := ok.s2
      have k3 := ok.s3
      have hfs2 := hrun2.fs
      have hna := hok.a
      have hdf3 : D2.files.length ≤ 4611686018427387904 ∧ ∀ f ∈ D2.files, f.2.length ≤ 4611686018427387904 := ⟨by omega, fun f hf => by have := hdf2.2 f hf; omega⟩
      (repeat' (first | (refine isLW ?_; first | refine LW_nil ?_ | (refine isLg ?_; first | refine LW_take rfl ?_) | (refine isLload ?_; first | refine LW_loadC 6 TOK hs rfl rfl rfl rfl rfl ?_) | (refine isLcall ?_; first | (refine LW_call (cap := []) rfl rfl ent29 (files_call W _ _ d D2 (hs.picks [4]) hfit2) ?_; clear hs; rintro _ w ⟨A7, c7, rfl, hs⟩; replace hs : Sat W w ([HF A7 c7 D2.files, HD d D2, RowOf eLg 23 1 A3 c3 lg2, Big (lg2.map Lg.P), HF A6 c6 D2.files, HF A5 c5 D2.files, Cl bo (eO (o1.at A2 c2)) 66] ++ (g.b.L bb g.pool ++ [])) := hs) | (refine LW_call (cap := []) rfl rfl ent21 (filesAlike_call _ D2.files D2.files _ _ _ _ (Sat.rdF hs) (Sat.rdF (hs.picks [4])) hdf3.1 hdf3.2) ?_; rw [decide_eq_true rfl]; rintro _ w2 ⟨rfl, hs2⟩; replace hs := hs.and0 hs2; clear hs2) | (refine LW_call (cap := []) rfl rfl ent45 (looked_call W _ [HF A7 c7 D2.files, RowOf eLg 23 1 A3 c3 lg2, Big (lg2.map Lg.P), HF A6 c6 D2.files, HF A5 c5 D2.files, Cl bo (eO (o1.at A2 c2)) 66] bb g.b g.pool d D2 o1.a keep C cc cuts (Sat.swp (A := [HD d D2, HF A7 c7 D2.files, RowOf eLg 23 1 A3 c3 lg2, Big (lg2.map Lg.P), HF A6 c6 D2.files, HF A5 c5 D2.files, Cl bo (eO (o1.at A2 c2)) 66]) (B := g.b.L bb g.pool) (C := []) (hs.picks [1])) ok.ok ok.g1 ok.g2 ok.g3 hfit2 (by omega) hna hk rc hcl (by omega) (by omega) (by omega)) ?_; clear hs; rintro _ w ⟨rfl, b2, pool2, ok2, q1, q2, q3, q4, q5, q6, hs⟩) | (refine LW_call (cap := []) rfl rfl ent46 (tails_lg (hs.picks [16, 16]) (by omega) (fun y hy => by have := hly2 y hy; omega)) ?_; rintro _ w2 ⟨rfl, hs2⟩; replace hs := hs.and0 hs2; clear hs2)) | (refine isLbin ?_; first | refine LW_i64 rfl (by omega) (by omega) ?_ | (refine LW_cmp rfl (fun _ => ?_) (fun _ => ?_) <;> try (exfalso; omega))) | refine LW_pure TOK rfl ?_) | (with_reducible first | refine then_n ?_ | refine CW_seq ?_ | refine CW_region ?_ | refine CW_skip ?_ | refine CW_exit ?_ | refine then_e ?_ | refine blk_n ?_ | refine blk_same ?_) | refine CW_false rfl ?_))
      have h5 : Sat W w2 ((b2.L bb pool2 ++ [HD d D2]) ++ ([HF A7 c7 D2.files] ++ [RowOf eLg 23 1 A3 c3 lg2, Big (lg2.map Lg.P), HF A6 c6 D2.files, HF A5 c5 D2.files, Cl bo (eO (o1.at A2 c2)) 66])) := hs
      have h6 := Sat.skipB h5
      have h7 : Sat W w2 (((b2.L bb pool2 ++ [HD d D2]) ++ [RowOf eLg 23 1 A3 c3 lg2, Big (lg2.map Lg.P)]) ++ [HF A6 c6 D2.files, HF A5 c5 D2.files, Cl bo (eO (o1.at A2 c2)) 66]) := h6
      have h8 : Sat W w2 (owL bb d ⟨g.i + 1, D2, b2, pool2, A3, c3, lg2⟩) := Sat.fst h7
      exact ⟨⟨g.i + 1, D2, b2, pool2, A3, c3, lg2⟩, _, FR_forget _ ⟨rfl, rfl, rfl, rfl, rfl, rfl, (by push_cast; rfl), trivial⟩, ⟨h8, ⟨hrun2, ok2, q1, q2, q3, by dsimp only; omega, hly2, by dsimp only; omega, by dsimp only; omega, by dsimp only; omega⟩, hlt1, hlt2⟩, by dsimp only; omega⟩
  · intro hM
    by_cases hch : 1 ≤ o.kind ∧ o.kind ≤ 7
    · (repeat' (first | refine hM _ _ ?_ | (refine isLW ?_; first | refine LW_nil ?_ | (refine isLload ?_; first | refine LW_loadRdA (vs := eO o) (ra.of hs) (fun _ => rfl) TOK rfl (by assumption) rfl rfl rfl (by omega) (by omega) (by rw [hrd]) ?_ | refine LW_loadCAE 0 (eO o) TOK hs rfl rfl rfl rfl (Nat.le_of_ble_eq_true rfl) rfl ?_ | refine LW_loadC 0 TOK hs rfl rfl rfl rfl rfl ?_) | (refine isLstore ?_; first | (refine LW_storeCA 0 TOK hs rfl rfl rfl rfl rfl (eO_ok.2 o) rfl (Nat.le_of_ble_eq_true rfl) ?_; clear hs; intro w hs) | (refine LW_storeC 0 TOK hs rfl rfl rfl rfl rfl rfl rfl ?_; clear hs; intro w hs)) | (refine isLcall ?_; first | (refine LW_call (cap := []) rfl rfl ent33 (changing_call W _ _ o hs) ?_; clear hs; rintro _ w ⟨rfl, hs⟩; rw [decide_eq_true hch]) | refine LW_pure TOK rfl ?_) | (refine isLidx ?_; first | (refine LW_indexRd (ra.of hs) TOK rfl rfl rfl rfl rfl (by omega) (by omega) ?_; intro _ _ _)) | (refine isLbin ?_; first | (refine LW_cmp rfl (fun _ => ?_) (fun _ => ?_) <;> try (exfalso; omega))) | refine LW_sliceH TOK rfl rfl rfl rfl rfl (by omega) (by omega) ?_ | refine LW_pure TOK rfl ?_ | (refine LW_alloc TOK hs rfl rfl ?_; clear hs; intro _ w hs)) | (with_reducible first | refine then_n ?_ | refine CW_seq ?_ | refine CW_region ?_ | refine CW_skip ?_) | refine CW_true rfl ?_ | refine CW_false rfl ?_))
      · have hbig : 70000 < o.data.length := by omega
        refine ⟨o.cut, _, _, FR_forget _ ⟨rfl, rfl, rfl, rfl, rfl, rfl, rfl, rfl, trivial⟩, cut_ok hok, hdat.take 70000, by unfold Op.cut; dsimp only; rw [List.length_take]; omega, ?_⟩
        rw [← cut_cells hbig]; exact hs
      · exact ⟨o, _, _, FR_forget _ ⟨rfl, rfl, rfl, rfl, rfl, rfl, rfl, rfl, trivial⟩, hok, hdat, by omega, hs⟩
    · (repeat' (first | (refine isLW ?_; first | refine LW_nil ?_ | (refine isLload ?_; first | refine LW_loadRdA (vs := eO o) (ra.of hs) (fun _ => rfl) TOK rfl (by assumption) rfl rfl rfl (by omega) (by omega) (by rw [hrd]) ?_ | refine LW_loadCAE 0 (eO o) TOK hs rfl rfl rfl rfl (Nat.le_of_ble_eq_true rfl) rfl ?_) | (refine isLstore ?_; first | (refine LW_storeCA 0 TOK hs rfl rfl rfl rfl rfl (eO_ok.2 o) rfl (Nat.le_of_ble_eq_true rfl) ?_; clear hs; intro w hs)) | (refine isLcall ?_; first | (refine LW_call (cap := []) rfl rfl ent33 (changing_call W _ _ o hs) ?_; clear hs; rintro _ w ⟨rfl, hs⟩; rw [decide_eq_false hch])) | (refine isLidx ?_; first | (refine LW_indexRd (ra.of hs) TOK rfl rfl rfl rfl rfl (by omega) (by omega) ?_; intro _ _ _)) | (refine isLbin ?_; first | refine LW_i64 rfl (by omega) (by omega) ?_) | refine LW_pure TOK rfl ?_ | (refine LW_alloc TOK hs rfl rfl ?_; clear hs; intro _ w hs)) | (with_reducible first | refine then_n ?_ | refine CW_seq ?_ | refine CW_region ?_ | refine CW_exit ?_ | refine then_e ?_ | refine blk_same ?_) | refine CW_true rfl ?_))
      exact ⟨{ g with i := g.i + 1 }, _, FR_forget _ ⟨rfl, rfl, rfl, rfl, rfl, rfl, (by push_cast; rfl), trivial⟩, ⟨Sat.dropN hs 1, ok.next, hlt1, hlt2⟩, by dsimp only; omega⟩
end Go.Proofs.Ytoodgenbcfdloaa
