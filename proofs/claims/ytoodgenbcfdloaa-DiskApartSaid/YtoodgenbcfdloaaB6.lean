/- The book of lists that were handed out; walks: looked. -/
import Derived.Test.YtoodgenbcfdloaaB4
import Derived.Test.YtoodgenbcfdloaaP11
set_option linter.unusedVariables false
set_option linter.unusedSimpArgs false
namespace Go.Proofs.Ytoodgenbcfdloaa
open Go Go.Sl Go.RowKit
set_option maxRecDepth 100000
attribute [local irreducible] CW LW DW FR DP Calls
theorem now_le {D : DS} (h : Good D) : D.now.length ≤ D.fs.length := by
  have h1 := h.keptNow.nd
  have h2 := len_le_of_nodup h1 (l2 := List.range D.fs.length) (fun x hx => List.mem_range.2 (h.st.ltNow hx))
  unfold idsL at h2
  rw [List.length_map, List.length_range] at h2
  exact h2
theorem Sat.skipB {W w : World} {F G L : List HProp} (h : Sat W w (F ++ (G ++ L))) : Sat W w (F ++ L) := by
  have h1 := Sat.swp h
  exact Sat.app h1
def Fi {α : Type} (i : Nat) (l : List α) : List α := if i = 0 then [] else l
abbrev lkL (bb : Nat) (b : Bk) (pool : List HProp) (d : Nat) (D : DS) (Af Al Ab : Option Addr) (cf cl cb : Nat) (F C : List File) (R : List UInt8) (L : List HProp) : List HProp := b.L bb pool ++ (HD d D :: HF Af cf F :: HF Al cl C :: RowOf eB 5 1 Ab cb R :: L)
theorem names_at {D : DS} {rs : List RF} (h : rs.map RF.f = D.files) {j : Nat} (hj : j < D.list.length) : rd D.list (j : Int) = (rd rs (j : Int)).n := by
  have hd : D.down = false := by
    cases e : D.down with
    | false => rfl
    | true => unfold DS.list at hj; rw [e] at hj; exact absurd hj (Nat.not_lt_zero _)
  have hl : D.list = D.now.map (·.1) := by unfold DS.list; rw [hd]; rfl
  have hrl : rs.length = D.now.length := by
    have := congrArg List.length h
    unfold DS.files filesOf at this
    simpa using this
  rw [hl, List.length_map] at hj
  have hn : (rs.map RF.f).map (·.1) = D.now.map (·.1) := by
    rw [h]; unfold DS.files filesOf; rw [List.map_map]; rfl
  rw [hl, ← hn, List.map_map, rd_at (by rw [List.length_map]; omega), rd_at (by omega), List.getElem_map]; rfl
theorem keep_call' (W w : World) (L : List HProp) (bb : Nat) (b : Bk) (pool : List HProp) (A : Option Addr) (c : Nat) (y : List UInt8) (hs : Sat W w (RowOf eB 5 1 A c y :: (b.L bb pool ++ L))) (ok : BkOK b pool) (hl : b.ls.length ≤ 1000000000) (hy : y.length ≤ 1099511627776) :
    Calls Try.prog 41 [Value.pointer (some ⟨bb, 0, none⟩), .slice A y.length c].toArray w (Ret fun v w' => v = .tuple #[] ∧ ∃ b', BkOK b' pool ∧ b'.ls.length = b.ls.length + 1 ∧ b'.fs.length = b.fs.length ∧ b'.ns.length = b.ns.length ∧ b'.hh = b.hh ∧ b'.ii = b.ii ∧ b'.jj = b.jj ∧ Sat W w' (b'.L bb pool ++ L)) := by
  refine Calls.ret (keep_call W w L bb b pool A c y hs ok hl hy) ?_
  rintro v w' ⟨rfl, LA, lc, MA, mc, m, hs⟩
  exact ⟨rfl, _, ok.kept LA lc MA mc m hy, by show (b.ls ++ [_]).length = _; rw [List.length_append]; rfl, rfl, rfl, rfl, rfl, rfl, hs⟩
theorem wipes_call' (W w : World) (L : List HProp) (bb : Nat) (b : Bk) (pool : List HProp) (A : Option Addr) (c : Nat) (y : List Nm) (hs : Sat W w (RowOf eN 9 1 A c y :: (b.L bb pool ++ L))) (ok : BkOK b pool) (hl : b.ns.length ≤ 1000000000) (hy : y.length ≤ 1099511627776) :
    Calls Try.prog 42 [Value.pointer (some ⟨bb, 0, none⟩), .slice A y.length c].toArray w (Ret fun v w' => v = .tuple #[] ∧ ∃ b', BkOK b' pool ∧ b'.ls.length = b.ls.length ∧ b'.fs.length = b.fs.length ∧ b'.ns.length = b.ns.length + 1 ∧ b'.hh = b.hh ∧ b'.ii = b.ii ∧ b'.jj = b.jj ∧ Sat W w' (b'.L bb pool ++ L)) := by
  refine Calls.ret (wipes_call W w L bb b pool A c y hs ok hl hy) ?_
  rintro v w' ⟨rfl, NA, nc, TA, tc, m, hm, hs⟩
  exact ⟨rfl, _, ok.wiped NA nc TA tc hy hm, rfl, rfl, by show (b.ns ++ [_]).length = _; rw [List.length_append]; rfl, rfl, rfl, rfl, hs⟩
theorem Fi_succ {α : Type} (i : Nat) (l : List α) : Fi (i + 1) l = l := by unfold Fi; rw [if_neg (Nat.succ_ne_zero i)]
set_option maxHeartbeats 16000000 in
theorem looked_call (W w : World) (L : List HProp) (bb : Nat) (b : Bk) (pool : List HProp) (d : Nat) (D : DS) (nm : Nm) (keep : Int) (C : Option Addr) (cc : Nat) (cuts : List (Int × Int)) (hs : Sat W w (b.L bb pool ++ (HD d D :: L))) (ok : BkOK b pool) (g1 : b.hh.length = b.ls.length) (g2 : b.ii.length = b.fs.length) (g3 : b.jj.length = b.ns.length)
    (hf : Fit D) (hfs : D.fs.length ≤ 1000) (hnm : nm.length ≤ 140737488355328) (hk : -9223372036854775808 ≤ keep ∧ keep ≤ 9223372036854775807) (rc : Rd eP W C cuts) (hcl : cuts.length ≤ 140737488355328) (s1 : b.ls.length ≤ 900000000) (s2 : b.fs.length ≤ 900000000) (s3 : b.ns.length ≤ 900000000) :
    Calls Try.prog 45 [Value.pointer (some ⟨bb, 0, none⟩), .pointer (some ⟨d, 0, none⟩), sv nm, .int .i64 keep, .slice C cuts.length cc].toArray w (Ret fun v w' => v = .bool true ∧ ∃ b' pool', BkOK b' pool' ∧ b'.hh.length = b'.ls.length ∧ b'.ii.length = b'.fs.length ∧ b'.jj.length = b'.ns.length ∧ b'.ls.length ≤ b.ls.length + 4004 ∧ b'.fs.length ≤ b.fs.length + 4 ∧ b'.ns.length ≤ b.ns.length + 2 ∧ Sat W w' (b'.L bb pool' ++ (HD d D :: L))) := by
  refine Calls_of Try.func45 rfl 107 Try.ntmps45 rfl ?_
  obtain ⟨F, hF⟩ : ∃ F, D.files = F := ⟨_, rfl⟩
  obtain ⟨X, hX⟩ : ∃ X, D.crash keep cuts = X := ⟨_, rfl⟩
  obtain ⟨R, hR⟩ : ∃ R, D.read nm = R := ⟨_, rfl⟩
  obtain ⟨N, hN⟩ : ∃ N, D.list = N := ⟨_, rfl⟩
  have hnl := now_le hf.good
  have hFl : F.length ≤ 1000 := by rw [← hF]; unfold DS.files filesOf; rw [List.length_map]; omega
  have hXl : X.length ≤ 1000 := by rw [← hX]; exact Nat.le_trans (crash_len hf.good keep cuts) hfs
  have hFd : ∀ f ∈ F, f.2.length ≤ 4194304 := fun f h => by
    rw [← hF] at h
    unfold DS.files filesOf at h
    obtain ⟨p, hp, rfl⟩ := List.mem_map.1 h
    exact dat_bd hf.good (hf.good.subNow (List.mem_map.2 ⟨p, hp, rfl⟩))
  have hXd : ∀ f ∈ X, f.2.length ≤ 4194304 := fun f h => (sz_crash hf keep cuts).2 f (hX ▸ h)
  have hNF : D.down = false → N.length = F.length := fun e => by
    rw [← hN, ← hF]
    unfold DS.list DS.files filesOf
    rw [e, List.length_map]; simp
  have hNl : N.length ≤ 1000 := by
    rw [← hN]; unfold DS.list
    split
    · exact Nat.zero_le _
    · rw [List.length_map]; omega
  have hRl : R.length ≤ 4194304 := by
    rw [← hR]; unfold DS.read
    split
    · rename_i h0
      obtain ⟨j, hj⟩ : ∃ j, (D.find nm).2 = j := ⟨_, rfl⟩
      exact dat_bd hf.good (hf.good.findId h0)
    · exact Nat.zero_le _
  have hfi : ∀ {w : World} {L : List HProp}, Sat W w (HD d D :: L) → Calls Try.prog 29 [Value.pointer (some ⟨d, 0, none⟩)].toArray w (Ret fun v w' => ∃ A c, v = .slice A F.length c ∧ Sat W w' (HF A c F :: HD d D :: L)) := fun {w L} h => by rw [← hF]; exact files_call W w L d D h hf
  have hcr : ∀ {w : World} {L : List HProp}, Sat W w (HD d D :: L) → Calls Try.prog 23 [Value.pointer (some ⟨d, 0, none⟩), .int .i64 keep, .slice C cuts.length cc].toArray w (Ret fun v w' => ∃ A c, v = .slice A X.length c ∧ Sat W w' (HF A c X :: HD d D :: L)) := fun {w L} h => by rw [← hX]; exact crash_call W w L d D keep C cc cuts h hf hk (fun w' h => rc.of h) hcl
  have hre : ∀ {w : World} {L : List HProp}, Sat W w (HD d D :: L) → Calls Try.prog 26 [Value.pointer (some ⟨d, 0, none⟩), sv nm].toArray w (Ret fun v w' => ∃ A c, v = .tuple #[.slice A R.length c, .int .i64 (D.find nm).1] ∧ Sat W w' (RowOf eB 5 1 A c R :: HD d D :: L)) := fun {w L} h => by rw [← hR]; exact read_call W w L d D nm h hf hnm
  have hli : ∀ {w : World} {L : List HProp}, Sat W w (HD d D :: L) → Calls Try.prog 38 [Value.pointer (some ⟨d, 0, none⟩)].toArray w (Ret fun v w' => ∃ A c, v = .slice A N.length c ∧ Sat W w' (RowOf eN 9 1 A c N :: HD d D :: L)) := fun {w L} h => by rw [← hN]; exact list_call W w L d D h hf
  have hfa : ∀ {w : World} {Z : List File} {A B : Option Addr} {k1 k2 : Nat}, Z.length ≤ 1000 → (∀ f ∈ Z, f.2.length ≤ 4194304) → RdF w A Z → RdF w B Z → Calls Try.prog 21 [Value.slice A Z.length k1, .slice B Z.length k2].toArray w (Ret fun v w' => v = .bool true ∧ Sat w w' []) := fun {w Z A B k1 k2} hz hzd h1 h2 => by
    have := filesAlike_call w Z Z A B k1 k2 h1 h2 (by omega) (fun f hf => by have := hzd f hf; omega)
    rwa [decide_eq_true rfl] at this
  (repeat' (first | (refine isLW ?_; first | refine LW_nil ?_ | refine LW_pure TOK rfl ?_) | (with_reducible first | refine then_n ?_ | refine CW_seq ?_ | refine CW_region ?_ | refine CW_block ?_)))
  have hs1 := (Sat.closeHF (rs := []) (l := []) rfl ((Sat.mkBig (l := []) (hs.nilRow 30 2)).picks [1]))
  have hs2 := (Sat.closeHF (rs := []) (l := []) rfl ((Sat.mkBig (l := []) (hs1.nilRow 30 2)).picks [1]))
  have hs3 : Sat W w (RowOf eB 5 1 none 0 [] :: HF none 0 [] :: HF none 0 [] :: (b.L bb pool ++ (HD d D :: L))) := hs2.nilRow 5 1
  replace hs : Sat W w (lkL bb b pool d D none none none 0 0 0 (Fi 0 F) (Fi 0 X) (Fi 0 R) L) := by
    have h4 : Sat W w ([HF none 0 [], HF none 0 [], RowOf eB 5 1 none 0 []] ++ (b.L bb pool ++ ([HD d D] ++ L))) := hs3.picks [1, 1, 0]
    exact Sat.swp2 (Sat.swp h4)
  clear hs1 hs2 hs3
  refine CW_loop (γ := Nat × Bk × List HProp × (Option Addr × Nat) × (Option Addr × Nat) × (Option Addr × Nat)) (fun g => [(0, .pointer (some ⟨bb, 0, none⟩)), (1, .pointer (some ⟨d, 0, none⟩)), (2, sv nm), (3, .int .i64 keep), (4, .slice C cuts.length cc), (11, .slice g.2.2.2.1.1 (Fi g.1 F).length g.2.2.2.1.2), (12, .slice g.2.2.2.2.1.1 (Fi g.1 X).length g.2.2.2.2.1.2), (13, .slice g.2.2.2.2.2.1 (Fi g.1 R).length g.2.2.2.2.2.2), (14, .int .i64 (g.1 : Int))])
    (fun g w' => Sat W w' (lkL bb g.2.1 g.2.2.1 d D g.2.2.2.1.1 g.2.2.2.2.1.1 g.2.2.2.2.2.1 g.2.2.2.1.2 g.2.2.2.2.1.2 g.2.2.2.2.2.2 (Fi g.1 F) (Fi g.1 X) (Fi g.1 R) L) ∧ BkOK g.2.1 g.2.2.1 ∧ g.2.1.hh.length = g.2.1.ls.length ∧ g.2.1.ii.length = g.2.1.fs.length ∧ g.2.1.jj.length = g.2.1.ns.length ∧ g.1 ≤ 2 ∧ g.2.1.ls.length ≤ b.ls.length + 2002 * g.1 ∧ g.2.1.fs.length ≤ b.fs.length + 2 * g.1 ∧ g.2.1.ns.length ≤ b.ns.length + g.1) (fun g => 2 - g.1) (0, b, pool, (none, 0), (none, 0), (none, 0)) ⟨rfl, rfl, rfl, rfl, rfl, rfl, rfl, rfl, rfl, trivial⟩ ⟨hs, ok, g1, g2, g3, Nat.zero_le _, Nat.le_add_right _ _, Nat.le_add_right _ _, Nat.le_add_right _ _⟩ ?_
  clear hs ok g1 g2 g3
  rintro ⟨i, b', pool', ⟨Af, cf⟩, ⟨Al, cl⟩, ⟨Ab, cb⟩⟩ τ w ⟨hs, ok, g1, g2, g3, hi, t1, t2, t3⟩
  dsimp only at hs ok g1 g2 g3 hi t1 t2 t3 ⊢
  by_cases hlt : i < 2
  case neg =>
    (repeat' (first | (refine isLW ?_; first | refine LW_nil ?_ | (refine isLcall ?_; first | (refine LW_call (cap := []) rfl rfl ent44 (stands_call W _ _ bb b' pool' hs ok g1 g2 g3 (by omega) (by omega) (by omega)) ?_; rintro _ w2 ⟨rfl, hs2⟩; replace hs := hs.and0 hs2; clear hs2)) | (refine isLbin ?_; first | (refine LW_cmp rfl (fun _ => ?_) (fun _ => ?_) <;> try (exfalso; omega))) | refine LW_pure TOK rfl ?_) | (with_reducible first | refine then_n ?_ | refine CW_seq ?_ | refine CW_region ?_ | refine CW_exit ?_ | refine CW_ret ?_ | refine then_e ?_ | refine blk_same ?_) | refine CW_false rfl ?_ | refine RET1 Try.results45 rfl ?_))
    have h1 := Sat.dropN (hs.picks [15, 15, 15]) 3
    exact ⟨rfl, b', pool', ok, g1, g2, g3, by omega, by omega, by omega, h1⟩
  case pos =>
  (repeat' (first | refine CW_late7 (fun a w => ∃ (A1 A2 A3 A4 : Option Addr) (c1 c2 c3 c4 : Nat) (rs1 rs2 : List RF) (τ : Nat → Value), a = FR 107 [(0, .pointer (some ⟨bb, 0, none⟩)), (1, .pointer (some ⟨d, 0, none⟩)), (2, sv nm), (3, .int .i64 keep), (4, .slice C cuts.length cc), (14, .int .i64 (i : Int)), (15, .slice A1 F.length c1), (16, .slice A2 X.length c2), (17, .slice A3 R.length c3), (19, .slice A4 N.length c4)] τ [] ∧ rs1.map RF.f = F ∧ rs2.map RF.f = X ∧ Sat W w (RowOf eF 30 2 A1 c1 rs1 :: Big (rs1.map RF.P) :: RowOf eF 30 2 A2 c2 rs2 :: Big (rs2.map RF.P) :: RowOf eB 5 1 A3 c3 R :: RowOf eN 9 1 A4 c4 N :: (b'.L bb pool' ++ (HD d D :: L)))) ?_ ?_ | (refine isLW ?_; first | refine LW_nil ?_ | (refine isLbin ?_; first | (refine LW_cmp rfl (fun _ => ?_) (fun _ => ?_) <;> try (exfalso; omega))) | refine LW_pure TOK rfl ?_) | (with_reducible first | refine then_n ?_ | refine CW_seq ?_ | refine CW_region ?_ | refine CW_block ?_ | refine CW_skip ?_) | refine CW_true rfl ?_))
  · clear hs
    rintro _ w ⟨A1, A2, A3, A4, c1, c2, c3, c4, rs1, rs2, τ, rfl, e1, e2, hs⟩
    have hr1l : rs1.length = F.length := by rw [← e1, List.length_map]
    have hr2l : rs2.length = X.length := by rw [← e2, List.length_map]
    have hsp1 : ∀ {w : World} {L : List HProp}, Sat W w (RowOf eF 30 2 A1 c1 rs1 :: Big (rs1.map RF.P) :: (b'.L bb pool' ++ L)) → Calls Try.prog 40 [Value.pointer (some ⟨bb, 0, none⟩), .slice A1 F.length c1].toArray w (Ret fun v w' => v = .tuple #[] ∧ ∃ b2, BkOK b2 pool' ∧ b2.ls.length = b'.ls.length + F.length ∧ b2.fs.length = b'.fs.length + 1 ∧ b2.ns.length = b'.ns.length ∧ b2.hh = b'.hh ∧ b2.ii = b'.ii ∧ b2.jj = b'.jj ∧ Sat W w' (b2.L bb pool' ++ L)) := fun {w L} h => by
      rw [← hr1l]
      exact spoils_call W w L bb b' pool' A1 c1 rs1 h ok (by omega) (by omega) (fun r hr => by have := hFd r.f (e1 ▸ List.mem_map.2 ⟨r, hr, rfl⟩); show r.data.length ≤ _; have e : r.f.2.length = r.data.length := rfl; omega)
    have hsp2 : ∀ {w : World} {L : List HProp} {b2 : Bk}, BkOK b2 pool' → b2.ls.length + X.length ≤ 1000000000 → b2.fs.length ≤ 1000000000 → Sat W w (RowOf eF 30 2 A2 c2 rs2 :: Big (rs2.map RF.P) :: (b2.L bb pool' ++ L)) → Calls Try.prog 40 [Value.pointer (some ⟨bb, 0, none⟩), .slice A2 X.length c2].toArray w (Ret fun v w' => v = .tuple #[] ∧ ∃ b3, BkOK b3 pool' ∧ b3.ls.length = b2.ls.length + X.length ∧ b3.fs.length = b2.fs.length + 1 ∧ b3.ns.length = b2.ns.length ∧ b3.hh = b2.hh ∧ b3.ii = b2.ii ∧ b3.jj = b2.jj ∧ Sat W w' (b3.L bb pool' ++ L)) := fun {w L b2} k h1 h2 h => by
      rw [← hr2l] at h1 ⊢
      exact spoils_call W w L bb b2 pool' A2 c2 rs2 h k h1 h2 (fun r hr => by have := hXd r.f (e2 ▸ List.mem_map.2 ⟨r, hr, rfl⟩); show r.data.length ≤ _; have e : r.f.2.length = r.data.length := rfl; omega)
    (repeat' (first | (refine isLW ?_; first | refine LW_nil ?_ | (refine isLcall ?_; first | (refine LW_call (cap := []) rfl rfl ent16 (copies_call _ F A1 c1 ⟨rs1, e1, hs.rd 0 rfl, bigRd (hs.picks [1])⟩ (by omega) (fun f h => by have := hFd f h; omega)) ?_; rintro _ w2 ⟨A5, c5, rfl, hs2⟩; replace hs := hs.and1 hs2; clear hs2) | (refine LW_call (cap := []) rfl rfl ent16 (copies_call _ X A2 c2 ⟨rs2, e2, hs.rd 3 rfl, bigRd (hs.picks [4])⟩ (by omega) (fun f h => by have := hXd f h; omega)) ?_; rintro _ w2 ⟨A6, c6, rfl, hs2⟩; replace hs := hs.and1 hs2; clear hs2) | (refine LW_call (cap := []) rfl rfl ent17 (copied_call _ R A3 c3 (hs.rd 6 rfl) (by omega)) ?_; rintro _ w2 ⟨A7, c7, rfl, hs2⟩; replace hs := hs.and1 hs2; clear hs2; replace hs : Sat W w2 ([RowOf eF 30 2 A1 c1 rs1, Big (rs1.map RF.P)] ++ ([RowOf eF 30 2 A2 c2 rs2, Big (rs2.map RF.P), RowOf eB 5 1 A3 c3 R, RowOf eN 9 1 A4 c4 N, HF A5 c5 F, HF A6 c6 X, RowOf eB 5 1 A7 c7 R] ++ (b'.L bb pool' ++ ([HD d D] ++ L)))) := hs.picks [3, 3, 3, 3, 3, 3, 2, 1, 0]; replace hs : Sat W w2 (RowOf eF 30 2 A1 c1 rs1 :: Big (rs1.map RF.P) :: (b'.L bb pool' ++ (RowOf eF 30 2 A2 c2 rs2 :: Big (rs2.map RF.P) :: RowOf eB 5 1 A3 c3 R :: RowOf eN 9 1 A4 c4 N :: HF A5 c5 F :: HF A6 c6 X :: RowOf eB 5 1 A7 c7 R :: HD d D :: L))) := Sat.swp2 hs) | (refine LW_call (cap := []) rfl rfl ent40 (hsp1 hs) ?_; clear hs; rintro _ w ⟨rfl, b2, ok2, k1, k2, k3, k4, k5, k6, hs⟩; replace hs : Sat W w (RowOf eF 30 2 A2 c2 rs2 :: Big (rs2.map RF.P) :: (b2.L bb pool' ++ (RowOf eB 5 1 A3 c3 R :: RowOf eN 9 1 A4 c4 N :: HF A5 c5 F :: HF A6 c6 X :: RowOf eB 5 1 A7 c7 R :: HD d D :: L))) := hs.picks [14, 14]) | (refine LW_call (cap := []) rfl rfl ent40 (hsp2 ok2 (by omega) (by omega) hs) ?_; clear hs; rintro _ w ⟨rfl, b3, ok3, m1, m2, m3, m4, m5, m6, hs⟩; replace hs : Sat W w (RowOf eB 5 1 A3 c3 R :: (b3.L bb pool' ++ (RowOf eN 9 1 A4 c4 N :: HF A5 c5 F :: HF A6 c6 X :: RowOf eB 5 1 A7 c7 R :: HD d D :: L))) := hs.picks [14]) | (refine LW_call (cap := []) rfl rfl ent41 (keep_call' W _ _ bb b3 pool' A3 c3 R hs ok3 (by omega) (by omega)) ?_; clear hs; rintro _ w ⟨rfl, b4, ok4, n1, n2, n3, n4, n5, n6, hs⟩; replace hs : Sat W w (RowOf eN 9 1 A4 c4 N :: (b4.L bb pool' ++ (HF A5 c5 F :: HF A6 c6 X :: RowOf eB 5 1 A7 c7 R :: HD d D :: L))) := hs.picks [14]) | (refine LW_call (cap := []) rfl rfl ent42 (wipes_call' W _ _ bb b4 pool' A4 c4 N hs ok4 (by omega) (by omega)) ?_; clear hs; rintro _ w ⟨rfl, b5, ok5, p1, p2, p3, p4, p5, p6, hs⟩) | (refine LW_call (cap := []) rfl rfl ent43 (grow_call W _ _ bb b5 pool' hs ok5 (by omega) (by omega) (by omega)) ?_; clear hs; rintro _ w ⟨rfl, b6, pool6, ok6, gr, q1, q2, q3, hs⟩)) | (refine isLbin ?_; first | refine LW_i64 rfl (by omega) (by omega) ?_) | refine LW_pure TOK rfl ?_) | (with_reducible first | refine then_n ?_ | refine CW_seq ?_ | refine CW_region ?_ | refine blk_n ?_)))
    have r1 := congrArg List.length gr.ls
    have r2 := congrArg List.length gr.fs
    have r3 := congrArg List.length gr.ns
    refine ⟨(i + 1, b6, pool6, (A5, c5), (A6, c6), (A7, c7)), _, FR_forget _ ⟨rfl, rfl, rfl, rfl, rfl, by show some _ = some _; rw [Fi_succ], by show some _ = some _; rw [Fi_succ], by show some _ = some _; rw [Fi_succ], (by push_cast; rfl), trivial⟩, ⟨?_, ok6, by dsimp only; omega, by dsimp only; omega, by dsimp only; omega, by dsimp only; omega, by dsimp only; omega, by dsimp only; omega, by dsimp only; omega⟩, by dsimp only; omega⟩
    dsimp only [lkL]
    rw [Fi_succ, Fi_succ, Fi_succ]
    have h9 : Sat W w (b6.L bb pool6 ++ ([HF A5 c5 F, HF A6 c6 X, RowOf eB 5 1 A7 c7 R] ++ ([HD d D] ++ L))) := hs
    exact Sat.swp2 h9
  · intro hM
    refine CW_late5 (fun a w => ∃ (A1 A2 A3 A4 : Option Addr) (c1 c2 c3 c4 : Nat) (rs1 rs2 : List RF) (τ : Nat → Value), a = FR 107 [(0, .pointer (some ⟨bb, 0, none⟩)), (1, .pointer (some ⟨d, 0, none⟩)), (2, sv nm), (3, .int .i64 keep), (4, .slice C cuts.length cc), (11, .slice Af (Fi i F).length cf), (12, .slice Al (Fi i X).length cl), (13, .slice Ab (Fi i R).length cb), (14, .int .i64 (i : Int)), (15, .slice A1 F.length c1), (16, .slice A2 X.length c2), (17, .slice A3 R.length c3), (19, .slice A4 N.length c4)] τ [] ∧ rs1.map RF.f = F ∧ rs2.map RF.f = X ∧ Sat W w (RowOf eF 30 2 A1 c1 rs1 :: Big (rs1.map RF.P) :: RowOf eF 30 2 A2 c2 rs2 :: Big (rs2.map RF.P) :: RowOf eB 5 1 A3 c3 R :: RowOf eN 9 1 A4 c4 N :: (b'.L bb pool' ++ (HD d D :: HF Af cf (Fi i F) :: HF Al cl (Fi i X) :: RowOf eB 5 1 Ab cb (Fi i R) :: L)))) ?_ ?_
    · clear hs
      rintro _ w ⟨A1, A2, A3, A4, c1, c2, c3, c4, rs1, rs2, τ, rfl, e1, e2, hs⟩
      have hna : ∀ {j : Nat}, j < N.length → rd N (j : Int) = (rd rs1 (j : Int)).n := fun {j} hj => by
        rw [← hN] at hj ⊢
        exact names_at (by rw [e1, hF]) hj
      have hrl : N.length ≤ rs1.length := by
        have : rs1.length = F.length := by rw [← e1, List.length_map]
        rw [this]
        cases hdn : D.down with
        | false => exact Nat.le_of_eq (hNF hdn)
        | true => rw [← hN]; unfold DS.list; rw [hdn]; exact Nat.zero_le _
      have hr1l : rs1.length = F.length := by rw [← e1, List.length_map]
      (repeat' (first | (refine isLW ?_; first | refine LW_nil ?_ | refine LW_pure TOK rfl ?_) | (with_reducible first | refine then_n ?_ | refine CW_seq ?_ | refine CW_region ?_ | refine CW_block ?_)))
      refine CW_loop (γ := Nat) (fun j => [(0, .pointer (some ⟨bb, 0, none⟩)), (1, .pointer (some ⟨d, 0, none⟩)), (2, sv nm), (3, .int .i64 keep), (4, .slice C cuts.length cc), (11, .slice Af (Fi i F).length cf), (12, .slice Al (Fi i X).length cl), (13, .slice Ab (Fi i R).length cb), (14, .int .i64 (i : Int)), (15, .slice A1 F.length c1), (16, .slice A2 X.length c2), (17, .slice A3 R.length c3), (19, .slice A4 N.length c4), (20, .int .i64 (j : Int))]) (fun j w' => Sat W w' (RowOf eF 30 2 A1 c1 rs1 :: Big (rs1.map RF.P) :: RowOf eF 30 2 A2 c2 rs2 :: Big (rs2.map RF.P) :: RowOf eB 5 1 A3 c3 R :: RowOf eN 9 1 A4 c4 N :: (b'.L bb pool' ++ (HD d D :: HF Af cf (Fi i F) :: HF Al cl (Fi i X) :: RowOf eB 5 1 Ab cb (Fi i R) :: L))) ∧ j ≤ N.length) (fun j => N.length - j) 0 ⟨rfl, rfl, rfl, rfl, rfl, rfl, rfl, rfl, rfl, rfl, rfl, rfl, rfl, rfl, trivial⟩ ⟨hs, Nat.zero_le _⟩ ?_
      clear hs
      rintro j τ w ⟨hs, hj⟩
      by_cases hjl : j < N.length
      · have hq := hna hjl
        (repeat' (first | refine DP_strNe (a := rd N (j : Int)) (b := (rd rs1 (j : Int)).n) rfl rfl trivial rfl rfl rfl rfl (fun hne => absurd hq hne) (fun _ => ?_) | (refine isLW ?_; first | refine LW_nil ?_ | (refine isLcall ?_; first | refine LW_pure TOK rfl ?_) | (refine isLbin ?_; first | refine LW_i64 rfl (by omega) (by omega) ?_ | (refine LW_cmp rfl (fun _ => ?_) (fun _ => ?_) <;> try (exfalso; omega))) | refine LW_pure TOK rfl ?_) | (refine isDP ?_; first | (refine isDnil ?_; first | refine DP_end ?_ ?_) | (refine isDload rfl ?_; first | refine DP_loadRd (v := sv (rd rs1 (j : Int)).n) (hs.rd 0 rfl) (fun _ => rfl) (Sat.start _) TOK rfl rfl trivial rfl (by assumption) rfl rfl (by omega) (by omega) rfl ?_ ?_ | refine DP_loadRd0 (hs.rd 5 rfl) (fun _ => rfl) (Sat.start _) TOK rfl rfl (by first | exact trivial | rfl) rfl (by assumption) rfl rfl (by omega) (by omega) rfl ?_ ?_) | (refine isDidx rfl ?_; first | (refine DP_indexRdN (hs.rd 0 rfl) TOK rfl rfl trivial rfl rfl rfl rfl rfl (by omega) (by omega) (by omega) ?_; intro _ _ _) | (refine DP_indexRd (hs.rd 5 rfl) TOK rfl rfl (by first | exact trivial | rfl) rfl rfl rfl rfl rfl (by omega) (by omega) ?_; intro _ _ _)) | refine DP_pure TOK rfl rfl (by first | exact trivial | rfl) rfl ?_) | (refine isI0 ?_; exact Inv.nil) | (refine isI1 ?_; first | refine Inv.keepB (Sat.start _) ?_) | (with_reducible first | refine then_n ?_ | refine CW_seq ?_ | refine CW_region ?_ | refine CW_block ?_ | refine CW_skip ?_ | refine blk_n ?_) | refine CW_true rfl ?_ | refine CW_false rfl ?_ | (refine CW_drawP (id := 16) [] [0, 1, 2, 3, 4, 5, 6, 7, 8, 9] mixed (by kernel_rfl) hs ?_; clear hs; intro hs)))
        exact ⟨j + 1, _, FR_forget _ ⟨rfl, rfl, rfl, rfl, rfl, rfl, rfl, rfl, rfl, rfl, rfl, rfl, rfl, (by push_cast; rfl), trivial⟩, ⟨hs, hjl⟩, by omega⟩
      · rcases (by omega : i = 0 ∨ i = 1) with rfl | rfl
        · (repeat' (first | refine hM _ _ ?_ | (refine isLW ?_; first | refine LW_nil ?_ | (refine isLg ?_; first | refine LW_pass rfl rfl ?_ | refine LW_passV rfl rfl rfl ?_) | (refine isLcall ?_; first | refine LW_pure TOK rfl ?_) | (refine isLbin ?_; first | (refine LW_cmp rfl (fun _ => ?_) (fun _ => ?_) <;> try (exfalso; omega))) | refine LW_pure TOK rfl ?_) | (with_reducible first | refine then_n ?_ | refine CW_seq ?_ | refine CW_region ?_ | refine CW_skip ?_ | refine CW_exit ?_ | refine then_e ?_ | refine blk_same ?_) | refine CW_false rfl ?_))
          have h9 : Sat W w (([RowOf eF 30 2 A1 c1 rs1, Big (rs1.map RF.P), RowOf eF 30 2 A2 c2 rs2, Big (rs2.map RF.P), RowOf eB 5 1 A3 c3 R, RowOf eN 9 1 A4 c4 N] ++ (b'.L bb pool' ++ [HD d D])) ++ ([HF Af cf (Fi 0 F), HF Al cl (Fi 0 X), RowOf eB 5 1 Ab cb (Fi 0 R)] ++ L)) := hs
          exact ⟨A1, A2, A3, A4, c1, c2, c3, c4, rs1, rs2, _, FR_forget _ ⟨rfl, rfl, rfl, rfl, rfl, rfl, rfl, rfl, rfl, rfl, trivial⟩, e1, e2, Sat.skipB h9⟩
        · rw [show Fi 1 F = F from Fi_succ 0 F, show Fi 1 X = X from Fi_succ 0 X, show Fi 1 R = R from Fi_succ 0 R] at hs
          rw [show Fi 1 F = F from Fi_succ 0 F, show Fi 1 X = X from Fi_succ 0 X, show Fi 1 R = R from Fi_succ 0 R]
          (repeat' (first | refine hM _ _ ?_ | (refine isLW ?_; first | refine LW_nil ?_ | (refine isLg ?_; first | refine LW_take rfl ?_) | (refine isLcall ?_; first | (refine LW_call (cap := []) rfl rfl ent21 (hfa hFl hFd ⟨rs1, e1, hs.rd 0 rfl, bigRd (hs.picks [1])⟩ (Sat.rdF (hs.picks [21]))) ?_; rintro _ w2 ⟨rfl, hs2⟩; replace hs := hs.and0 hs2; clear hs2) | (refine LW_call (cap := []) rfl rfl ent21 (hfa hXl hXd ⟨rs2, e2, hs.rd 2 rfl, bigRd (hs.picks [3])⟩ (Sat.rdF (hs.picks [22]))) ?_; rintro _ w2 ⟨rfl, hs2⟩; replace hs := hs.and0 hs2; clear hs2) | (refine LW_call (cap := []) rfl rfl ent27 (alike_call _ R R _ _ _ _ (hs.rd 4 rfl) (hs.rd 23 rfl) (by omega)) ?_; rw [decide_eq_true rfl]; rintro _ w2 ⟨rfl, hs2⟩; replace hs := hs.and0 hs2; clear hs2) | refine LW_pure TOK rfl ?_) | (refine isLbin ?_; first | (refine LW_cmp rfl (fun _ => ?_) (fun _ => ?_) <;> try (exfalso; omega))) | refine LW_pure TOK rfl ?_) | (with_reducible first | refine then_n ?_ | refine CW_seq ?_ | refine CW_region ?_ | refine CW_skip ?_ | refine CW_exit ?_ | refine then_e ?_ | refine blk_same ?_) | refine CW_false rfl ?_))
          have h9 : Sat W _ (([RowOf eF 30 2 A1 c1 rs1, Big (rs1.map RF.P), RowOf eF 30 2 A2 c2 rs2, Big (rs2.map RF.P), RowOf eB 5 1 A3 c3 R, RowOf eN 9 1 A4 c4 N] ++ (b'.L bb pool' ++ [HD d D])) ++ ([HF Af cf F, HF Al cl X, RowOf eB 5 1 Ab cb R] ++ L)) := hs
          exact ⟨A1, A2, A3, A4, c1, c2, c3, c4, rs1, rs2, _, FR_forget _ ⟨rfl, rfl, rfl, rfl, rfl, rfl, rfl, rfl, rfl, rfl, trivial⟩, e1, e2, Sat.skipB h9⟩
    · intro hM0
      have hs0 : Sat W w (HD d D :: b'.L bb pool' ++ (HF Af cf (Fi i F) :: HF Al cl (Fi i X) :: RowOf eB 5 1 Ab cb (Fi i R) :: L)) := (by
        have h9 : Sat W w (b'.L bb pool' ++ ([HD d D] ++ (HF Af cf (Fi i F) :: HF Al cl (Fi i X) :: RowOf eB 5 1 Ab cb (Fi i R) :: L))) := hs
        exact Sat.swp h9)
      clear hs
      have hs := hs0
      clear hs0
      have hnf : D.down = true ∨ (D.down = false ∧ N.length = F.length) := by
        cases hdn : D.down with
        | true => exact .inl rfl
        | false => exact .inr ⟨rfl, hNF hdn⟩
      obtain ⟨dn, hdn⟩ : ∃ dn, D.down = dn := ⟨_, rfl⟩
      rw [hdn] at hnf
      have hdo : ∀ {w : World} {L : List HProp}, Sat W w (HD d D :: L) → Calls Try.prog 47 [Value.pointer (some ⟨d, 0, none⟩)].toArray w (Ret fun v w' => v = .bool dn ∧ Sat W w' (HD d D :: L)) := fun {w L} h => by rw [← hdn]; exact down_call W w L d D h
      clear hdn
      rcases hnf with rfl | ⟨rfl, hnf⟩
      all_goals
        (repeat' (first | refine hM0 _ _ ?_ | (refine isLW ?_; first | refine LW_nil ?_ | (refine isLg ?_; first | refine LW_take rfl ?_ | refine LW_pass rfl rfl ?_) | (refine isLcall ?_; first | (refine LW_call (cap := []) rfl rfl ent29 (hfi hs) ?_; clear hs; rintro _ w ⟨A1, c1, rfl, hs⟩; replace hs : Sat W w (HD d D :: HF A1 c1 F :: b'.L bb pool' ++ (HF Af cf (Fi i F) :: HF Al cl (Fi i X) :: RowOf eB 5 1 Ab cb (Fi i R) :: L)) := hs.picks [1]) | (refine LW_call (cap := []) rfl rfl ent23 (hcr hs) ?_; clear hs; rintro _ w ⟨A2, c2, rfl, hs⟩; replace hs : Sat W w (HD d D :: HF A2 c2 X :: HF A1 c1 F :: b'.L bb pool' ++ (HF Af cf (Fi i F) :: HF Al cl (Fi i X) :: RowOf eB 5 1 Ab cb (Fi i R) :: L)) := hs.picks [1]) | (refine LW_call (cap := []) rfl rfl ent26 (hre hs) ?_; clear hs; rintro _ w ⟨A3, c3, rfl, hs⟩; replace hs : Sat W w (HD d D :: RowOf eB 5 1 A3 c3 R :: HF A2 c2 X :: HF A1 c1 F :: b'.L bb pool' ++ (HF Af cf (Fi i F) :: HF Al cl (Fi i X) :: RowOf eB 5 1 Ab cb (Fi i R) :: L)) := hs.picks [1]) | (refine LW_call (cap := []) rfl rfl ent38 (hli hs) ?_; clear hs; rintro _ w ⟨A4, c4, rfl, hs⟩; replace hs : Sat W w (HD d D :: RowOf eN 9 1 A4 c4 N :: RowOf eB 5 1 A3 c3 R :: HF A2 c2 X :: HF A1 c1 F :: b'.L bb pool' ++ (HF Af cf (Fi i F) :: HF Al cl (Fi i X) :: RowOf eB 5 1 Ab cb (Fi i R) :: L)) := hs.picks [1]) | (refine LW_call (cap := []) rfl rfl ent47 (hdo hs) ?_; clear hs; rintro _ w ⟨rfl, hs⟩) | refine LW_pure TOK rfl ?_) | (refine isLbin ?_; first | (refine LW_cmp rfl (fun _ => ?_) (fun _ => ?_) <;> try (exfalso; omega))) | refine LW_pure TOK rfl ?_) | (with_reducible first | refine then_n ?_ | refine CW_seq ?_ | refine CW_region ?_ | refine CW_skip ?_) | refine CW_false rfl ?_))
        obtain ⟨rs1, e1, hs1⟩ := Sat.openHF (hs.picks [4])
        obtain ⟨rs2, e2, hs2⟩ := Sat.openHF (hs1.picks [5])
        have h9 : Sat W _ ([RowOf eF 30 2 A1 c1 rs1, Big (rs1.map RF.P), RowOf eF 30 2 A2 c2 rs2, Big (rs2.map RF.P), RowOf eB 5 1 A3 c3 R, RowOf eN 9 1 A4 c4 N] ++ ([HD d D] ++ (b'.L bb pool' ++ (HF Af cf (Fi i F) :: HF Al cl (Fi i X) :: RowOf eB 5 1 Ab cb (Fi i R) :: L)))) := hs2.picks [2, 2, 0, 0, 2, 1, 0]
        exact ⟨A1, A2, A3, A4, c1, c2, c3, c4, rs1, rs2, _, FR_forget _ ⟨rfl, rfl, rfl, rfl, rfl, rfl, rfl, rfl, rfl, rfl, rfl, rfl, rfl, trivial⟩, e1, e2, Sat.swp2 h9⟩
end Go.Proofs.Ytoodgenbcfdloaa
