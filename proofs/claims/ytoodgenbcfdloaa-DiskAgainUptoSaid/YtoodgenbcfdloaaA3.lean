/- Walks: DiskAgain. -/
import Derived.Test.YtoodgenbcfdloaaA2
set_option linter.unusedVariables false
set_option linter.unusedSimpArgs false
namespace Go.Proofs.Ytoodgenbcfdloaa
open Go Go.Sl Go.RowKit
set_option maxRecDepth 100000
attribute [local irreducible] CW LW DW FR DP Calls

theorem row1Le {α : Type} {W w : World} {L : List HProp} {enc : α → List Value} {e : TypeId} {sz c : Nat} {A : Option Addr} {xs : List α} {z : α} (hs : Sat W w (RowOf enc e sz A c (xs ++ [z]) :: L)) : xs.length + 1 ≤ c := by
  have := hs.rowLe
  rwa [List.length_append] at this
set_option maxHeartbeats 16000000 in
theorem DiskAgain_call (W : World) (q : Int) (A0 : Option Addr) (c0 : Nat) (files : List RF) (Db : Option Addr) (dc : Nat) (data : List UInt8) (C : Option Addr) (cc : Nat) (cuts : List (Int × Int)) (T : Option Addr) (tc : Nat) (turns : List (Int × Int))
    (hq : -9223372036854775808 ≤ q ∧ q ≤ 9223372036854775807) (rf : Rd eF W A0 files) (rfd : ∀ r ∈ files, Rd eB W r.A r.data) (hnl : files.length ≤ 1048576) (hsum : sumLen (files.map RF.f) ≤ 1048576) (hnm : ∀ r ∈ files, r.n.length ≤ 140737488355328)
    (rd0 : Rd eB W Db data) (hdl : data.length ≤ 140737488351232) (rc : Rd eP W C cuts) (hcl : cuts.length ≤ 1048576) (rt : Rd eP W T turns) (htl : turns.length ≤ 9223372036854775807) :
    Calls Try.prog 3 [Value.int .i64 q, .slice A0 files.length c0, .slice Db data.length dc, .slice C cuts.length cc, .slice T turns.length tc].toArray W (Ret fun v w' => v = .bool true ∧ Sat W w' []) := by
  refine Calls_of Try.func3 rfl 267 Try.ntmps3 rfl ?_
  have hs := Sat.start W
  have hF : RdF W A0 (files.map RF.f) := ⟨files, rfl, rf, rfd⟩
  have hFl : (files.map RF.f).length = files.length := List.length_map _
  have hFd : ∀ f ∈ files.map RF.f, f.2.length ≤ 140737488355328 := fun f hf => by have := sum_mem hf; omega
  have hcop : ∀ {w : World} {L : List HProp}, Sat W w L → Calls Try.prog 16 [Value.slice A0 files.length c0].toArray w (Ret fun v w' => ∃ A' c', v = .slice A' files.length c' ∧ Sat w w' [HF A' c' (files.map RF.f)]) := fun {w L} h => by
    rw [← hFl]
    exact copies_call w (files.map RF.f) A0 c0 (hF.up h) (by omega) hFd
  have hcl2 : cuts.length ≤ maxLen := by unfold maxLen; omega
  by_cases hq2 : 65536 < q
  · (repeat' (first | (refine isLW ?_; first | refine LW_nil ?_ | (refine isLg ?_; first | refine LW_pass rfl rfl ?_) | (refine isLbin ?_; first | (refine LW_cmp rfl (fun _ => ?_) (fun _ => ?_) <;> try (exfalso; omega))) | refine LW_pure TOK rfl ?_) | (with_reducible first | refine then_n ?_ | refine CW_seq ?_ | refine CW_region ?_ | refine CW_ret ?_ | refine then_r ?_) | refine CW_true rfl ?_ | refine RET1 Try.results3 rfl ?_))
    exact ⟨rfl, hs⟩
  by_cases hd2 : 20000 < data.length
  · (repeat' (first | (refine isLW ?_; first | refine LW_nil ?_ | (refine isLg ?_; first | refine LW_take rfl ?_) | (refine isLcall ?_; first | refine LW_pure TOK rfl ?_) | (refine isLbin ?_; first | (refine LW_cmp rfl (fun _ => ?_) (fun _ => ?_) <;> try (exfalso; omega))) | refine LW_pure TOK rfl ?_) | (with_reducible first | refine then_n ?_ | refine CW_seq ?_ | refine CW_region ?_ | refine CW_ret ?_ | refine then_r ?_) | refine CW_true rfl ?_ | refine RET1 Try.results3 rfl ?_))
    exact ⟨rfl, hs⟩
  (repeat' (first | (refine isLW ?_; first | refine LW_nil ?_ | (refine isLg ?_; first | refine LW_take rfl ?_) | (refine isLcall ?_; first | (refine LW_call (cap := []) rfl rfl ent15 (ready_call W _ _ 4194304 (by omega) (by omega) hs) ?_; clear hs; rintro _ w ⟨da, rfl, hs⟩; rw [← zD_rdy] at hs) | (refine LW_call (cap := []) rfl rfl ent16 (hcop hs) ?_; rintro _ w2 ⟨A1, c1, rfl, hs2⟩; replace hs := hs.and1 hs2; clear hs2; obtain ⟨rs, hrs, hs⟩ := Sat.openHF hs; have hrl : rs.length = files.length := (by have := congrArg List.length hrs; simpa using this)) | (refine LW_append1 1 (z := (⟨behN, some ⟨_, 0, none⟩, 1, [77]⟩ : RF)) eF_ok hs TOK (by rw [hrl]; rfl) rfl rfl rfl rfl rfl rfl rfl rfl rfl (by unfold maxLen; omega) (by simp only []; omega) ?_; clear hs; intro A2 c2 w hs; have hc2 := row1Le (hs.picks [1])) | (refine LW_append 0 (xs := ([] : List (Int × Int))) eP_ok.1 (hs.toRow (sz := 2) (n0 := 0) 0 rfl rfl (by decide)) TOK rfl rfl (rc.of hs) eP_ok.2 rfl rfl rfl rfl rfl rfl rfl (by rw [List.length_nil, Nat.zero_add]; exact hcl2) (by simp only [List.length_nil, Nat.zero_add]; omega) ?_; clear hs; intro A3 c3 w hs; rw [List.nil_append] at hs ⊢) | (refine LW_append1 0 (z := ((-77 : Int), (-78 : Int))) eP_ok hs TOK rfl rfl rfl rfl rfl rfl rfl rfl rfl rfl (by unfold maxLen; omega) (by simp only []; omega) ?_; clear hs; intro A3 c3 w hs) | (refine LW_call (cap := []) rfl rfl ent17 (copied_call _ data Db _ (rd0.of hs) (by omega)) ?_; rintro _ w2 ⟨A4, c4, rfl, hs2⟩; replace hs := hs.and1 hs2; clear hs2) | refine LW_pure TOK rfl ?_) | (refine isLbin ?_; first | (refine LW_cmp rfl (fun _ => ?_) (fun _ => ?_) <;> try (exfalso; omega)) | refine LW_nileq TOK rfl ?_) | refine LW_build TOK rfl rfl rfl rfl rfl rfl ?_ | refine LW_sliceH TOK rfl rfl rfl rfl rfl (by omega) (by omega) ?_ | refine LW_pure TOK rfl ?_ | (refine LW_buildSlice TOK hs rfl rfl rfl rfl rfl rfl rfl ?_; clear hs; intro _ w hs)) | (with_reducible first | refine then_n ?_ | refine CW_seq ?_ | refine CW_region ?_ | refine CW_block ?_ | refine CW_skip ?_) | refine CW_false rfl ?_))
  rename_i bb _ _ _ _ _ _ _ _ _ _ _ _ b7
  have h1 := (hs.toRow (sz := 1) (n0 := 1) 0 rfl rfl (by decide)).picks [6, 4, 4, 3, 2, 1, 0]
  have h2 := (Sat.mkBig (l := []) ((Sat.mkBig (l := []) (h1.nilRow 22 1)).nilRow 26 1)).picks [4, 4, 4, 4, 4, 4, 4, 1, 0, 1, 0]
  clear h1 hs
  obtain ⟨g0, hg0⟩ : ∃ g0 : AgS, g0 = ⟨0, rs, data, some ⟨b7, 0, none⟩, 1, [7], none, 0, [], none, 0, []⟩ := ⟨_, rfl⟩
  obtain ⟨c, hcE⟩ : ∃ c : AgC, c = ⟨q, files.length, A0, c0, cuts.length, C, cc, turns.length, T, tc, da, A2, c2, rs, ⟨behN, some ⟨bb, 0, none⟩, 1, [77]⟩, bb, A3, c3, cuts, data.length, A4, c4⟩ := ⟨_, rfl⟩
  have hs : Sat W w (agL c g0) := by rw [hcE, hg0]; exact h2
  clear h2
  have hk : AgK W c turns := by
    rw [hcE]
    refine ⟨hq, hrl, hnl, by rw [hrs]; exact hsum, fun r hr => ?_, rfl, hcl, rc, rfl, htl, rt, by show data.length ≤ _; omega, rfl⟩
    have : r.f ∈ files.map RF.f := hrs ▸ List.mem_map.2 ⟨r, hr, rfl⟩
    obtain ⟨r', hr', he⟩ := List.mem_map.1 this
    have he1 : r'.n = r.n := congrArg Prod.fst he
    rw [← he1]; exact hnm r' hr'
  have hok : AgOk c 0 g0 := by
    rw [hcE, hg0]
    exact ⟨rfl, rfl, by simp, by rw [zD_rdy]; exact rdy_good (by omega) (by omega), fun p hp => by simp at hp, rfl⟩
  refine CW_loop (γ := AgS) (fun g => agF c g) (fun g w' => Sat W w' (agL c g) ∧ AgOk c g.i g ∧ g.i ≤ c.tl + 1 ∧ g.i ≤ 40 ∧ g.ds.length ≤ g.i) (fun g => 41 - g.i) g0 (by rw [hcE, hg0]; exact ⟨rfl, rfl, rfl, rfl, rfl, rfl, rfl, rfl, rfl, rfl, rfl, rfl, rfl, trivial⟩) ⟨hs, by rw [hg0] at hok ⊢; exact hok, by rw [hg0]; exact Nat.zero_le _, by rw [hg0]; exact Nat.zero_le _, by rw [hg0]; exact Nat.zero_le _⟩ ?_
  clear hs hok hcE hg0 hcop hF hFl hFd
  rintro g τ w ⟨hs, ok, hi1, hi2, hdg⟩
  clear hq rf rfd hnl hsum hnm rd0 hdl rc hcl rt htl
  have hn := hk.n
  have hnl := hk.nl
  have hml := hk.ml
  have hm := hk.m
  have htl := hk.tl
  have htb := hk.tb
  have hbl := hk.bl
  by_cases hgo : g.i ≤ c.tl ∧ g.i < 40
  case neg =>
    (repeat' (first | (refine isLW ?_; first | refine LW_nil ?_ | (refine isLg ?_; first | refine LW_take rfl ?_ | refine LW_pass rfl rfl ?_) | (refine isLcall ?_; first | refine LW_pure TOK rfl ?_) | (refine isLbin ?_; first | (refine LW_cmp rfl (fun _ => ?_) (fun _ => ?_) <;> try (exfalso; omega))) | refine LW_pure TOK rfl ?_) | (with_reducible first | refine then_n ?_ | refine CW_seq ?_ | refine CW_region ?_ | refine CW_exit ?_ | refine CW_ret ?_ | refine then_e ?_ | refine blk_same ?_) | refine CW_false rfl ?_ | refine RET1 Try.results3 rfl ?_))
    all_goals exact ⟨rfl, hs.nil⟩
  obtain ⟨hgo1, hgo2⟩ := hgo
  (repeat' (first | refine CW_late5 (fun a w => ∃ g' τ, a = FR 267 (agF c g') τ [] ∧ Sat W w (agL c g') ∧ AgOk c g'.i g' ∧ g'.i = g.i ∧ g'.ds.length ≤ g.i + 1) ?_ ?_ | (refine isLW ?_; first | refine LW_nil ?_ | (refine isLg ?_; first | refine LW_take rfl ?_) | (refine isLcall ?_; first | refine LW_pure TOK rfl ?_) | (refine isLbin ?_; first | (refine LW_cmp rfl (fun _ => ?_) (fun _ => ?_) <;> try (exfalso; omega))) | refine LW_pure TOK rfl ?_) | (with_reducible first | refine then_n ?_ | refine CW_seq ?_ | refine CW_region ?_ | refine CW_block ?_ | refine CW_skip ?_) | refine CW_true rfl ?_))
  · clear hs ok
    rintro _ w ⟨g1, τ, rfl, hs, ok, he, hdl⟩
    refine CW_late7 (fun a w => ∃ g' τ, a = FR 267 (agF c g') τ [] ∧ Sat W w (agL c g') ∧ AgOk c (g'.i + 1) g' ∧ g'.i = g.i ∧ g'.ds.length ≤ g.i + 1) ?_ ?_
    · clear hs ok he hdl
      rintro _ w ⟨g2, τ, rfl, hs, ok, he, hdl⟩
      (repeat' (first | (refine isLW ?_; first | refine LW_nil ?_ | refine LW_pure TOK rfl ?_) | (with_reducible first | refine then_n ?_ | refine CW_seq ?_ | refine CW_region ?_ | refine CW_block ?_)))
      have hbeh : ∀ {w : World}, Sat W w (agL c g2) → Calls Try.prog 30 [Value.slice c.A2 (c.rs0 ++ [c.rb]).length c.c2, .int .i64 (c.n : Int), .slice c.A3 (c.cuts ++ [((-77 : Int), (-78 : Int))]).length c.c3, .int .i64 (c.m : Int)].toArray w (Ret fun v w' => v = .bool true ∧ Sat w w' []) := fun {w} h => by
        have := behind_call w c.rs0 c.rb c.cuts c.A2 c.A3 c.c2 c.c3 (h.rd 1 rfl) (by rw [hk.rb]) (by rw [hk.rb]) (by rw [hk.rb]; exact h.rdC (t := 5) 3 rfl) (h.rd 4 rfl) (by omega) (by omega)
        rwa [hn, hm] at this
      have hwl : g2.ws.length = g2.ds.length := by have := congrArg List.length ok.ws; simpa using this
      refine CW_loop (γ := Nat) (fun k => (32, .int .i64 (k : Int)) :: agF c g2) (fun k w' => Sat W w' (agL c g2) ∧ k ≤ g2.ds.length) (fun k => g2.ds.length - k) 0 ⟨rfl, rfl, rfl, rfl, rfl, rfl, rfl, rfl, rfl, rfl, rfl, rfl, rfl, rfl, trivial⟩ ⟨hs, Nat.zero_le _⟩ ?_
      clear hs
      rintro k τ w ⟨hs, hkl⟩
      by_cases hlt : k < g2.ds.length
      · have hlw : k < g2.ws.length := by omega
        have hwf : (rd g2.ds (k : Int)).2.files = (rd g2.ws (k : Int)).l := by
          rw [rd_at hlt, rd_at hlw]
          have := congrArg (fun l => l[k]?) ok.ws
          simp only [List.getElem?_map, List.getElem?_eq_getElem hlt, List.getElem?_eq_getElem hlw, Option.map_some] at this
          exact (Option.some.inj this).symm
        have hfit : Fit (rd g2.ds (k : Int)).2 := by rw [rd_at hlt]; exact ok.dg _ (List.getElem_mem hlt)
        have hsz := sz_files hfit
        have h1 := Sat.openA (f := HDp) hlt (hs.picks [8])
        have h2 := Sat.openA (f := WL.P) hlw (h1.picks [11])
        rw [← rd_at hlt, ← rd_at hlw] at h2
        replace hs : Sat W w (HD (rd g2.ds (k : Int)).1 (rd g2.ds (k : Int)).2 :: _) := h2.picks [2]
        clear h1 h2
        (repeat' (first | (refine isLW ?_; first | refine LW_nil ?_ | (refine isLcall ?_; first | (refine LW_call (cap := []) rfl rfl ent29 (files_call W _ _ _ _ hs hfit) ?_; clear hs; rintro _ w ⟨A9, c9, rfl, hs⟩) | (refine LW_call (cap := []) rfl rfl ent21 (filesAlike_call _ (rd g2.ds (k : Int)).2.files (rd g2.ws (k : Int)).l _ _ _ _ (Sat.rdF hs) (Sat.rdF (hs.picks [2])) hsz.1 hsz.2) ?_; rw [decide_eq_true hwf]; rintro _ w2 ⟨rfl, hs2⟩; replace hs := hs.and0 hs2; clear hs2) | refine LW_pure TOK rfl ?_) | (refine isLbin ?_; first | refine LW_i64 rfl (by omega) (by omega) ?_ | (refine LW_cmp rfl (fun _ => ?_) (fun _ => ?_) <;> try (exfalso; omega))) | refine LW_pure TOK rfl ?_) | (refine isDP ?_; first | (refine isDnil ?_; first | refine DP_end ?_ ?_) | (refine isDe rfl ?_; first | refine DP_eff rfl rfl ?_ ?_) | (refine isDload rfl ?_; first | refine DP_loadRow0 (hs.rd 11 rfl) (fun _ => rfl) TOK rfl rfl (by first | exact trivial | rfl) rfl (by assumption) rfl rfl (by omega) (by omega) rfl ?_ ?_ | refine DP_loadRow0 (hs.rd 12 rfl) (fun _ => rfl) TOK rfl rfl (by first | exact trivial | rfl) rfl (by assumption) rfl rfl (by omega) (by omega) rfl ?_ ?_) | (refine isDidx rfl ?_; first | (refine DP_indexRd (hs.rd 11 rfl) TOK rfl rfl (by first | exact trivial | rfl) rfl rfl rfl rfl rfl (by omega) (by omega) ?_; intro _ _ _) | (refine DP_indexRd (hs.rd 12 rfl) TOK rfl rfl (by first | exact trivial | rfl) rfl rfl rfl rfl rfl (by omega) (by omega) ?_; intro _ _ _)) | refine DP_pure TOK rfl rfl (by first | exact trivial | rfl) rfl ?_) | (refine isI0 ?_; exact Inv.nil) | (refine isI1 ?_; first | refine Inv.keepR0 (hs.rd 11 rfl) (fun _ => rfl) (by assumption) (by omega) (by omega) rfl ?_ | refine Inv.keepR0 (hs.rd 12 rfl) (fun _ => rfl) (by assumption) (by omega) (by omega) rfl ?_ | refine Inv.keepR0 (hs.rd 13 rfl) (fun _ => rfl) (by assumption) (by omega) (by omega) rfl ?_) | (with_reducible first | refine then_n ?_ | refine CW_seq ?_ | refine CW_region ?_ | refine CW_block ?_ | refine CW_skip ?_ | refine blk_n ?_) | refine CW_true rfl ?_ | refine CW_false rfl ?_ | (refine CW_drawP (id := 50) [4, 9] [0, 1, 2, 3, 5, 6, 7, 8, 4, 9, 10] mixed (by kernel_rfl) hs ?_; clear hs; intro hs)))
        rw [rd_at hlt, rd_at hlw] at hs
        have h1 := Sat.shutA (f := HDp) hlt (hs.picks [1, 3])
        have h2 := Sat.shutA (f := WL.P) hlw (h1.picks [2, 2])
        exact ⟨k + 1, _, FR_forget _ ⟨(by push_cast; rfl), rfl, rfl, rfl, rfl, rfl, rfl, rfl, rfl, rfl, rfl, rfl, rfl, rfl, trivial⟩, ⟨Sat.keeps h2 [3, 3, 3, 3, 3, 3, 3, 3, 1, 2, 0], hlt⟩, by omega⟩
      · (repeat' (first | (refine isLW ?_; first | refine LW_nil ?_ | (refine isLcall ?_; first | (refine LW_call (cap := []) rfl rfl ent30 (hbeh hs) ?_; rintro _ w2 ⟨rfl, hs2⟩; replace hs := hs.and0 hs2; clear hs2) | refine LW_pure TOK rfl ?_) | (refine isLbin ?_; first | refine LW_i64 rfl (by omega) (by omega) ?_ | (refine LW_cmp rfl (fun _ => ?_) (fun _ => ?_) <;> try (exfalso; omega))) | refine LW_pure TOK rfl ?_) | (with_reducible first | refine then_n ?_ | refine CW_seq ?_ | refine CW_region ?_ | refine CW_skip ?_ | refine CW_exit ?_ | refine then_e ?_ | refine blk_n ?_ | refine blk_same ?_) | refine CW_false rfl ?_))
        exact ⟨⟨g2.i + 1, g2.rs, g2.buf, g2.A5, g2.c5, g2.book, g2.A6, g2.c6, g2.ds, g2.A7, g2.c7, g2.ws⟩, _, FR_forget _ ⟨rfl, rfl, rfl, rfl, rfl, rfl, rfl, rfl, rfl, rfl, rfl, rfl, (by push_cast; rfl), trivial⟩, ⟨hs, ⟨ok.sh, ok.bl, ok.book, ok.good, ok.dg, ok.ws⟩, by dsimp only; omega, by dsimp only; omega, by dsimp only; omega⟩, by dsimp only; omega⟩
    · intro hM
      have hbk := ok.book
      have hbf := ok.bl
      have hib : g1.i * c.bl ≤ 40 * 20000 := Nat.mul_le_mul (by omega) hbl
      have hap : ∀ {w : World} {L : List HProp}, Sat W w (HD c.da (zD g1.book) :: L) → (∀ w', Sat W w' L → Rd eB w' c.A4 g1.buf) → Calls Try.prog 25 [Value.pointer (some ⟨c.da, 0, none⟩), sv zN, .slice c.A4 c.bl c.c4].toArray w (Ret fun v w' => v = .int .i64 0 ∧ Sat W w' (HD c.da (zD (g1.book ++ g1.buf)) :: L)) := fun {w L} h hr => by
        have := append_call W w L c.da (zD g1.book) zN c.A4 c.c4 g1.buf h (zD_fit ok.good) (by decide) (by omega) hr
        rwa [hbf, zD_append g1.book g1.buf (by omega)] at this
      have hgood := zD_good ok.good (ys := g1.buf) (by omega)
      have hbl2 : (g1.book ++ g1.buf).length = 1 + (g1.i + 1) * c.bl := by rw [List.length_append, hbk, hbf, Nat.add_mul]; omega
      have hre : ∀ {w : World} {L : List HProp}, Sat W w (HD c.da (zD (g1.book ++ g1.buf)) :: L) → Calls Try.prog 26 [Value.pointer (some ⟨c.da, 0, none⟩), sv zN].toArray w (Ret fun v w' => ∃ A c', v = .tuple #[.slice A (g1.book ++ g1.buf).length c', .int .i64 0] ∧ Sat W w' (RowOf eB 5 1 A c' (g1.book ++ g1.buf) :: HD c.da (zD (g1.book ++ g1.buf)) :: L)) := fun {w L} h =>
        read_call W w L c.da (zD (g1.book ++ g1.buf)) zN h (zD_fit hgood) (by decide)
      have hbl3 : (g1.book ++ g1.buf).length ≤ 4194304 := by rw [List.length_append]; omega
      (repeat' (first | (refine isLW ?_; first | refine LW_nil ?_ | (refine isLg ?_; first | refine LW_take rfl ?_) | (refine isLcall ?_; first | (refine LW_call (cap := []) rfl rfl ent25 (hap hs (fun w' h => h.rd 4 rfl)) ?_; clear hs; rintro _ w ⟨rfl, hs⟩) | (refine LW_append 6 eB_ok.1 (xs := g1.book) (ys := g1.buf) hs TOK rfl (by rw [hbf]; rfl) (hs.rd 5 rfl) eB_ok.2 rfl rfl rfl rfl rfl rfl rfl (by unfold maxLen; omega) (by simp only []; omega) ?_; clear hs; intro A5 c5 w hs) | (refine LW_call (cap := []) rfl rfl ent20 (num_call _ 0) ?_; rintro _ _ ⟨rfl, rfl⟩) | (refine LW_call (cap := []) rfl rfl ent26 (hre hs) ?_; clear hs; rintro _ w ⟨A9, c9, rfl, hs⟩) | (refine LW_call (cap := []) rfl rfl ent27 (alike_call _ (g1.book ++ g1.buf) (g1.book ++ g1.buf) _ _ _ _ (hs.rd 0 rfl) (hs.rd 7 rfl) (by omega)) ?_; rw [decide_eq_true rfl]; rintro _ w2 ⟨rfl, hs2⟩; replace hs := hs.and0 hs2; clear hs2)) | (refine isLbin ?_; first | (refine LW_cmp rfl (fun _ => ?_) (fun _ => ?_) <;> try (exfalso; omega))) | refine LW_pure TOK rfl ?_) | (with_reducible first | refine then_n ?_ | refine CW_seq ?_ | refine CW_region ?_ | refine CW_block ?_ | refine CW_skip ?_) | refine CW_false rfl ?_))
      obtain ⟨g3, hg3⟩ : ∃ g3 : AgS, g3 = ⟨g1.i, g1.rs, g1.buf, A5, c5, g1.book ++ g1.buf, g1.A6, g1.c6, g1.ds, g1.A7, g1.c7, g1.ws⟩ := ⟨_, rfl⟩
      have ok3 : AgOk c (g3.i + 1) g3 := by rw [hg3]; exact ⟨ok.sh, ok.bl, hbl2, hgood, ok.dg, ok.ws⟩
      have he3 : g3.i = g.i := by rw [hg3]; exact he
      have hdl3 : g3.ds.length ≤ g.i + 1 := by rw [hg3]; exact hdl
      replace hs : Sat W w2 (agL c g3) := by rw [hg3]; exact Sat.dropN hs 1
      refine CW_loop (γ := Nat × List RF) (fun p => (30, .int .i64 (p.1 : Int)) :: agF c g3) (fun p w' => Sat W w' (agL c ⟨g3.i, p.2, g3.buf, g3.A5, g3.c5, g3.book, g3.A6, g3.c6, g3.ds, g3.A7, g3.c7, g3.ws⟩) ∧ p.2.map RF.sh = c.rs0.map RF.sh ∧ p.1 ≤ c.n) (fun p => c.n - p.1) (0, g3.rs) (by rw [hg3]; exact ⟨rfl, rfl, rfl, rfl, rfl, rfl, rfl, rfl, rfl, rfl, rfl, rfl, rfl, rfl, trivial⟩) ⟨hs, ok3.sh, Nat.zero_le _⟩ ?_
      clear hs hap hre hg3 ok hdl hgood hbl2 hbl3 hbk hbf hib
      rintro ⟨k, rs⟩ τ w ⟨hs, hsh, hkn⟩
      dsimp only at hsh hkn ⊢
      dsimp only [agL] at hs
      have hrsl : rs.length = c.n := by have := (sh_lens hsh).1; omega
      have hlen : (c.rs0 ++ [c.rb]).length = c.n + 1 := by rw [List.length_append, hn]; rfl
      have hbf := ok3.bl
      by_cases hlt : g3.i < c.tl ∧ k < c.n
      · obtain ⟨hlt1, hlt2⟩ := hlt
        have hkr : k < rs.length := by omega
        have hk0 : k < c.rs0.length := by omega
        have hshk := sh_at hsh hkr hk0
        have hr0 : getA (eF (rd (c.rs0 ++ [c.rb]) (k : Int))) 1 = some (.slice rs[k].A rs[k].data.length rs[k].c) := by
          rw [rd_at (by omega), List.getElem_append_left hk0, ← eF_sh hshk]; rfl
        have hfl := (AgOk.files (g := ⟨g3.i, rs, g3.buf, g3.A5, g3.c5, g3.book, g3.A6, g3.c6, g3.ds, g3.A7, g3.c7, g3.ws⟩) (k := g3.i + 1) ⟨hsh, ok3.bl, ok3.book, ok3.good, ok3.dg, ok3.ws⟩ hk).2.2.2.1 rs[k].f (List.mem_map.2 ⟨_, List.getElem_mem hkr, rfl⟩)
        replace hfl : rs[k].data.length ≤ 1048576 := hfl
        replace hs := Sat.openP hkr (hs.picks [2])
        obtain ⟨r, hr⟩ : ∃ r, rs[k] = r := ⟨_, rfl⟩
        rw [hr] at hs hr0 hshk hfl
        obtain ⟨e, hadd⟩ : ∃ e, IntKind.i64.wrap ((rd turns (g3.i : Int)).1 + (k : Int)) = e := ⟨_, rfl⟩
        obtain ⟨z, hz⟩ := byte_of (rd turns (g3.i : Int)).2
        (repeat' (first | (refine isI1 ?_; refine Inv.keepR (hs.rd 3 rfl) (fun _ => rfl) (by assumption) (by omega) (by omega) hr0 ?_) | (refine isLW ?_; first | refine LW_nil ?_ | (refine isLg ?_; first | refine LW_take rfl ?_) | (refine isLload ?_; first | refine LW_loadRd (v := .slice r.A r.data.length r.c) (hs.rd 3 rfl) (fun _ => rfl) TOK rfl (by assumption) rfl rfl (by omega) (by omega) hr0 ?_) | (refine isLstore ?_; first | (refine LW_storeRow 0 eB_ok (z := z) hs TOK rfl (by assumption) rfl rfl rfl rfl rfl (by omega) (by omega) ?_; clear hs; intro w hs)) | (refine isLcall ?_; first | (refine LW_call (cap := []) rfl rfl ent28 (spot_call _ e _ (by omega) (by omega)) ?_; rintro _ _ ⟨j, rfl, hj0, hj1, rfl⟩) | refine LW_pure TOK rfl ?_) | (refine isLidx ?_; first | (refine LW_indexRdN (hs.rd 3 rfl) TOK rfl rfl rfl rfl rfl (by omega) (by omega) (by omega) ?_; intro _ _ _)) | (refine isLbin ?_; first | refine LW_i64 rfl (by omega) (by omega) ?_ | (refine LW_cmp rfl (fun _ => ?_) (fun _ => ?_) <;> try (exfalso; omega))) | refine LW_pure TOK rfl ?_) | (refine isDP ?_; first | (refine isDnil ?_; first | refine DP_end ?_ ?_) | (refine isDe rfl ?_; first | refine DP_eff rfl rfl ?_ ?_) | (refine isDload rfl ?_; first | refine DP_loadRow (v := .slice r.A r.data.length r.c) (hs.rd 3 rfl) (fun _ => rfl) TOK rfl rfl trivial rfl (by assumption) rfl rfl (by omega) (by omega) hr0 ?_ ?_ | refine DP_loadRd hk.rt (fun _ => rfl) hs TOK rfl rfl (by first | exact trivial | rfl) rfl (by assumption) rfl rfl (by omega) (by omega) rfl ?_ ?_) | (refine isDidx rfl ?_; first | (refine DP_indexRdN (hs.rd 3 rfl) TOK rfl rfl trivial rfl rfl rfl rfl rfl (by omega) (by omega) (by omega) ?_; intro _ _ _) | (refine DP_indexRdN (hk.rt.of hs) TOK rfl rfl trivial rfl rfl rfl rfl rfl (by omega) (by omega) (by omega) ?_; intro _ _ _) | refine DP_indexArr 0 TOK rfl rfl trivial rfl rfl rfl rfl rfl (by omega) (by omega) rfl ?_ | refine DP_indexArr 1 TOK rfl rfl trivial rfl rfl rfl rfl rfl (by omega) (by omega) rfl ?_ | (refine DP_indexRd (hs.rd 0 rfl) TOK rfl rfl (by first | exact trivial | rfl) rfl rfl rfl rfl rfl (by omega) (by omega) ?_; intro _ _ _)) | (refine isDbin rfl ?_; first | refine DP_arithE e rfl rfl trivial rfl hadd ?_) | refine DP_convE (z.toNat : Int) TOK rfl rfl trivial rfl rfl rfl rfl hz ?_ | refine DP_pure TOK rfl rfl (by first | exact trivial | rfl) rfl ?_) | (refine isI0 ?_; exact Inv.nil) | (refine isI1 ?_; first | refine Inv.keepB hs ?_) | (with_reducible first | refine then_n ?_ | refine CW_seq ?_ | refine CW_region ?_ | refine CW_block ?_ | refine CW_skip ?_ | refine blk_n ?_) | refine CW_true rfl ?_ | refine CW_false rfl ?_ | (refine CW_drawP (id := 44) [13, 21] [0, 1, 2, 3, 4, 5, 6, 7, 8, 9, 10, 11, 12, 14, 15, 16, 17, 18, 19, 13, 20, 21] mixed (by kernel_rfl) hs ?_; clear hs; intro hs)))
        · have hs3 : Sat W w (RF.P ⟨r.n, r.A, r.c, r.data.set j.toNat z⟩ :: Big (List.map RF.P (List.take k rs) ++ List.map RF.P (List.drop (k + 1) rs)) :: _) := hs
          have h4 := (Sat.closeP hkr hs3).picks [1, 1, 0]
          exact ⟨(k + 1, rs.set k ⟨r.n, r.A, r.c, r.data.set j.toNat z⟩), _, FR_forget _ ⟨(by push_cast; rfl), rfl, rfl, rfl, rfl, rfl, rfl, rfl, rfl, rfl, rfl, rfl, rfl, rfl, trivial⟩, ⟨h4, sh_set hsh hkr (by rw [hr]; unfold RF.sh; rw [List.length_set]), hlt2⟩, by dsimp only; omega⟩
        · rw [← hr] at hs
          have h4 := (Sat.shutA (f := RF.P) hkr hs).picks [1, 1, 0]
          exact ⟨(k + 1, rs), _, FR_forget _ ⟨(by push_cast; rfl), rfl, rfl, rfl, rfl, rfl, rfl, rfl, rfl, rfl, rfl, rfl, rfl, rfl, trivial⟩, ⟨h4, hsh, hlt2⟩, by dsimp only; omega⟩
      · obtain ⟨z, hz⟩ := byte_of (rd turns (g3.i : Int)).2
        obtain ⟨e, he4⟩ : ∃ e, (rd turns (g3.i : Int)).1 = e := ⟨_, rfl⟩
        (repeat' (first | refine hM _ _ ?_ | (refine isLW ?_; first | refine LW_nil ?_ | (refine isLg ?_; first | refine LW_take rfl ?_ | refine LW_pass rfl rfl ?_) | (refine isLstore ?_; first | (refine LW_storeRow 5 eB_ok (z := z) hs TOK rfl (by assumption) rfl rfl rfl rfl rfl (by omega) (by omega) ?_; clear hs; intro w hs)) | (refine isLcall ?_; first | (refine LW_call (cap := []) rfl rfl ent28 (spot_call _ _ _ (by omega) (by omega)) ?_; rintro _ _ ⟨j, rfl, hj0, hj1, rfl⟩) | refine LW_pure TOK rfl ?_) | (refine isLbin ?_; first | (refine LW_cmp rfl (fun _ => ?_) (fun _ => ?_) <;> try (exfalso; omega))) | refine LW_pure TOK rfl ?_) | (refine isDP ?_; first | (refine isDnil ?_; first | refine DP_end ?_ ?_) | (refine isDe rfl ?_; first | refine DP_eff rfl rfl ?_ ?_) | (refine isDload rfl ?_; first | refine DP_loadRd hk.rt (fun _ => rfl) hs TOK rfl rfl (by first | exact trivial | rfl) rfl (by assumption) rfl rfl (by omega) (by omega) rfl ?_ ?_) | (refine isDidx rfl ?_; first | (refine DP_indexRdN (hk.rt.of hs) TOK rfl rfl trivial rfl rfl rfl rfl rfl (by omega) (by omega) (by omega) ?_; intro _ _ _) | (refine DP_indexRdN (hs.rd 5 rfl) TOK rfl rfl trivial rfl rfl rfl rfl rfl (by omega) (by omega) (by omega) ?_; intro _ _ _) | refine DP_indexArr 0 TOK rfl rfl trivial rfl rfl rfl rfl rfl (by omega) (by omega) rfl ?_ | refine DP_indexArr 1 TOK rfl rfl trivial rfl rfl rfl rfl rfl (by omega) (by omega) rfl ?_) | refine DP_convE (z.toNat : Int) TOK rfl rfl trivial rfl rfl rfl rfl hz ?_ | refine DP_pure TOK rfl rfl (by first | exact trivial | rfl) rfl ?_) | (refine isI0 ?_; exact Inv.nil) | (refine isI1 ?_; first | refine Inv.keepB hs ?_) | (with_reducible first | refine then_n ?_ | refine CW_seq ?_ | refine CW_region ?_ | refine CW_skip ?_ | refine CW_exit ?_ | refine then_e ?_ | refine blk_same ?_) | refine CW_true rfl ?_ | refine CW_false rfl ?_ | (refine CW_drawP (id := 46) [8, 16] [0, 1, 2, 3, 4, 5, 6, 7, 9, 10, 11, 12, 13, 14, 8, 15, 16] mixed (by kernel_rfl) hs ?_; clear hs; intro hs)))
        all_goals first
          | exact ⟨⟨g3.i, rs, g3.buf, g3.A5, g3.c5, g3.book, g3.A6, g3.c6, g3.ds, g3.A7, g3.c7, g3.ws⟩, _, FR_forget _ ⟨rfl, rfl, rfl, rfl, rfl, rfl, rfl, rfl, rfl, rfl, rfl, rfl, rfl, trivial⟩, hs, ⟨hsh, ok3.bl, ok3.book, ok3.good, ok3.dg, ok3.ws⟩, he3, hdl3⟩
          | exact ⟨⟨g3.i, rs, g3.buf.set j.toNat z, g3.A5, g3.c5, g3.book, g3.A6, g3.c6, g3.ds, g3.A7, g3.c7, g3.ws⟩, _, FR_forget _ ⟨rfl, rfl, rfl, rfl, rfl, rfl, rfl, rfl, rfl, rfl, rfl, rfl, rfl, trivial⟩, hs, ⟨hsh, by rw [List.length_set]; exact ok3.bl, ok3.book, ok3.good, ok3.dg, ok3.ws⟩, he3, hdl3⟩
          | (trace_state; sorry)
  · intro hM
    obtain ⟨hl1, hl2, hl3, hl4, hl5⟩ := ok.files hk
    obtain ⟨F, hF⟩ : ∃ F, g.rs.map RF.f = F := ⟨_, rfl⟩
    have hrf : ∀ {w : World} {L : List HProp}, Sat W w (RowOf eF 30 2 c.A2 c.c2 (c.rs0 ++ [c.rb]) :: Big (g.rs.map RF.P) :: L) → RdF w c.A2 F := fun h => ⟨g.rs, hF, (agRd ok.sh h).1, (agRd ok.sh h).2⟩
    rw [hF] at hl2 hl3 hl4 hl5
    have hcopA : ∀ {w : World}, RdF w c.A2 F → Calls Try.prog 16 [Value.slice c.A2 c.n c.c2].toArray w (Ret fun v w' => ∃ A' c', v = .slice A' c.n c' ∧ Sat w w' [HF A' c' F]) := fun {w} h => by
      rw [← hl2]
      exact copies_call w F c.A2 c.c2 h (by omega) (fun f hf => by have := hl4 f hf; omega)
    have hfa : ∀ {w : World} {A B : Option Addr} {k1 k2 : Nat}, RdF w A F → RdF w B F → Calls Try.prog 21 [Value.slice A c.n k1, .slice B c.n k2].toArray w (Ret fun v w' => v = .bool true ∧ Sat w w' []) := fun {w A B k1 k2} h1 h2 => by
      rw [← hl2]
      have := filesAlike_call w F F A B k1 k2 h1 h2 (by omega) (fun f hf => by have := hl4 f hf; omega)
      rwa [decide_eq_true rfl] at this
    have hc3 : c.m + 1 ≤ c.c3 := by rw [← hm]; exact row1Le (hs.picks [4])
    have hload0 : ∀ {w : World} (X : List HProp), Sat W w (X ++ agL c g) → Calls Try.prog 18 [Value.int .i64 c.q, .slice c.A2 c.n c.c2].toArray w (Ret fun v w' =>
        ((load c.q (sumW F) F).1 ≠ 0 ∧ v = .tuple #[.pointer none, .int .i64 (load c.q (sumW F) F).1] ∧ Sat W w' (X ++ agL c g)) ∨
        ((load c.q (sumW F) F).1 = 0 ∧ ∃ d, v = .tuple #[.pointer (some ⟨d, 0, none⟩), .int .i64 0] ∧ Sat W w' (HD d (load c.q (sumW F) F).2 :: (X ++ agL c g)))) := fun {w} X h => by
      have hdr : ∀ w', Sat W w' (X ++ agL c g) → Sat W w' (agL c g) := fun w' h => by have := Sat.dropN h X.length; simpa using this
      have := load_call W w (X ++ agL c g) c.q c.A2 c.c2 g.rs h (fun w' h => (agRd ok.sh (Sat.dropN (hdr w' h) 1)).1) (fun w' h => (agRd ok.sh (Sat.dropN (hdr w' h) 1)).2) (fun r hr => ⟨hl5 r.f (hF ▸ List.mem_map.2 ⟨r, hr, rfl⟩), by have := hl4 r.f (hF ▸ List.mem_map.2 ⟨r, hr, rfl⟩); show r.data.length ≤ _; have e : r.f.2.length = r.data.length := rfl; omega⟩) (by omega) hk.q
      rwa [hF, hl1] at this
    have hrl0 : ∀ {w : World} {A : Option Addr} {k : Nat}, RdF w A F → Calls Try.prog 19 [Value.int .i64 c.q, .slice A c.n k].toArray w (Ret fun v w' =>
        ((load c.q (sumW F) F).1 ≠ 0 ∧ v = .tuple #[.agg (eK noK).toArray, .int .i64 (load c.q (sumW F) F).1] ∧ Sat w w' []) ∨
        ((load c.q (sumW F) F).1 = 0 ∧ ∃ k pool, v = .tuple #[.agg (eK k).toArray, .int .i64 0] ∧ PK (load c.q (sumW F) F).2 k pool ∧ (load c.q (sumW F) F).2.fs.length ≤ 1048576 ∧ Sat w w' [Big pool])) := fun {w A k} h => by
      rw [← hl2]
      exact rLoadPK w c.q F A k h (by omega) (fun f hf => by have := hl4 f hf; omega) hl5 hk.q (by omega)
    obtain ⟨⟨e, D⟩, hlo⟩ : ∃ r, load c.q (sumW F) F = r := ⟨_, rfl⟩
    rw [hlo] at hload0 hrl0
    dsimp only at hload0 hrl0
    by_cases h0 : e = 0
    · subst h0
      have hload : ∀ {w : World} {X : List HProp}, Sat W w (X ++ agL c g) → Calls Try.prog 18 [Value.int .i64 c.q, .slice c.A2 c.n c.c2].toArray w (Ret fun v w' => ∃ d, v = .tuple #[.pointer (some ⟨d, 0, none⟩), .int .i64 0] ∧ Sat W w' (HD d D :: (X ++ agL c g))) := fun {w X} h => by
        refine Calls.ret (hload0 X h) ?_
        rintro v w' (⟨e1, _⟩ | ⟨_, e1⟩)
        · exact absurd rfl e1
        · exact e1
      have hrl : ∀ {w : World} {A : Option Addr} {k : Nat}, RdF w A F → Calls Try.prog 19 [Value.int .i64 c.q, .slice A c.n k].toArray w (Ret fun v w' => ∃ k pool, v = .tuple #[.agg (eK k).toArray, .int .i64 0] ∧ PK D k pool ∧ D.fs.length ≤ 1048576 ∧ Sat w w' [Big pool]) := fun h => by
        refine Calls.ret (hrl0 h) ?_
        rintro v w' (⟨e1, _⟩ | ⟨_, e1⟩)
        · exact absurd rfl e1
        · exact e1
      have hcr : ∀ {w : World} {L : List HProp} {d : Nat}, Fit D → Sat W w (HD d D :: L) → (∀ w', Sat W w' L → Rd eP w' c.A3 c.cuts) → Calls Try.prog 23 [Value.pointer (some ⟨d, 0, none⟩), .int .i64 (g.i : Int), .slice c.A3 c.m c.c3].toArray w (Ret fun v w' => ∃ A k, v = .slice A (D.crash (g.i : Int) c.cuts).length k ∧ Sat W w' (HF A k (D.crash (g.i : Int) c.cuts) :: HD d D :: L)) := fun {w L d} hf h hr => by
        rw [← hm]
        exact crash_call W w L d D (g.i : Int) c.A3 c.c3 c.cuts h hf (by omega) hr (by omega)
      have hrc : ∀ {w : World} {k : RDk} {pool : List HProp}, KH w D k pool → Rd eP w c.C c.cuts → Calls Try.prog 24 [Value.agg (eK k).toArray, .int .i64 (g.i : Int), .slice c.C c.m c.cc].toArray w (Ret fun v w' => ∃ A k, v = .slice A (D.crash (g.i : Int) c.cuts).length k ∧ Sat w w' [HF A k (D.crash (g.i : Int) c.cuts)]) := fun {w k pool} h hr => by
        rw [← hm]
        exact rCrash_call h (g.i : Int) c.C c.cc c.cuts hr (by omega)
      have hdfs : ∀ {k : RDk} {pool : List HProp}, PK D k pool → D.files.length ≤ 2199023255552 ∧ ∀ f ∈ D.files, f.2.length ≤ 140737488355328 := fun h => by
        refine ⟨by have := h.now; unfold DS.files filesOf; rw [List.length_map]; omega, fun f hf => ?_⟩
        unfold DS.files filesOf at hf
        obtain ⟨p, hp, rfl⟩ := List.mem_map.1 hf
        have := dat_bd h.good (h.good.subNow (List.mem_map.2 ⟨p, hp, rfl⟩))
        unfold DS.dat DS.fl at this
        dsimp only
        omega
      have hdcr : Fit D → (D.crash (g.i : Int) c.cuts).length ≤ 4611686018427387904 ∧ ∀ f ∈ D.crash (g.i : Int) c.cuts, f.2.length ≤ 4611686018427387904 := fun h => by
        have := sz_crash h (g.i : Int) c.cuts
        exact ⟨by omega, fun f hf => by have := this.2 f hf; omega⟩
      clear hload0 hrl0
      have hwl : g.ws.length = g.ds.length := by have := congrArg List.length ok.ws; simpa using this
      (repeat' (first | (refine isLW ?_; first | refine LW_nil ?_ | (refine isLg ?_; first | refine LW_take rfl ?_) | (refine isLload ?_; first | refine LW_loadCAE 0 (eK k) TOK hs rfl rfl rfl rfl (Nat.le_of_ble_eq_true rfl) rfl ?_ | refine LW_loadCAE 4 (eK k) TOK hs rfl rfl rfl rfl (Nat.le_of_ble_eq_true rfl) rfl ?_) | (refine isLstore ?_; first | (refine LW_storeCA 0 TOK hs rfl rfl rfl rfl rfl (eK_ok.2 k) rfl (Nat.le_of_ble_eq_true rfl) ?_; clear hs; intro w hs)) | (refine isLcall ?_; first | (refine LW_call (cap := []) rfl rfl ent16 (hcopA (hrf (Sat.dropN hs 1))) ?_; rintro _ w2 ⟨A8, c8, rfl, hs2⟩; replace hs := hs.and1 hs2; clear hs2) | (refine LW_call (cap := []) rfl rfl ent18 (hload (X := [_]) hs) ?_; clear hs; rintro _ w ⟨d, rfl, hs⟩) | (refine LW_call (cap := []) rfl rfl ent16 (hcopA (hrf (Sat.dropN hs 3))) ?_; rintro _ w2 ⟨A9, c9, rfl, hs2⟩; replace hs := hs.and1 hs2; clear hs2) | (refine LW_call (cap := []) rfl rfl ent19 (hrl (Sat.rdF hs)) ?_; rintro _ w2 ⟨k, pool, rfl, hpk, hfs, hs2⟩; replace hs := hs.and1 hs2; clear hs2; have hdf := hdfs hpk; have hdc := hdcr hpk.fit) | (refine LW_call (cap := []) rfl rfl ent20 (num_call _ _) ?_; rintro _ _ ⟨rfl, rfl⟩) | (refine LW_call (cap := []) rfl rfl ent21 (hfa (hrf (Sat.dropN hs 6)) (Sat.rdF (hs.picks [4]))) ?_; rintro _ w2 ⟨rfl, hs2⟩; replace hs := hs.and0 hs2; clear hs2) | (refine LW_append1 12 (z := (d, D)) eD_ok hs TOK rfl rfl rfl rfl rfl rfl rfl rfl rfl rfl (by unfold maxLen; omega) (by simp only []; omega) ?_; clear hs; intro A6 c6 w hs) | (refine LW_call (cap := []) rfl rfl ent22 (rFiles_call (hpk.kh (hs.picks [1]))) ?_; rintro _ w2 ⟨A10, c10, rfl, hs2⟩; replace hs := hs.and1 hs2; clear hs2) | (refine LW_call (cap := []) rfl rfl ent16 (copies_call _ D.files A10 c10 (Sat.rdF hs) hdf.1 hdf.2) ?_; rintro _ w2 ⟨A11, c11, rfl, hs2⟩; replace hs := hs.and1 hs2; clear hs2) | (refine LW_append1 16 (z := (⟨A11, c11, D.files⟩ : WL)) eWL_ok hs TOK rfl rfl rfl rfl rfl rfl rfl rfl rfl rfl (by unfold maxLen; omega) (by simp only []; omega) ?_; clear hs; intro A7 c7 w hs) | (refine LW_call (cap := []) rfl rfl ent23 (hcr hpk.fit (hs.picks [5]) (fun w' h => (h.rd 10 rfl).ahead ⟨[(-77, -78)], rfl⟩)) ?_; clear hs; rintro _ w ⟨A12, c12, rfl, hs⟩) | (refine LW_call (cap := []) rfl rfl ent24 (hrc (hpk.kh (hs.picks [5])) (hk.rc.of hs)) ?_; rintro _ w2 ⟨A13, c13, rfl, hs2⟩; replace hs := hs.and1 hs2; clear hs2) | (refine LW_call (cap := []) rfl rfl ent21 (filesAlike_call _ (D.crash (g.i : Int) c.cuts) (D.crash (g.i : Int) c.cuts) _ _ _ _ (Sat.rdF (hs.picks [1])) (Sat.rdF hs) hdc.1 hdc.2) ?_; rw [decide_eq_true rfl]; rintro _ w2 ⟨rfl, hs2⟩; replace hs := hs.and0 hs2; clear hs2) | refine LW_pure TOK rfl ?_) | (refine isLbin ?_; first | (refine LW_cmp rfl (fun _ => ?_) (fun _ => ?_) <;> try (exfalso; omega)) | refine LW_nileq TOK rfl ?_) | refine LW_sliceH TOK rfl rfl rfl rfl rfl (by omega) (by omega) ?_ | refine LW_pure TOK rfl ?_ | (refine LW_alloc TOK hs rfl rfl ?_; clear hs; intro _ w hs) | (refine LW_buildSlice TOK hs rfl rfl rfl rfl rfl rfl rfl ?_; clear hs; intro _ w hs)) | (with_reducible first | refine then_n ?_ | refine CW_seq ?_ | refine CW_region ?_ | refine CW_block ?_ | refine CW_skip ?_) | refine CW_true rfl ?_ | refine CW_false rfl ?_))
      have hs0 : Sat W w2 [HF A13 c13 (D.crash (g.i : Int) c.cuts), HF A12 c12 (D.crash (g.i : Int) c.cuts), HDp (d, D), WL.P ⟨A11, c11, D.files⟩, HF A10 c10 D.files, _, Big pool, HF A9 c9 F, HF A8 c8 F, HD c.da (zD g.book), RowOf eF 30 2 c.A2 c.c2 (c.rs0 ++ [c.rb]), Big (g.rs.map RF.P), Cl c.bb [.int .u8 77] 5, RowOf eP 32 2 c.A3 c.c3 (c.cuts ++ [(-77, -78)]), RowOf eB 5 1 c.A4 c.c4 g.buf, RowOf eB 5 1 g.A5 g.c5 g.book, RowOf eD 26 1 A6 c6 (g.ds ++ [(d, D)]), Big (g.ds.map HDp), RowOf eWL 22 1 A7 c7 (g.ws ++ [⟨A11, c11, D.files⟩]), Big (g.ws.map WL.P)] := hs
      clear hs
      have h1 := Sat.keeps hs0 [2, 16, 2, 16, 7, 7, 7, 7, 7, 7, 7, 7, 7]
      clear hs0
      replace h1 : Sat W w2 [HDp (d, D), Big (g.ds.map HDp), WL.P ⟨A11, c11, D.files⟩, Big (g.ws.map WL.P), HD c.da (zD g.book), RowOf eF 30 2 c.A2 c.c2 (c.rs0 ++ [c.rb]), Big (g.rs.map RF.P), Cl c.bb [.int .u8 77] 5, RowOf eP 32 2 c.A3 c.c3 (c.cuts ++ [(-77, -78)]), RowOf eB 5 1 c.A4 c.c4 g.buf, RowOf eB 5 1 g.A5 g.c5 g.book, RowOf eD 26 1 A6 c6 (g.ds ++ [(d, D)]), RowOf eWL 22 1 A7 c7 (g.ws ++ [⟨A11, c11, D.files⟩])] := h1
      have h2 := Sat.snocA ((Sat.snocA h1).picks [1, 1])
      obtain ⟨g4, hg4⟩ : ∃ g4 : AgS, g4 = ⟨g.i, g.rs, g.buf, g.A5, g.c5, g.book, A6, c6, g.ds ++ [(d, D)], A7, c7, g.ws ++ [⟨A11, c11, D.files⟩]⟩ := ⟨_, rfl⟩
      have ok4 : AgOk c g4.i g4 := by
        rw [hg4]
        refine ⟨ok.sh, ok.bl, ok.book, ok.good, fun p hp => ?_, ?_⟩
        · rcases List.mem_append.1 hp with hp | hp
          · exact ok.dg p hp
          · rw [List.mem_singleton.1 hp]; exact hpk.fit
        · show (g.ws ++ [_]).map _ = (g.ds ++ [_]).map _
          rw [List.map_append, List.map_append, ok.ws]; rfl
      have he4 : g4.i = g.i := by rw [hg4]
      have hd4 : g4.ds.length ≤ g.i + 1 := by
        rw [hg4]
        show (g.ds ++ [(d, D)]).length ≤ _
        rw [List.length_append, List.length_singleton]; omega
      replace hs : Sat W w2 (agL c g4) := by rw [hg4]; exact h2.picks [2, 2, 2, 2, 2, 2, 2, 2, 1, 1, 0]
      clear h1 h2
      refine CW_loop (γ := Nat) (fun k => (26, .int .i64 (k : Int)) :: agF c g4) (fun k w' => Sat W w' (agL c g4) ∧ k ≤ c.m) (fun k => c.m - k) 0 (by rw [hg4]; exact ⟨rfl, rfl, rfl, rfl, rfl, rfl, rfl, rfl, rfl, rfl, rfl, rfl, rfl, rfl, trivial⟩) ⟨hs, Nat.zero_le _⟩ ?_
      clear hs hload hrl hcr hrc hdfs hdcr hdf hdc hpk hg4 hrf hcopA hfa
      rintro k τ w ⟨hs, hkm⟩
      by_cases hlt : k < c.m
      · have hlc : (c.cuts ++ [((-77 : Int), (-78 : Int))]).length = c.m + 1 := by rw [List.length_append, hm]; rfl
        have hrk : rd (c.cuts ++ [((-77 : Int), (-78 : Int))]) (k : Int) = rd c.cuts (k : Int) := by
          rw [rd_at (by omega), rd_at (by omega), List.getElem_append_left]
        (repeat' (first | refine DP_neqP pair32 rfl rfl trivial rfl rfl (fun hne => absurd (by rw [hrk]; exact ⟨rfl, rfl⟩) hne) (fun _ => ?_) | (refine isLW ?_; first | refine LW_nil ?_ | (refine isLcall ?_; first | refine LW_pure TOK rfl ?_) | (refine isLbin ?_; first | refine LW_i64 rfl (by omega) (by omega) ?_ | (refine LW_cmp rfl (fun _ => ?_) (fun _ => ?_) <;> try (exfalso; omega))) | refine LW_pure TOK rfl ?_) | (refine isDP ?_; first | (refine isDnil ?_; first | refine DP_end ?_ ?_) | (refine isDload rfl ?_; first | refine DP_loadRdA (hs.rd 4 rfl) (fun _ => rfl) (Sat.start _) TOK rfl rfl (by first | exact trivial | rfl) rfl (by assumption) rfl rfl rfl (by omega) (by omega) rfl ?_ ?_ | refine DP_loadRdA hk.rc (fun _ => rfl) hs TOK rfl rfl (by first | exact trivial | rfl) rfl (by assumption) rfl rfl rfl (by omega) (by omega) rfl ?_ ?_) | (refine isDidx rfl ?_; first | (refine DP_indexRdN (hk.rc.of hs) TOK rfl rfl trivial rfl rfl rfl rfl rfl (by omega) (by omega) (by omega) ?_; intro _ _ _) | (refine DP_indexRd (hs.rd 4 rfl) TOK rfl rfl (by first | exact trivial | rfl) rfl rfl rfl rfl rfl (by omega) (by omega) ?_; intro _ _ _)) | refine DP_pure TOK rfl rfl (by first | exact trivial | rfl) rfl ?_) | (refine isI0 ?_; exact Inv.nil) | (refine isI1 ?_; first | refine Inv.keepB hs ?_ | refine Inv.keepB (Sat.start _) ?_) | (with_reducible first | refine then_n ?_ | refine CW_seq ?_ | refine CW_region ?_ | refine CW_block ?_ | refine CW_skip ?_ | refine blk_n ?_) | refine CW_true rfl ?_ | refine CW_false rfl ?_ | (refine CW_drawP (id := 30) [] [0, 1, 2, 3, 4, 5, 6, 7, 8] mixed (by kernel_rfl) hs ?_; clear hs; intro hs)))
        exact ⟨k + 1, _, FR_forget _ ⟨(by push_cast; rfl), rfl, rfl, rfl, rfl, rfl, rfl, rfl, rfl, rfl, rfl, rfl, rfl, rfl, trivial⟩, ⟨hs, hlt⟩, by omega⟩
      · (repeat' (first | refine hM _ _ ?_ | (refine isLW ?_; first | refine LW_nil ?_ | (refine isLcall ?_; first | refine LW_pure TOK rfl ?_) | (refine isLbin ?_; first | (refine LW_cmp rfl (fun _ => ?_) (fun _ => ?_) <;> try (exfalso; omega))) | refine LW_pure TOK rfl ?_) | (with_reducible first | refine then_n ?_ | refine CW_seq ?_ | refine CW_region ?_ | refine CW_exit ?_) | refine CW_false rfl ?_))
        exact ⟨g4, _, FR_forget _ ⟨rfl, rfl, rfl, rfl, rfl, rfl, rfl, rfl, rfl, rfl, rfl, rfl, rfl, trivial⟩, hs, ok4, he4, hd4⟩
    · have hload : ∀ {w : World} {X : List HProp}, Sat W w (X ++ agL c g) → Calls Try.prog 18 [Value.int .i64 c.q, .slice c.A2 c.n c.c2].toArray w (Ret fun v w' => v = .tuple #[.pointer none, .int .i64 e] ∧ Sat W w' (X ++ agL c g)) := fun {w X} h => by
        refine Calls.ret (hload0 X h) ?_
        rintro v w' (⟨_, e1, hs⟩ | ⟨e1, _⟩)
        · exact ⟨e1, hs⟩
        · exact absurd e1 h0
      have hrl : ∀ {w : World} {A : Option Addr} {k : Nat}, RdF w A F → Calls Try.prog 19 [Value.int .i64 c.q, .slice A c.n k].toArray w (Ret fun v w' => v = .tuple #[.agg (eK noK).toArray, .int .i64 e] ∧ Sat w w' []) := fun h => by
        refine Calls.ret (hrl0 h) ?_
        rintro v w' (⟨_, e1, hs⟩ | ⟨e1, _⟩)
        · exact ⟨e1, hs⟩
        · exact absurd e1 h0
      clear hload0 hrl0
      (repeat' (first | refine hM _ _ ?_ | (refine isLW ?_; first | refine LW_nil ?_ | (refine isLg ?_; first | refine LW_take rfl ?_) | (refine isLstore ?_; first | (refine LW_storeCA 0 TOK hs rfl rfl rfl rfl rfl (eK_ok.2 noK) rfl (Nat.le_of_ble_eq_true rfl) ?_; clear hs; intro w hs)) | (refine isLcall ?_; first | (refine LW_call (cap := []) rfl rfl ent16 (hcopA (hrf (Sat.dropN hs 1))) ?_; rintro _ w2 ⟨A8, c8, rfl, hs2⟩; replace hs := hs.and1 hs2; clear hs2) | (refine LW_call (cap := []) rfl rfl ent18 (hload (X := [_]) hs) ?_; clear hs; rintro _ w ⟨rfl, hs⟩) | (refine LW_call (cap := []) rfl rfl ent16 (hcopA (hrf (Sat.dropN hs 2))) ?_; rintro _ w2 ⟨A9, c9, rfl, hs2⟩; replace hs := hs.and1 hs2; clear hs2) | (refine LW_call (cap := []) rfl rfl ent19 (hrl (Sat.rdF hs)) ?_; rintro _ w2 ⟨rfl, hs2⟩; replace hs := hs.and0 hs2; clear hs2) | (refine LW_call (cap := []) rfl rfl ent20 (num_call _ _) ?_; rintro _ _ ⟨rfl, rfl⟩) | (refine LW_call (cap := []) rfl rfl ent21 (hfa (hrf (Sat.dropN hs 4)) (Sat.rdF (hs.picks [2]))) ?_; rintro _ w2 ⟨rfl, hs2⟩; replace hs := hs.and0 hs2; clear hs2)) | (refine isLbin ?_; first | (refine LW_cmp rfl (fun _ => ?_) (fun _ => ?_) <;> try (exfalso; omega)) | refine LW_nileq TOK rfl ?_) | refine LW_pure TOK rfl ?_ | (refine LW_alloc TOK hs rfl rfl ?_; clear hs; intro _ w hs)) | (with_reducible first | refine then_n ?_ | refine CW_seq ?_ | refine CW_region ?_ | refine CW_skip ?_) | refine CW_false rfl ?_))
      all_goals exact ⟨g, _, FR_forget _ ⟨rfl, rfl, rfl, rfl, rfl, rfl, rfl, rfl, rfl, rfl, rfl, rfl, rfl, trivial⟩, Sat.dropN hs 3, ok, rfl, by omega⟩
end Go.Proofs.Ytoodgenbcfdloaa
