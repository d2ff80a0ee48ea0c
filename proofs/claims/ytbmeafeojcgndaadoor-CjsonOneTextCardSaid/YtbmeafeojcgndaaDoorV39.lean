/- Walks: the same values? (Of values that are the same.) -/
import Derived.Test.YtbmeafeojcgndaaDoorV38
set_option linter.unusedVariables false
set_option linter.unusedSimpArgs false
namespace Go.Proofs.YtbmeafeojcgndaaDoor
open Go Go.Sl Go.RowKit
set_option maxRecDepth 100000
attribute [local irreducible] CW LW DW FR DP Calls Res Ret
section
variable {W : World}
set_option maxHeartbeats 8000000 in
theorem sameV_call {x : RV} (h : RdV W x) : ∀ (y : RV) (L : List HProp) (w : World), RdV W y → x.j = y.j → SmJ 1099511627776 x.j → Sat W w L →
    Calls Tryd.prog 14 [Value.agg (eV x).toArray, .agg (eV y).toArray].toArray w (Ret fun v w' => v = .bool true ∧ Sat W w' L) := by
  induction h with
  | @mk k i t NA nc ns IA ic xs rn1 rx1 hnc hic hall ih =>
  intro y L w hy hj hsm hs
  cases hy with
  | @mk k' i' t' NA' nc' ns' IA' ic' ys rn2 rx2 hnc' hic' hall' =>
  have e1 : (RV.mk k i t NA nc ns IA ic xs).j = .mk k i t ns (RV.js xs) := by rw [RV.j]
  have e2 : (RV.mk k' i' t' NA' nc' ns' IA' ic' ys).j = .mk k' i' t' ns' (RV.js ys) := by rw [RV.j]
  rw [e1, e2] at hj
  rw [e1] at hsm
  injection hj with j1 j2 j3 j4 j5
  subst j1 j2 j3 j4
  obtain ⟨ht, hn, hnl, hxl, hxs⟩ : t.length ≤ 1099511627776 ∧ (∀ n ∈ ns, n.length ≤ 1099511627776) ∧ ns.length ≤ 1099511627776 ∧ xs.length ≤ 1099511627776 ∧ ∀ x ∈ RV.js xs, SmJ 1099511627776 x := by
    cases hsm with
    | mk a b c d e => exact ⟨a, b, c, by simpa [RV.js_eq] using d, e⟩
  have hlen : xs.length = ys.length := by
    have := congrArg List.length j5
    rwa [RV.js_eq, RV.js_eq, List.length_map, List.length_map] at this
  refine Calls_of Tryd.func14 rfl 83 Tryd.ntmps14 rfl ?_
  unfold eV
  (repeat' (first | refine LW_strNe (a := t) (b := t) rfl rfl rfl rfl (fun h => absurd rfl h) (fun _ => ?_) | (refine isLW ?_; first | refine LW_nil ?_ | (refine isLg ?_; first | refine LW_take rfl ?_) | (refine isLload ?_; first | refine LW_loadC 0 TOK hs rfl rfl rfl rfl rfl ?_ | refine LW_loadC 1 TOK hs rfl rfl rfl rfl rfl ?_) | (refine isLcall ?_; first | refine LW_pure TOK rfl ?_) | (refine isLbin ?_; first | (refine LW_cmp rfl (fun _ => ?_) (fun _ => ?_) <;> try (exfalso; omega))) | refine LW_pure TOK rfl ?_ | (refine LW_box hs rfl rfl ?_; clear hs; intro _ w hs)) | (with_reducible first | refine then_n ?_ | refine CW_seq ?_ | refine CW_region ?_ | refine CW_block ?_ | refine CW_skip ?_) | refine CW_false rfl ?_))
  rename_i b2 _ b3 _ _ _ _ _
  replace hs : Sat W w (Cl b3 [.int .i64 k, .int .i64 i, sv t, .slice NA' ns.length nc', .slice IA' ys.length ic'] 31 :: Cl b2 [.int .i64 k, .int .i64 i, sv t, .slice NA ns.length nc, .slice IA xs.length ic] 31 :: L) := hs
  refine CW_loop (γ := Nat) (fun g => [(2, .pointer (some ⟨b2, 0, none⟩)), (3, .pointer (some ⟨b3, 0, none⟩)), (5, .int .i64 (g : Int))]) (fun g w' => Sat W w' (Cl b3 [.int .i64 k, .int .i64 i, sv t, .slice NA' ns.length nc', .slice IA' ys.length ic'] 31 :: Cl b2 [.int .i64 k, .int .i64 i, sv t, .slice NA ns.length nc, .slice IA xs.length ic] 31 :: L) ∧ g ≤ ns.length) (fun g => ns.length - g) 0 ⟨rfl, rfl, rfl, trivial⟩ ⟨hs, Nat.zero_le _⟩ ?_
  clear hs
  rintro g τ w1 ⟨hs, h1⟩
  try dsimp only
  by_cases hg : g < ns.length
  · (repeat' (first | refine DP_strNe (a := Go.Sl.rd ns (g : Int)) (b := Go.Sl.rd ns (g : Int)) rfl rfl (by first | exact trivial | rfl) rfl rfl rfl rfl (fun h => absurd rfl h) (fun _ => ?_) | (refine isLW ?_; first | refine LW_nil ?_ | (refine isLload ?_; first | refine LW_loadC 1 TOK hs rfl rfl rfl rfl rfl ?_) | (refine isLcall ?_; first | refine LW_pure TOK rfl ?_) | (refine isLbin ?_; first | refine LW_i64 rfl (by omega) (by omega) ?_ | (refine LW_cmp rfl (fun _ => ?_) (fun _ => ?_) <;> try (exfalso; omega))) | refine LW_pure TOK rfl ?_) | (refine isDP ?_; first | (refine isDnil ?_; first | refine DP_end ?_ ?_) | (refine isDload rfl ?_; first | refine DP_loadC 0 hs TOK rfl rfl (by first | exact trivial | rfl) rfl rfl rfl rfl rfl ?_ ?_ | refine DP_loadC 1 hs TOK rfl rfl (by first | exact trivial | rfl) rfl rfl rfl rfl rfl ?_ ?_ | refine DP_loadRd0 rn1 (fun _ => rfl) hs TOK rfl rfl (by first | exact trivial | rfl) rfl (by assumption) rfl rfl (by omega) (by omega) rfl ?_ ?_ | refine DP_loadRd0 rn2 (fun _ => rfl) hs TOK rfl rfl (by first | exact trivial | rfl) rfl (by assumption) rfl rfl (by omega) (by omega) rfl ?_ ?_) | (refine isDidx rfl ?_; first | (refine DP_indexRd (rn1.of hs) TOK rfl rfl (by first | exact trivial | rfl) rfl rfl rfl rfl rfl (by omega) (by omega) ?_; intro _ _ _) | (refine DP_indexRd (rn2.of hs) TOK rfl rfl (by first | exact trivial | rfl) rfl rfl rfl rfl rfl (by omega) (by omega) ?_; intro _ _ _)) | refine DP_pure TOK rfl rfl (by first | exact trivial | rfl) rfl ?_) | (refine isI0 ?_; exact Inv.nil) | (refine isI1 ?_; first | refine Inv.keepB hs ?_ | refine Inv.keepC 0 hs rfl rfl ?_ | refine Inv.keepC 1 hs rfl rfl ?_) | (with_reducible first | refine then_n ?_ | refine CW_seq ?_ | refine CW_region ?_ | refine CW_block ?_ | refine CW_skip ?_ | refine blk_n ?_) | refine CW_true rfl ?_ | refine CW_false rfl ?_ | (refine CW_drawP (id := 6) [] [0, 1, 2, 3, 4, 5, 6, 7, 8, 9, 10] mixed (by kernel_rfl) hs ?_; clear hs; intro hs)))
    all_goals exact ⟨g + 1, _, FR_forget _ ⟨rfl, rfl, rfl, trivial⟩, ⟨hs, by omega⟩, by omega⟩
  · (repeat' (first | (refine isLW ?_; first | refine LW_nil ?_ | (refine isLload ?_; first | refine LW_loadC 1 TOK hs rfl rfl rfl rfl rfl ?_) | (refine isLcall ?_; first | refine LW_pure TOK rfl ?_) | (refine isLbin ?_; first | (refine LW_cmp rfl (fun _ => ?_) (fun _ => ?_) <;> try (exfalso; omega))) | refine LW_pure TOK rfl ?_) | (with_reducible first | refine then_n ?_ | refine CW_seq ?_ | refine CW_region ?_ | refine CW_block ?_ | refine CW_exit ?_ | refine then_e ?_ | refine blk_same ?_) | refine CW_false rfl ?_))
    refine CW_loop (γ := Nat) (fun g => [(2, .pointer (some ⟨b2, 0, none⟩)), (3, .pointer (some ⟨b3, 0, none⟩)), (6, .int .i64 (g : Int))]) (fun g w' => Sat W w' (Cl b3 [.int .i64 k, .int .i64 i, sv t, .slice NA' ns.length nc', .slice IA' ys.length ic'] 31 :: Cl b2 [.int .i64 k, .int .i64 i, sv t, .slice NA ns.length nc, .slice IA xs.length ic] 31 :: L) ∧ g ≤ xs.length) (fun g => xs.length - g) 0 ⟨rfl, rfl, rfl, trivial⟩ ⟨hs, Nat.zero_le _⟩ ?_
    clear hs hg h1
    rintro g τ w1 ⟨hs, h1⟩
    try dsimp only
    by_cases hg : g < xs.length
    · obtain ⟨z1, hz1⟩ : ∃ z, Go.Sl.rd xs (g : Int) = z := ⟨_, rfl⟩
      obtain ⟨z2, hz2⟩ : ∃ z, Go.Sl.rd ys (g : Int) = z := ⟨_, rfl⟩
      have hget1 : xs[g]? = some z1 := by
        have := rd_get (xs := xs) (i := (g : Int)) (by omega) (by omega)
        rw [hz1] at this; simpa using this
      have hget2 : ys[g]? = some z2 := by
        have := rd_get (xs := ys) (i := (g : Int)) (by omega) (by omega)
        rw [hz2] at this; simpa using this
      have hzj : z1.j = z2.j := by
        have h5 := congrArg (fun l : List J => l[g]?) j5
        rw [RV.js_eq, RV.js_eq] at h5
        simp only [List.getElem?_map, hget1, hget2, Option.map_some] at h5
        exact Option.some.inj h5
      have hm1 := List.mem_of_getElem? hget1
      have hm2 := List.mem_of_getElem? hget2
      have hzs : SmJ 1099511627776 z1.j := hxs _ (by rw [RV.js_eq]; exact List.mem_map_of_mem hm1)
      have ihz := fun (w : World) (L : List HProp) (hs : Sat W w L) => ih z1 hm1 z2 L w (hall' z2 hm2) hzj hzs hs
      clear ih hzj
      cases z1 with
      | mk k1 i1 t1 NA1 nc1 ns1 IA1 ic1 xs1 =>
      cases z2 with
      | mk k2 i2 t2 NA2 nc2 ns2 IA2 ic2 xs2 =>
      (repeat' (first | (refine isLW ?_; first | refine LW_nil ?_ | (refine isLload ?_; first | refine LW_loadC 1 TOK hs rfl rfl rfl rfl rfl ?_) | (refine isLcall ?_; first | (refine LW_call (cap := []) rfl rfl ent14 (ihz _ _ hs) ?_; clear hs; rintro _ w2 ⟨rfl, hs⟩) | refine LW_pure TOK rfl ?_) | (refine isLbin ?_; first | refine LW_i64 rfl (by omega) (by omega) ?_ | (refine LW_cmp rfl (fun _ => ?_) (fun _ => ?_) <;> try (exfalso; omega))) | refine LW_pure TOK rfl ?_) | (refine isDP ?_; first | (refine isDnil ?_; first | refine DP_end ?_ ?_) | (refine isDe rfl ?_; first | refine DP_eff rfl rfl ?_ ?_) | (refine isDload rfl ?_; first | (refine DP_loadRdA rx1 eV_ok.1 hs TOK rfl rfl (by first | exact trivial | rfl) rfl (by assumption) rfl rfl rfl (by omega) (by omega) (by rw [hz1]) ?_ ?_) | (refine DP_loadRdA rx2 eV_ok.1 hs TOK rfl rfl (by first | exact trivial | rfl) rfl (by assumption) rfl rfl rfl (by omega) (by omega) (by rw [hz2]) ?_ ?_) | refine DP_loadC 0 hs TOK rfl rfl (by first | exact trivial | rfl) rfl rfl rfl rfl rfl ?_ ?_ | refine DP_loadC 1 hs TOK rfl rfl (by first | exact trivial | rfl) rfl rfl rfl rfl rfl ?_ ?_) | (refine isDidx rfl ?_; first | (refine DP_indexRd (rx1.of hs) TOK rfl rfl (by first | exact trivial | rfl) rfl rfl rfl rfl rfl (by omega) (by omega) ?_; intro _ _ _) | (refine DP_indexRd (rx2.of hs) TOK rfl rfl (by first | exact trivial | rfl) rfl rfl rfl rfl rfl (by omega) (by omega) ?_; intro _ _ _)) | refine DP_pure TOK rfl rfl (by first | exact trivial | rfl) rfl ?_) | (refine isI0 ?_; exact Inv.nil) | (refine isI1 ?_; first | refine Inv.keepB hs ?_ | refine Inv.keepC 0 hs rfl rfl ?_ | refine Inv.keepC 1 hs rfl rfl ?_) | (with_reducible first | refine then_n ?_ | refine CW_seq ?_ | refine CW_region ?_ | refine CW_block ?_ | refine CW_skip ?_ | refine blk_n ?_) | refine CW_true rfl ?_ | refine CW_false rfl ?_ | (refine CW_drawP (id := 11) [10] [0, 1, 2, 3, 4, 5, 6, 7, 8, 9, 10, 11] mixed (by kernel_rfl) hs ?_; clear hs; intro hs)))
      all_goals exact ⟨g + 1, _, FR_forget _ ⟨rfl, rfl, rfl, trivial⟩, ⟨hs, by omega⟩, by omega⟩
    · (repeat' (first | (refine isLW ?_; first | refine LW_nil ?_ | (refine isLload ?_; first | refine LW_loadC 1 TOK hs rfl rfl rfl rfl rfl ?_) | (refine isLcall ?_; first | refine LW_pure TOK rfl ?_) | (refine isLbin ?_; first | (refine LW_cmp rfl (fun _ => ?_) (fun _ => ?_) <;> try (exfalso; omega))) | refine LW_pure TOK rfl ?_) | (with_reducible first | refine then_n ?_ | refine CW_seq ?_ | refine CW_region ?_ | refine CW_exit ?_ | refine CW_ret ?_ | refine then_e ?_ | refine blk_same ?_) | refine CW_false rfl ?_ | refine RET1 Tryd.results14 rfl ?_))
      all_goals exact ⟨rfl, hs.drop1.drop1⟩
end
end Go.Proofs.YtbmeafeojcgndaaDoor
