/- Walks: the text of a value. -/
import Derived.Test.YtbmeafeojcgndaaDoorV35
set_option linter.unusedVariables false
set_option linter.unusedSimpArgs false
namespace Go.Proofs.YtbmeafeojcgndaaDoor
open Go Go.Sl Go.RowKit
set_option maxRecDepth 100000
attribute [local irreducible] CW LW DW FR DP Calls Res Ret
section
variable {W : World}
def WrC (W : World) (x : RV) : Prop := ∀ (L : List HProp) (w : World) (out : List UInt8) (A : Option Addr) (c : Nat), WfJ x.j → SmJ 1099511627776 x.j → Sat W w (RowOf eB 5 1 A c out :: L) → out.length + (writeJ x.j).length ≤ 8796093022208 →
    Calls Tryd.prog 32 [Value.slice A out.length c, .agg (eV x).toArray].toArray w (Ret fun r w' => ∃ A' c', r = .slice A' (out ++ writeJ x.j).length c' ∧ Sat W w' (RowOf eB 5 1 A' c' (out ++ writeJ x.j) :: L))
set_option maxHeartbeats 8000000 in
theorem write_call (hT : Tab W) {x : RV} (h : RdV W x) : WrC W x := by
  induction h with
  | @mk k i t NA nc ns IA ic xs rn rx hnc hic hall ih =>
  intro L w out A c hwf hsm hs hlen
  have hjj : (RV.mk k i t NA nc ns IA ic xs).j = .mk k i t ns (RV.js xs) := by rw [RV.j]
  rw [hjj] at hsm hwf hlen ⊢
  obtain ⟨ht, hn, hnl, hxl, hxs⟩ : t.length ≤ 1099511627776 ∧ (∀ n ∈ ns, n.length ≤ 1099511627776) ∧ ns.length ≤ 1099511627776 ∧ xs.length ≤ 1099511627776 ∧ ∀ x ∈ RV.js xs, SmJ 1099511627776 x := by
    cases hsm with
    | mk a b c d e => exact ⟨a, b, c, by simpa [RV.js_eq] using d, e⟩
  obtain ⟨hk, hi, ho, hxw⟩ : (0 ≤ k ∧ k ≤ 5) ∧ (k = 2 → -9223372036854775808 ≤ i ∧ i ≤ 9223372036854775807) ∧ (k = 5 → ns.length = xs.length ∧ ns.Nodup) ∧ ∀ x ∈ RV.js xs, WfJ x := by
    cases hwf with
    | mk a b c d => exact ⟨a, b, by simpa [RV.js_eq] using c, d⟩
  have hmemj : ∀ z ∈ xs, z.j ∈ RV.js xs := fun z hz => by rw [RV.js_eq]; exact List.mem_map_of_mem hz
  clear hsm hwf hall
  rw [writeJ] at hlen ⊢
  obtain ⟨ts, hts⟩ : ∃ ts, writeJs (RV.js xs) = ts := ⟨_, rfl⟩
  have htsm : ts = xs.map fun x => writeJ x.j := by rw [← hts, writeJs_eq, RV.js_eq, List.map_map]; rfl
  rw [hts] at hlen ⊢
  unfold headB at hlen ⊢
  refine Calls_of Tryd.func32 rfl 96 Tryd.ntmps32 rfl ?_
  unfold eV
  refine CW_late1 (fun a w => ∃ (b3 : Nat) (τ : Nat → Value), a = FR 96 [(0, .slice A out.length c), (3, .pointer (some ⟨b3, 0, none⟩))] τ [] ∧ Sat W w (RowOf eB 5 1 A c out :: Cl b3 [.int .i64 k, .int .i64 i, sv t, .slice NA ns.length nc, .slice IA xs.length ic] 31 :: L)) ?_ ?_
  rotate_left
  · intro hlate
    (repeat' (first | refine hlate _ _ ?_ | (refine isLW ?_; first | refine LW_nil ?_ | refine LW_pure TOK rfl ?_ | (refine LW_box hs rfl rfl ?_; clear hs; intro _ w hs)) | (with_reducible first | refine CW_seq ?_ | refine CW_region ?_)))
    exact ⟨_, _, FR_forget _ ⟨rfl, rfl, trivial⟩, hs.picks [1]⟩
  clear hs w
  rintro a w ⟨b3, τ, rfl, hs⟩
  by_cases k0 : k = 0
  · rw [if_pos k0] at hlen ⊢
    (repeat' (first | (refine isLW ?_; first | refine LW_nil ?_ | (refine isLload ?_; first | refine LW_loadC 1 TOK hs rfl rfl rfl rfl rfl ?_) | (refine isLcall ?_; first | (refine LW_appendS 0 (xs := out) (ys := nullB) hs TOK rfl rfl rfl rfl rfl rfl rfl rfl rfl rfl rfl rfl (by omega) ?_; clear hs; intro A2 c2 w hs)) | (refine isLbin ?_; first | (refine LW_cmp rfl (fun _ => ?_) (fun _ => ?_) <;> try (exfalso; omega))) | refine LW_pure TOK rfl ?_) | (with_reducible first | refine then_n ?_ | refine CW_seq ?_ | refine CW_region ?_ | refine CW_block ?_ | refine CW_ret ?_ | refine then_r ?_ | refine blk_r ?_) | refine CW_true rfl ?_ | refine RET1 Tryd.results32 rfl ?_))
    all_goals exact ⟨A2, c2, rfl, (hs.picks [1]).drop1⟩
  rw [if_neg k0] at hlen ⊢
  by_cases k1 : k = 1
  · rw [if_pos k1] at hlen ⊢
    by_cases i1 : i = 1
    · rw [decide_eq_true i1] at hlen ⊢
      (repeat' (first | (refine isLW ?_; first | refine LW_nil ?_ | (refine isLload ?_; first | refine LW_loadC 1 TOK hs rfl rfl rfl rfl rfl ?_) | (refine isLcall ?_; first | (refine LW_call (cap := []) rfl rfl ent48 (appendBool_call _ out true A c hs (by omega)) ?_; clear hs; rintro _ w2 ⟨A2, c2, rfl, hs⟩)) | (refine isLbin ?_; first | (refine LW_cmp rfl (fun _ => ?_) (fun _ => ?_) <;> try (exfalso; omega))) | refine LW_pure TOK rfl ?_) | (with_reducible first | refine then_n ?_ | refine CW_seq ?_ | refine CW_region ?_ | refine CW_block ?_ | refine CW_ret ?_ | refine then_r ?_ | refine blk_r ?_) | refine CW_true rfl ?_ | refine CW_false rfl ?_ | refine RET1 Tryd.results32 rfl ?_))
      all_goals exact ⟨A2, c2, rfl, (hs.picks [1]).drop1⟩
    · rw [decide_eq_false i1] at hlen ⊢
      (repeat' (first | (refine isLW ?_; first | refine LW_nil ?_ | (refine isLload ?_; first | refine LW_loadC 1 TOK hs rfl rfl rfl rfl rfl ?_) | (refine isLcall ?_; first | (refine LW_call (cap := []) rfl rfl ent48 (appendBool_call _ out false A c hs (by omega)) ?_; clear hs; rintro _ w2 ⟨A2, c2, rfl, hs⟩)) | (refine isLbin ?_; first | (refine LW_cmp rfl (fun _ => ?_) (fun _ => ?_) <;> try (exfalso; omega))) | refine LW_pure TOK rfl ?_) | (with_reducible first | refine then_n ?_ | refine CW_seq ?_ | refine CW_region ?_ | refine CW_block ?_ | refine CW_ret ?_ | refine then_r ?_ | refine blk_r ?_) | refine CW_true rfl ?_ | refine CW_false rfl ?_ | refine RET1 Tryd.results32 rfl ?_))
      all_goals exact ⟨A2, c2, rfl, (hs.picks [1]).drop1⟩
  rw [if_neg k1] at hlen ⊢
  by_cases k2 : k = 2
  · rw [if_pos k2] at hlen ⊢
    have hi2 := hi k2
    (repeat' (first | (refine isLW ?_; first | refine LW_nil ?_ | (refine isLload ?_; first | refine LW_loadC 1 TOK hs rfl rfl rfl rfl rfl ?_) | (refine isLcall ?_; first | (refine LW_call (cap := []) rfl rfl ent49 (appendInt_call hT _ out i hi2.1 hi2.2 A c hs (by omega)) ?_; clear hs; rintro _ w2 ⟨A2, c2, rfl, hs⟩)) | (refine isLbin ?_; first | (refine LW_cmp rfl (fun _ => ?_) (fun _ => ?_) <;> try (exfalso; omega))) | refine LW_pure TOK rfl ?_) | (with_reducible first | refine then_n ?_ | refine CW_seq ?_ | refine CW_region ?_ | refine CW_block ?_ | refine CW_ret ?_ | refine then_r ?_ | refine blk_r ?_) | refine CW_true rfl ?_ | refine CW_false rfl ?_ | refine RET1 Tryd.results32 rfl ?_))
    all_goals exact ⟨A2, c2, rfl, (hs.picks [1]).drop1⟩
  rw [if_neg k2] at hlen ⊢
  by_cases k3 : k = 3
  · rw [if_pos k3] at hlen ⊢
    (repeat' (first | (refine isLW ?_; first | refine LW_nil ?_ | (refine isLload ?_; first | refine LW_loadC 1 TOK hs rfl rfl rfl rfl rfl ?_) | (refine isLcall ?_; first | (refine LW_call (cap := []) rfl rfl ent50 (textW_call _ out t A c hs (by omega) (by omega)) ?_; clear hs; rintro _ w2 ⟨A2, c2, rfl, hs⟩)) | (refine isLbin ?_; first | (refine LW_cmp rfl (fun _ => ?_) (fun _ => ?_) <;> try (exfalso; omega))) | refine LW_pure TOK rfl ?_) | (with_reducible first | refine then_n ?_ | refine CW_seq ?_ | refine CW_region ?_ | refine CW_block ?_ | refine CW_ret ?_ | refine then_r ?_ | refine blk_r ?_) | refine CW_true rfl ?_ | refine CW_false rfl ?_ | refine RET1 Tryd.results32 rfl ?_))
    all_goals exact ⟨A2, c2, rfl, (hs.picks [1]).drop1⟩
  rw [if_neg k3] at hlen ⊢
  by_cases k4 : k = 4
  · rw [if_pos k4] at hlen ⊢
    unfold listB at hlen ⊢
    simp only [List.length_cons, List.length_append, List.length_nil] at hlen
    have htl : ts.length = xs.length := by rw [htsm, List.length_map]
    (repeat' (first | (refine isLW ?_; first | refine LW_nil ?_ | (refine isLload ?_; first | refine LW_loadC 1 TOK hs rfl rfl rfl rfl rfl ?_) | (refine isLcall ?_; first | (refine LW_append1 0 (xs := out) (z := (91 : UInt8)) eB_ok hs TOK rfl rfl rfl rfl rfl rfl rfl rfl rfl rfl (by unfold maxLen; omega) (by simp only []; omega) ?_; clear hs; intro A c w hs) | refine LW_pure TOK rfl ?_) | (refine isLbin ?_; first | (refine LW_cmp rfl (fun _ => ?_) (fun _ => ?_) <;> try (exfalso; omega))) | refine LW_pure TOK rfl ?_ | (refine LW_buildSlice TOK hs rfl rfl rfl rfl rfl rfl rfl ?_; clear hs; intro _ w hs)) | (with_reducible first | refine then_n ?_ | refine CW_seq ?_ | refine CW_region ?_ | refine CW_block ?_) | refine CW_true rfl ?_ | refine CW_false rfl ?_))
    refine CW_loop (γ := Nat × Option Addr × Nat) (fun g => [(0, .slice g.2.1 (out ++ [91] ++ joinC (ts.take g.1)).length g.2.2), (3, .pointer (some ⟨b3, 0, none⟩)), (40, .slice IA xs.length ic), (41, .int .i64 (xs.length : Int)), (42, .int .i64 (g.1 : Int))]) (fun g w' => Sat W w' (RowOf eB 5 1 g.2.1 g.2.2 (out ++ [91] ++ joinC (ts.take g.1)) :: L) ∧ g.1 ≤ xs.length) (fun g => xs.length - g.1) (0, A, c) ⟨by simp only [List.take_zero, joinC, List.append_nil]; rfl, rfl, rfl, rfl, rfl, trivial⟩ ⟨by simp only [List.take_zero, joinC, List.append_nil]; exact (hs.picks [1]).drop1, Nat.zero_le _⟩ ?_
    clear hs A c
    rintro ⟨g, A, c⟩ τ w1 ⟨hs, h1⟩
    dsimp only at hs h1 ⊢
    by_cases hg : g < xs.length
    · obtain ⟨z, hz⟩ : ∃ z, Go.Sl.rd xs (g : Int) = z := ⟨_, rfl⟩
      have hget : xs[g]? = some z := by
        have := rd_get (xs := xs) (i := (g : Int)) (by omega) (by omega)
        rw [hz] at this; simpa using this
      have hmem : z ∈ xs := List.mem_of_getElem? hget
      have hgt : ts[g]? = some (writeJ z.j) := by rw [htsm, List.getElem?_map, hget]; rfl
      have hmono := joinC_len_mono (l := ts) (g := g + 1) (by omega)
      have hstep := joinC_take_succ hgt
      obtain ⟨tx, htx⟩ : ∃ tx, writeJ z.j = tx := ⟨_, rfl⟩
      rw [htx] at hstep
      obtain ⟨cur, hcur⟩ : ∃ cur, out ++ [91] ++ joinC (ts.take g) = cur := ⟨_, rfl⟩
      have hcl : cur.length = out.length + 1 + (joinC (ts.take g)).length := by rw [← hcur]; simp only [List.length_append, List.length_singleton]
      have ihz : ∀ (L : List HProp) (w : World) (out : List UInt8) (A : Option Addr) (c : Nat), Sat W w (RowOf eB 5 1 A c out :: L) → out.length + tx.length ≤ 8796093022208 → Calls Tryd.prog 32 [Value.slice A out.length c, .agg (eV z).toArray].toArray w (Ret fun r w' => ∃ A' c', r = .slice A' (out ++ tx).length c' ∧ Sat W w' (RowOf eB 5 1 A' c' (out ++ tx) :: L)) := by
        rw [← htx]
        exact fun L w out A c hs hl => ih z hmem L w out A c (hxw _ (hmemj z hmem)) (hxs _ (hmemj z hmem)) hs hl
      clear ih htx hgt
      rw [hcur] at hs ⊢
      cases z with
      | mk kk ii tt NA0 nc0 ns0 IA0 ic0 xs0 =>
      by_cases g0 : g = 0
      · rw [if_pos g0] at hstep
        have hcat : out ++ [91] ++ joinC (ts.take (g + 1)) = cur ++ tx := by rw [hstep, ← hcur, g0]; simp [joinC]
        rw [hstep] at hmono
        (repeat' (first | (refine isLW ?_; first | refine LW_nil ?_ | (refine isLload ?_; first | (refine LW_loadRdA (rx.of hs) eV_ok.1 TOK rfl (by assumption) rfl rfl rfl (by omega) (by omega) (by rw [hz]) ?_) | refine LW_loadCAE 0 [.int .i64 kk, .int .i64 ii, sv tt, .slice NA0 ns0.length nc0, .slice IA0 xs0.length ic0] TOK hs rfl rfl rfl rfl (Nat.le_of_ble_eq_true rfl) rfl ?_) | (refine isLstore ?_; first | (refine LW_storeCA 0 TOK hs rfl rfl rfl rfl rfl (oneV _ _ _ _ _ _ _ _ _) rfl (Nat.le_of_ble_eq_true rfl) ?_; clear hs; intro w hs)) | (refine isLcall ?_; first | (refine LW_call (cap := []) rfl rfl ent32 (ihz _ _ cur A c (hs.picks [1]) (by subst g0; simp only [List.take_zero, joinC, List.length_nil] at hcl; omega)) ?_; clear hs; rintro _ w2 ⟨A2, c2, rfl, hs⟩)) | (refine isLidx ?_; first | (refine LW_indexRd (rx.of hs) TOK rfl rfl rfl rfl rfl (by omega) (by omega) ?_; intro _ _ _)) | (refine isLbin ?_; first | refine LW_i64 rfl (by omega) (by omega) ?_ | (refine LW_cmp rfl (fun _ => ?_) (fun _ => ?_) <;> try (exfalso; omega))) | refine LW_pure TOK rfl ?_ | (refine LW_alloc TOK hs rfl rfl ?_; clear hs; intro _ w hs)) | (with_reducible first | refine then_n ?_ | refine CW_seq ?_ | refine CW_region ?_ | refine CW_block ?_ | refine CW_skip ?_ | refine blk_n ?_) | refine CW_true rfl ?_ | refine CW_false rfl ?_))
        all_goals exact ⟨((g + 1, A2, c2) : Nat × Option Addr × Nat), _, FR_forget _ ⟨by dsimp only; rw [hcat]; rfl, rfl, rfl, rfl, rfl, trivial⟩, ⟨by dsimp only; rw [hcat]; exact (hs.picks [1]).drop1, by dsimp only; omega⟩, by dsimp only; omega⟩
      · rw [if_neg g0] at hstep
        have hcat : out ++ [91] ++ joinC (ts.take (g + 1)) = cur ++ [44] ++ tx := by rw [hstep, ← hcur]; simp
        rw [hstep, List.length_append, List.length_cons] at hmono
        (repeat' (first | (refine isLW ?_; first | refine LW_nil ?_ | (refine isLload ?_; first | (refine LW_loadRdA (rx.of hs) eV_ok.1 TOK rfl (by assumption) rfl rfl rfl (by omega) (by omega) (by rw [hz]) ?_) | refine LW_loadCAE 0 [.int .i64 kk, .int .i64 ii, sv tt, .slice NA0 ns0.length nc0, .slice IA0 xs0.length ic0] TOK hs rfl rfl rfl rfl (Nat.le_of_ble_eq_true rfl) rfl ?_) | (refine isLstore ?_; first | (refine LW_storeCA 0 TOK hs rfl rfl rfl rfl rfl (oneV _ _ _ _ _ _ _ _ _) rfl (Nat.le_of_ble_eq_true rfl) ?_; clear hs; intro w hs)) | (refine isLcall ?_; first | (refine LW_append1 1 (xs := cur) (z := (44 : UInt8)) eB_ok hs TOK rfl rfl rfl rfl rfl rfl rfl rfl rfl rfl (by unfold maxLen; omega) (by simp only []; omega) ?_; clear hs; intro A c w hs) | (refine LW_call (cap := []) rfl rfl ent32 (ihz _ _ (cur ++ [44]) A c (hs.picks [1]) (by simp only [List.length_append, List.length_singleton]; omega)) ?_; clear hs; rintro _ w2 ⟨A2, c2, rfl, hs⟩)) | (refine isLidx ?_; first | (refine LW_indexRd (rx.of hs) TOK rfl rfl rfl rfl rfl (by omega) (by omega) ?_; intro _ _ _)) | (refine isLbin ?_; first | refine LW_i64 rfl (by omega) (by omega) ?_ | (refine LW_cmp rfl (fun _ => ?_) (fun _ => ?_) <;> try (exfalso; omega))) | refine LW_pure TOK rfl ?_ | (refine LW_alloc TOK hs rfl rfl ?_; clear hs; intro _ w hs) | (refine LW_buildSlice TOK hs rfl rfl rfl rfl rfl rfl rfl ?_; clear hs; intro _ w hs)) | (with_reducible first | refine then_n ?_ | refine CW_seq ?_ | refine CW_region ?_ | refine CW_block ?_ | refine CW_skip ?_ | refine blk_n ?_) | refine CW_true rfl ?_))
        all_goals exact ⟨((g + 1, A2, c2) : Nat × Option Addr × Nat), _, FR_forget _ ⟨by dsimp only; rw [hcat]; rfl, rfl, rfl, rfl, rfl, trivial⟩, ⟨by dsimp only; rw [hcat]; exact (hs.picks [1]).drop1, by dsimp only; omega⟩, by dsimp only; omega⟩
    · have e : g = xs.length := by omega
      subst e
      rw [List.take_of_length_le (by omega)] at hs ⊢
      have hq : out ++ 91 :: (joinC ts ++ [93]) = out ++ [91] ++ joinC ts ++ [93] := by simp
      rw [hq]
      obtain ⟨cur, hcur⟩ : ∃ cur, out ++ [91] ++ joinC ts = cur := ⟨_, rfl⟩
      have hcl : cur.length = out.length + 1 + (joinC ts).length := by rw [← hcur]; simp only [List.length_append, List.length_singleton]
      rw [hcur] at hs ⊢
      (repeat' (first | (refine isLW ?_; first | refine LW_nil ?_ | (refine isLcall ?_; first | (refine LW_append1 0 (xs := cur) (z := (93 : UInt8)) eB_ok hs TOK rfl rfl rfl rfl rfl rfl rfl rfl rfl rfl (by unfold maxLen; omega) (by simp only []; omega) ?_; clear hs; intro A c w hs)) | (refine isLbin ?_; first | (refine LW_cmp rfl (fun _ => ?_) (fun _ => ?_) <;> try (exfalso; omega))) | refine LW_pure TOK rfl ?_ | (refine LW_buildSlice TOK hs rfl rfl rfl rfl rfl rfl rfl ?_; clear hs; intro _ w hs)) | (with_reducible first | refine then_n ?_ | refine CW_seq ?_ | refine CW_region ?_ | refine CW_exit ?_ | refine CW_ret ?_ | refine then_e ?_ | refine then_r ?_ | refine blk_r ?_ | refine blk_same ?_) | refine CW_false rfl ?_ | refine RET1 Tryd.results32 rfl ?_))
      all_goals exact ⟨A, c, rfl, hs⟩
  rw [if_neg k4] at hlen ⊢
  have k5 : k = 5 := by omega
  obtain ⟨hlx, hnd⟩ := ho k5
  unfold objB at hlen ⊢
  simp only [List.length_cons, List.length_append, List.length_nil] at hlen
  (repeat' (first | (refine isLW ?_; first | refine LW_nil ?_ | (refine isLload ?_; first | refine LW_loadC 1 TOK hs rfl rfl rfl rfl rfl ?_) | (refine isLcall ?_; first | (refine LW_append1 0 (xs := out) (z := (123 : UInt8)) eB_ok hs TOK rfl rfl rfl rfl rfl rfl rfl rfl rfl rfl (by unfold maxLen; omega) (by simp only []; omega) ?_; clear hs; intro A c w hs) | (refine LW_call (cap := []) rfl rfl ent51 (rising_call (W := _) (L := []) (rn.of hs) (by omega) _ (Sat.start _)) ?_; rintro _ w2 ⟨AZ, cZ, Z, rfl, pZ, sZ, hs2⟩; replace hs := hs.and1 hs2; clear hs2) | refine LW_pure TOK rfl ?_) | (refine isLbin ?_; first | (refine LW_cmp rfl (fun _ => ?_) (fun _ => ?_) <;> try (exfalso; omega))) | refine LW_pure TOK rfl ?_ | (refine LW_buildSlice TOK hs rfl rfl rfl rfl rfl rfl rfl ?_; clear hs; intro _ w hs)) | (with_reducible first | refine then_n ?_ | refine CW_seq ?_ | refine CW_region ?_ | refine CW_block ?_ | refine CW_skip ?_ | refine blk_n ?_) | refine CW_false rfl ?_))
  replace hs := hs.picks [1]
  have hZl : Z.length = ns.length := by rw [pZ.length_eq, idxs_len]
  have hZo : ∀ i : Int, 0 ≤ i → i < Z.length → 0 ≤ Go.Sl.rd Z i ∧ Go.Sl.rd Z i < ns.length := fun i k0 k1 => (idxs_ok.perm pZ) _ (List.mem_of_getElem? (rd_get k0 k1))
  obtain ⟨PZ, hPZ⟩ : ∃ PZ, Z.map (fun i => memB (nmA ns i, writeJ (Go.Sl.rd xs i).j)) = PZ := ⟨_, rfl⟩
  have hPZl : PZ.length = ns.length := by rw [← hPZ, List.length_map, hZl]
  have hPe : (sortP (ns.zip ts)).map memB = PZ := by
    have h1 := order_pairs hlx hnd pZ sZ
    have h2 := sortP_map (fun x : RV => writeJ x.j) (ns.zip xs)
    have h3 : (ns.zip xs).map (fun q => (q.1, writeJ q.2.j)) = ns.zip ts := by
      rw [htsm, List.zip_map_right]; rfl
    rw [h3, ← h1, List.map_map] at h2
    rw [← h2, List.map_map, ← hPZ]
    rfl
  rw [hPe] at hlen ⊢
  clear hPe hts htsm pZ sZ
  refine CW_loop (γ := Nat × Option Addr × Nat) (fun g => [(0, .slice g.2.1 (out ++ [123] ++ joinC (PZ.take g.1)).length g.2.2), (3, .pointer (some ⟨b3, 0, none⟩)), (64, .slice AZ ns.length cZ), (65, .int .i64 (ns.length : Int)), (66, .int .i64 (g.1 : Int))]) (fun g w' => Sat W w' (RowOf eB 5 1 g.2.1 g.2.2 (out ++ [123] ++ joinC (PZ.take g.1)) :: RowOf eI 3 1 AZ cZ Z :: Cl b3 [.int .i64 k, .int .i64 i, sv t, .slice NA ns.length nc, .slice IA xs.length ic] 31 :: L) ∧ g.1 ≤ ns.length) (fun g => ns.length - g.1) (0, A, c) ⟨by simp only [List.take_zero, joinC, List.append_nil]; rfl, rfl, rfl, rfl, rfl, trivial⟩ ⟨by simp only [List.take_zero, joinC, List.append_nil]; exact hs, Nat.zero_le _⟩ ?_
  clear hs A c
  rintro ⟨g, A, c⟩ τ w1 ⟨hs, h1⟩
  dsimp only at hs h1 ⊢
  by_cases hg : g < ns.length
  · obtain ⟨zi, hzi⟩ : ∃ zi, Go.Sl.rd Z (g : Int) = zi := ⟨_, rfl⟩
    have hzo := hZo (g : Int) (by omega) (by omega)
    rw [hzi] at hzo
    have hgZ : Z[g]? = some zi := by
      have := rd_get (xs := Z) (i := (g : Int)) (by omega) (by omega)
      rw [hzi] at this; simpa using this
    obtain ⟨nm, hnm⟩ : ∃ nm, Go.Sl.rd ns zi = nm := ⟨_, rfl⟩
    have hnmem : nm ∈ ns := by rw [← hnm]; exact List.mem_of_getElem? (rd_get hzo.1 hzo.2)
    have hnml := hn nm hnmem
    obtain ⟨z, hz⟩ : ∃ z, Go.Sl.rd xs zi = z := ⟨_, rfl⟩
    have hmem : z ∈ xs := by rw [← hz]; exact List.mem_of_getElem? (rd_get hzo.1 (by omega))
    obtain ⟨tx, htx⟩ : ∃ tx, writeJ z.j = tx := ⟨_, rfl⟩
    have hgt : PZ[g]? = some (quoteB nm ++ 58 :: tx) := by
      rw [← hPZ, List.getElem?_map, hgZ, ← htx, ← hz, ← hnm]; rfl
    have hmono := joinC_len_mono (l := PZ) (g := g + 1) (by omega)
    have hstep := joinC_take_succ hgt
    obtain ⟨cur, hcur⟩ : ∃ cur, out ++ [123] ++ joinC (PZ.take g) = cur := ⟨_, rfl⟩
    have hcl : cur.length = out.length + 1 + (joinC (PZ.take g)).length := by rw [← hcur]; simp only [List.length_append, List.length_singleton]
    have ihz : ∀ (L : List HProp) (w : World) (out : List UInt8) (A : Option Addr) (c : Nat), Sat W w (RowOf eB 5 1 A c out :: L) → out.length + tx.length ≤ 8796093022208 → Calls Tryd.prog 32 [Value.slice A out.length c, .agg (eV z).toArray].toArray w (Ret fun r w' => ∃ A' c', r = .slice A' (out ++ tx).length c' ∧ Sat W w' (RowOf eB 5 1 A' c' (out ++ tx) :: L)) := by
      rw [← htx]
      exact fun L w out A c hs hl => ih z hmem L w out A c (hxw _ (hmemj z hmem)) (hxs _ (hmemj z hmem)) hs hl
    clear ih htx hgt hPZ
    rw [hcur] at hs ⊢
    cases z with
    | mk kk ii tt NA0 nc0 ns0 IA0 ic0 xs0 =>
    by_cases g0 : g = 0
    · rw [if_pos g0] at hstep
      have hcat : out ++ [123] ++ joinC (PZ.take (g + 1)) = cur ++ quoteB nm ++ [58] ++ tx := by rw [hstep, ← hcur, g0]; simp [joinC]
      rw [hstep, List.length_append, List.length_cons] at hmono
      have hcl2 : cur.length = out.length + 1 := by rw [hcl, g0]; simp [joinC]
      (repeat' (first | (refine isLW ?_; first | refine LW_nil ?_ | (refine isLload ?_; first | (refine LW_loadRd0 (hs.rd 1 rfl) (fun _ => rfl) TOK rfl (by assumption) rfl rfl (by omega) (by omega) (by rw [hzi]; rfl) ?_) | (refine LW_loadRd0 (rn.of hs) (fun _ => rfl) TOK rfl (by assumption) rfl rfl (by omega) (by omega) (by rw [hnm]; rfl) ?_) | (refine LW_loadRdA (rx.of hs) eV_ok.1 TOK rfl (by assumption) rfl rfl rfl (by omega) (by omega) (by rw [hz]) ?_) | refine LW_loadC 2 TOK hs rfl rfl rfl rfl rfl ?_) | (refine isLcall ?_; first | (refine LW_call (cap := []) rfl rfl ent50 (textW_call _ cur nm A c hs (by omega) (by omega)) ?_; clear hs; rintro _ w2 ⟨A, c, rfl, hs⟩) | (refine LW_append1 0 (xs := cur ++ quoteB nm) (z := (58 : UInt8)) eB_ok hs TOK rfl rfl rfl rfl rfl rfl rfl rfl rfl rfl (by unfold maxLen; rw [List.length_append]; omega) (by simp only [List.length_append]; omega) ?_; clear hs; intro A c w hs) | (refine LW_call (cap := []) rfl rfl ent32 (ihz _ _ (cur ++ quoteB nm ++ [58]) A c hs (by simp only [List.length_append, List.length_singleton]; omega)) ?_; clear hs; rintro _ w2 ⟨A2, c2, rfl, hs⟩)) | (refine isLidx ?_; first | (refine LW_indexRdN (hs.rd 1 rfl) TOK rfl rfl rfl rfl rfl (by omega) (by omega) (by omega) ?_; intro _ _ _) | (refine LW_indexRd (rn.of hs) TOK rfl rfl rfl rfl rfl (by omega) (by omega) ?_; intro _ _ _) | (refine LW_indexRd (rx.of hs) TOK rfl rfl rfl rfl rfl (by omega) (by omega) ?_; intro _ _ _)) | (refine isLbin ?_; first | refine LW_i64 rfl (by omega) (by omega) ?_ | (refine LW_cmp rfl (fun _ => ?_) (fun _ => ?_) <;> try (exfalso; omega))) | refine LW_pure TOK rfl ?_ | (refine LW_buildSlice TOK hs rfl rfl rfl rfl rfl rfl rfl ?_; clear hs; intro _ w hs)) | (with_reducible first | refine then_n ?_ | refine CW_seq ?_ | refine CW_region ?_ | refine CW_block ?_ | refine CW_skip ?_ | refine blk_n ?_) | refine CW_true rfl ?_ | refine CW_false rfl ?_))
      all_goals exact ⟨((g + 1, A2, c2) : Nat × Option Addr × Nat), _, FR_forget _ ⟨by dsimp only; rw [hcat]; rfl, rfl, rfl, rfl, rfl, trivial⟩, ⟨by dsimp only; rw [hcat]; exact hs, by dsimp only; omega⟩, by dsimp only; omega⟩
    · rw [if_neg g0] at hstep
      have hcat : out ++ [123] ++ joinC (PZ.take (g + 1)) = cur ++ [44] ++ quoteB nm ++ [58] ++ tx := by rw [hstep, ← hcur]; simp
      rw [hstep, List.length_append, List.length_cons, List.length_append, List.length_cons] at hmono
      (repeat' (first | (refine isLW ?_; first | refine LW_nil ?_ | (refine isLload ?_; first | (refine LW_loadRd0 (hs.rd 1 rfl) (fun _ => rfl) TOK rfl (by assumption) rfl rfl (by omega) (by omega) (by rw [hzi]; rfl) ?_) | (refine LW_loadRd0 (rn.of hs) (fun _ => rfl) TOK rfl (by assumption) rfl rfl (by omega) (by omega) (by rw [hnm]; rfl) ?_) | (refine LW_loadRdA (rx.of hs) eV_ok.1 TOK rfl (by assumption) rfl rfl rfl (by omega) (by omega) (by rw [hz]) ?_) | refine LW_loadC 2 TOK hs rfl rfl rfl rfl rfl ?_) | (refine isLcall ?_; first | (refine LW_append1 0 (xs := cur) (z := (44 : UInt8)) eB_ok hs TOK rfl rfl rfl rfl rfl rfl rfl rfl rfl rfl (by unfold maxLen; omega) (by simp only []; omega) ?_; clear hs; intro A c w hs) | (refine LW_call (cap := []) rfl rfl ent50 (textW_call _ (cur ++ [44]) nm A c hs (by simp only [List.length_append, List.length_singleton]; omega) (by omega)) ?_; clear hs; rintro _ w2 ⟨A, c, rfl, hs⟩) | (refine LW_append1 0 (xs := cur ++ [44] ++ quoteB nm) (z := (58 : UInt8)) eB_ok hs TOK rfl rfl rfl rfl rfl rfl rfl rfl rfl rfl (by unfold maxLen; simp only [List.length_append, List.length_singleton]; omega) (by simp only [List.length_append, List.length_singleton]; omega) ?_; clear hs; intro A c w hs) | (refine LW_call (cap := []) rfl rfl ent32 (ihz _ _ (cur ++ [44] ++ quoteB nm ++ [58]) A c hs (by simp only [List.length_append, List.length_singleton]; omega)) ?_; clear hs; rintro _ w2 ⟨A2, c2, rfl, hs⟩)) | (refine isLidx ?_; first | (refine LW_indexRdN (hs.rd 1 rfl) TOK rfl rfl rfl rfl rfl (by omega) (by omega) (by omega) ?_; intro _ _ _) | (refine LW_indexRd (rn.of hs) TOK rfl rfl rfl rfl rfl (by omega) (by omega) ?_; intro _ _ _) | (refine LW_indexRd (rx.of hs) TOK rfl rfl rfl rfl rfl (by omega) (by omega) ?_; intro _ _ _)) | (refine isLbin ?_; first | refine LW_i64 rfl (by omega) (by omega) ?_ | (refine LW_cmp rfl (fun _ => ?_) (fun _ => ?_) <;> try (exfalso; omega))) | refine LW_pure TOK rfl ?_ | (refine LW_buildSlice TOK hs rfl rfl rfl rfl rfl rfl rfl ?_; clear hs; intro _ w hs)) | (with_reducible first | refine then_n ?_ | refine CW_seq ?_ | refine CW_region ?_ | refine CW_block ?_ | refine CW_skip ?_ | refine blk_n ?_) | refine CW_true rfl ?_))
      all_goals exact ⟨((g + 1, A2, c2) : Nat × Option Addr × Nat), _, FR_forget _ ⟨by dsimp only; rw [hcat]; rfl, rfl, rfl, rfl, rfl, trivial⟩, ⟨by dsimp only; rw [hcat]; exact hs, by dsimp only; omega⟩, by dsimp only; omega⟩
  · have e : g = ns.length := by omega
    subst e
    rw [List.take_of_length_le (by omega)] at hs ⊢
    have hq : out ++ 123 :: (joinC PZ ++ [125]) = out ++ [123] ++ joinC PZ ++ [125] := by simp
    rw [hq]
    obtain ⟨cur, hcur⟩ : ∃ cur, out ++ [123] ++ joinC PZ = cur := ⟨_, rfl⟩
    have hcl : cur.length = out.length + 1 + (joinC PZ).length := by rw [← hcur]; simp only [List.length_append, List.length_singleton]
    rw [hcur] at hs ⊢
    (repeat' (first | (refine isLW ?_; first | refine LW_nil ?_ | (refine isLcall ?_; first | (refine LW_append1 0 (xs := cur) (z := (125 : UInt8)) eB_ok hs TOK rfl rfl rfl rfl rfl rfl rfl rfl rfl rfl (by unfold maxLen; omega) (by simp only []; omega) ?_; clear hs; intro A c w hs)) | (refine isLbin ?_; first | (refine LW_cmp rfl (fun _ => ?_) (fun _ => ?_) <;> try (exfalso; omega))) | refine LW_pure TOK rfl ?_ | (refine LW_buildSlice TOK hs rfl rfl rfl rfl rfl rfl rfl ?_; clear hs; intro _ w hs)) | (with_reducible first | refine then_n ?_ | refine CW_seq ?_ | refine CW_region ?_ | refine CW_exit ?_ | refine CW_ret ?_ | refine then_e ?_ | refine blk_same ?_) | refine CW_false rfl ?_ | refine RET1 Tryd.results32 rfl ?_))
    all_goals exact ⟨A, c, rfl, (hs.picks [1, 1]).drop1.drop1⟩
end
end Go.Proofs.YtbmeafeojcgndaaDoor
