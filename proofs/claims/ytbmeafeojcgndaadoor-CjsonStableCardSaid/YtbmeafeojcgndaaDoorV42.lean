/- Walks of the reference: a value put in order. -/
import Derived.Test.YtbmeafeojcgndaaDoorV41
set_option linter.unusedVariables false
set_option linter.unusedSimpArgs false
namespace Go.Proofs.YtbmeafeojcgndaaDoor
open Go Go.Sl Go.RowKit
set_option maxRecDepth 100000
attribute [local irreducible] CW LW DW FR DP Calls Res Ret
mutual
/-- A value, its objects in order. -/
def orderJ : J → J
  | .mk k i t ns xs => if k = 5 then .mk k i t ((sortP (ns.zip (orderJs xs))).map (·.1)) ((sortP (ns.zip (orderJs xs))).map (·.2)) else .mk k i t ns (orderJs xs)
def orderJs : List J → List J
  | [] => []
  | x :: xs => orderJ x :: orderJs xs
end
theorem orderJs_eq : ∀ xs : List J, orderJs xs = xs.map orderJ
  | [] => by simp [orderJs]
  | x :: xs => by simp [orderJs, orderJs_eq xs]
theorem insP_place {α : Type} (n : List UInt8) (v : α) : ∀ {l : List (List UInt8 × α)}, n ∉ l.map (·.1) → insP (n, v) l = l.take (placeL (l.map (·.1)) n) ++ (n, v) :: l.drop (placeL (l.map (·.1)) n)
  | [], _ => rfl
  | q :: l, h => by
    rw [List.map_cons, List.mem_cons, not_or] at h
    unfold insP
    by_cases hlt : q.1 < n
    · have h2 : ¬ n < q.1 := List.lt_asymm hlt
      rw [if_neg h2]
      have ih := insP_place n v (l := l) h.2
      have e : placeL ((q :: l).map (·.1)) n = placeL (l.map (·.1)) n + 1 := by
        unfold placeL
        rw [List.map_cons, List.takeWhile_cons, if_pos (by simpa using hlt), List.length_cons]
      rw [e, ih]; rfl
    · have h2 : n < q.1 := by
        by_cases h3 : n < q.1
        · exact h3
        · exact absurd (List.le_antisymm (List.not_lt.1 hlt) (List.not_lt.1 h3)) h.1
      rw [if_pos h2]
      have e : placeL ((q :: l).map (·.1)) n = 0 := by
        unfold placeL
        rw [List.map_cons, List.takeWhile_cons, if_neg (by simpa using hlt)]; rfl
      rw [e]; rfl
theorem upN_of {α : Type} {l : List (List UInt8 × α)} (h : Up l) : UpN (l.map (·.1)) := by
  unfold UpN; rw [List.pairwise_map]; exact h
section
variable {w W : World} {L R0 T : List HProp} {p q r s u : HProp}
theorem Sat.back5 (h : Sat W w (R0 ++ (p :: q :: r :: s :: u :: T))) : Sat W w (p :: q :: r :: s :: u :: (R0 ++ T)) := h.perm (by
  have := List.perm_append_comm (l₁ := R0) (l₂ := [p, q, r, s, u])
  have := this.append_right T
  simpa using this)
end
section
variable {W : World}
set_option maxHeartbeats 8000000 in
theorem order_call {x : RV} (h : RdV W x) : ∀ (L : List HProp) (w : World), WfJ x.j → SmJ 1099511627776 x.j → Sat W w L →
    Calls Tryd.prog 29 [Value.agg (eV x).toArray].toArray w (Ret fun v w' => ∃ y : RV, v = .agg (eV y).toArray ∧ y.j = orderJ x.j ∧ Sat W w' (y.rows ++ L)) := by
  induction h with
  | @mk k i t NA nc ns IA ic xs rn rx hnc hic hall ih =>
  intro L w hwf hsm hs
  have hjj : (RV.mk k i t NA nc ns IA ic xs).j = .mk k i t ns (RV.js xs) := by rw [RV.j]
  rw [hjj] at hsm hwf ⊢
  obtain ⟨ht, hn, hnl, hxl, hxs⟩ : t.length ≤ 1099511627776 ∧ (∀ n ∈ ns, n.length ≤ 1099511627776) ∧ ns.length ≤ 1099511627776 ∧ xs.length ≤ 1099511627776 ∧ ∀ x ∈ RV.js xs, SmJ 1099511627776 x := by
    cases hsm with
    | mk a b c d e => exact ⟨a, b, c, by simpa [RV.js_eq] using d, e⟩
  obtain ⟨hk, hi, ho, hxw⟩ : (0 ≤ k ∧ k ≤ 5) ∧ (k = 2 → -9223372036854775808 ≤ i ∧ i ≤ 9223372036854775807) ∧ (k = 5 → ns.length = xs.length ∧ ns.Nodup) ∧ ∀ x ∈ RV.js xs, WfJ x := by
    cases hwf with
    | mk a b c d => exact ⟨a, b, by simpa [RV.js_eq] using c, d⟩
  have hmemj : ∀ z ∈ xs, z.j ∈ RV.js xs := fun z hz => by rw [RV.js_eq]; exact List.mem_map_of_mem hz
  clear hsm hwf hall
  have ihx : ∀ z ∈ xs, ∀ (L : List HProp) (w : World), Sat W w L → Calls Tryd.prog 29 [Value.agg (eV z).toArray].toArray w (Ret fun v w' => ∃ y : RV, v = .agg (eV y).toArray ∧ y.j = orderJ z.j ∧ Sat W w' (y.rows ++ L)) := fun z hz L w hs => ih z hz L w (hxw _ (hmemj z hz)) (hxs _ (hmemj z hz)) hs
  clear ih
  rw [orderJ]
  refine Calls_of Tryd.func29 rfl 92 Tryd.ntmps29 rfl ?_
  unfold eV
  by_cases k5 : k = 5
  · obtain ⟨hlx, hnd⟩ := ho k5
    rw [if_pos k5]
    (repeat' (first | (refine isLW ?_; first | refine LW_nil ?_ | (refine isLg ?_; first | refine LW_take rfl ?_) | (refine isLload ?_; first | refine LW_loadC 1 TOK hs rfl rfl rfl rfl rfl ?_ | refine LW_loadC 2 TOK hs rfl rfl rfl rfl rfl ?_) | (refine isLstore ?_; first | (refine LW_storeCA 0 TOK hs rfl rfl rfl rfl rfl (oneV _ _ _ _ _ _ _ _ _) rfl (Nat.le_of_ble_eq_true rfl) ?_; clear hs; intro w hs)) | (refine isLcall ?_; first | refine LW_pure TOK rfl ?_) | (refine isLbin ?_; first | (refine LW_cmp rfl (fun _ => ?_) (fun _ => ?_) <;> try (exfalso; omega))) | refine LW_pure TOK rfl ?_ | (refine LW_box hs rfl rfl ?_; clear hs; intro _ w hs) | (refine LW_alloc TOK hs rfl rfl ?_; clear hs; intro _ w hs) | refine LW_build TOK rfl rfl rfl rfl rfl rfl ?_) | (with_reducible first | refine then_n ?_ | refine CW_seq ?_ | refine CW_region ?_ | refine CW_block ?_ | refine CW_skip ?_) | refine CW_false rfl ?_))
    rename_i b1 _ b2 _ b3 _ _ _
    refine CW_loop (γ := Nat × List RV × (Option Addr × Nat) × (Option Addr × Nat)) (fun g => [(1, .pointer (some ⟨b1, 0, none⟩)), (2, .pointer (some ⟨b2, 0, none⟩)), (3, .pointer (some ⟨b3, 0, none⟩)), (6, .int .i64 (g.1 : Int))]) (fun g w' => Sat W w' (RowOf eN 9 1 g.2.2.1.1 g.2.2.1.2 ((sortP ((ns.take g.1).zip g.2.1)).map (·.1)) :: RowOf eV 31 5 g.2.2.2.1 g.2.2.2.2 ((sortP ((ns.take g.1).zip g.2.1)).map (·.2)) :: Cl b3 [.int .i64 k, .int .i64 i, sv t, .slice g.2.2.1.1 ((sortP ((ns.take g.1).zip g.2.1)).map (·.1)).length g.2.2.1.2, .slice g.2.2.2.1 ((sortP ((ns.take g.1).zip g.2.1)).map (·.2)).length g.2.2.2.2] 31 :: Cl b2 [.int .i64 0, .int .i64 0, sv [], .slice none 0 0, .slice none 0 0] 31 :: Cl b1 [.int .i64 k, .int .i64 i, sv t, .slice NA ns.length nc, .slice IA xs.length ic] 31 :: (RV.rowss g.2.1 ++ L)) ∧ g.1 ≤ xs.length ∧ g.2.1.length = g.1 ∧ RV.js g.2.1 = (orderJs (RV.js xs)).take g.1) (fun g => xs.length - g.1) (0, [], (none, 0), (none, 0)) ⟨rfl, rfl, rfl, rfl, trivial⟩ ⟨(hs.nilRow 31 5).nilRow 9 1, Nat.zero_le _, rfl, by simp [RV.js]⟩ ?_
    clear hs
    rintro ⟨g, ys, ⟨A1, c1⟩, ⟨A2, c2⟩⟩ τ w1 ⟨hs, h1, h2, h3⟩
    dsimp only at hs h1 h2 h3 ⊢
    obtain ⟨P, hP⟩ : ∃ P, sortP ((ns.take g).zip ys) = P := ⟨_, rfl⟩
    have hPl : P.length = g := by
      rw [← hP, (sortP_perm _).length_eq, List.length_zip, List.length_take]; omega
    have hup : Up P := by rw [← hP]; exact sortP_up _
    rw [hP] at hs
    obtain ⟨U, hU⟩ : ∃ U, P.map (·.1) = U := ⟨_, rfl⟩
    obtain ⟨V, hV⟩ : ∃ V, P.map (·.2) = V := ⟨_, rfl⟩
    have lU : U.length = g := by rw [← hU, List.length_map, hPl]
    have lV : V.length = g := by rw [← hV, List.length_map, hPl]
    rw [hU, hV] at hs
    by_cases hg : g < xs.length
    · obtain ⟨nm, hnm⟩ : ∃ nm, Go.Sl.rd ns (g : Int) = nm := ⟨_, rfl⟩
      have hngt : ns[g]? = some nm := by
        have := rd_get (xs := ns) (i := (g : Int)) (by omega) (by omega)
        rw [hnm] at this; simpa using this
      have htk : ns.take (g + 1) = ns.take g ++ [nm] := by rw [List.take_add_one, hngt]; rfl
      have hnU : nm ∉ U := by
        have hp1 := (sortP_perm ((ns.take g).zip ys)).map (·.1)
        rw [List.map_fst_zip (by rw [List.length_take]; omega), hP, hU] at hp1
        intro hc
        have hc2 := hp1.mem_iff.1 hc
        have hnd2 : (ns.take (g + 1)).Nodup := hnd.sublist (List.take_sublist _ _)
        rw [htk] at hnd2
        exact (List.nodup_append.1 hnd2).2.2 nm hc2 nm (by simp) rfl
      have hupN : UpN U := by rw [← hU]; exact upN_of hup
      obtain ⟨pk, hpk⟩ : ∃ pk, placeL U nm = pk := ⟨_, rfl⟩
      have hpkl : pk ≤ U.length := by rw [← hpk]; exact placeL_le _ _
      obtain ⟨z, hz⟩ : ∃ z, Go.Sl.rd xs (g : Int) = z := ⟨_, rfl⟩
      have hget : xs[g]? = some z := by
        have := rd_get (xs := xs) (i := (g : Int)) (by omega) (by omega)
        rw [hz] at this; simpa using this
      have hmem : z ∈ xs := List.mem_of_getElem? hget
      have hzo : (orderJs (RV.js xs))[g]? = some (orderJ z.j) := by
        rw [orderJs_eq, RV.js_eq, List.getElem?_map, List.getElem?_map, hget]; rfl
      have ihz := ihx z hmem
      clear ihx
      obtain ⟨oz, hoz⟩ : ∃ oz, orderJ z.j = oz := ⟨_, rfl⟩
      rw [hoz] at ihz hzo
      cases z with
      | mk k1 i1 t1 NA1 nc1 ns1 IA1 ic1 xs1 =>
      (repeat' (first | (refine isLW ?_; first | refine LW_nil ?_ | (refine isLload ?_; first | (refine LW_loadRdA (rx.of hs) eV_ok.1 TOK rfl (by assumption) rfl rfl rfl (by omega) (by omega) (by rw [hz]) ?_) | refine LW_loadCAE 1 [.int .i64 kk, .int .i64 ii, sv tt, .slice NA0 ns0.length nc0, .slice IA0 xs0.length ic0] TOK hs rfl rfl rfl rfl (Nat.le_of_ble_eq_true rfl) rfl ?_ | refine LW_loadC 3 TOK hs rfl rfl rfl rfl rfl ?_ | refine LW_loadC 4 TOK hs rfl rfl rfl rfl rfl ?_) | (refine isLstore ?_; first | (refine LW_storeCA 0 TOK hs rfl rfl rfl rfl rfl (oneV _ _ _ _ _ _ _ _ _) rfl (Nat.le_of_ble_eq_true rfl) ?_; clear hs; intro w hs) | (refine LW_storeC 3 TOK hs rfl rfl rfl rfl rfl rfl rfl ?_; clear hs; intro w hs)) | (refine isLcall ?_; first | (refine LW_call (cap := []) rfl rfl ent29 (ihz _ _ hs) ?_; clear hs; rintro _ w2 ⟨y, rfl, hyj, hs⟩; replace hs := Sat.back5 hs; obtain ⟨R0, hR0⟩ : ∃ R0, y.rows = R0 := ⟨_, rfl⟩; rw [hR0] at hs; obtain ⟨kk, ii, tt, NA0, nc0, ns0, IA0, ic0, xs0⟩ := y) | (refine LW_call (cap := []) rfl rfl ent41 (place_call (W := _) (L := []) _ U A1 c1 nm (hs.rd 1 rfl) hupN (by omega) (Sat.start _)) ?_; rintro _ w2 ⟨rfl, hs2⟩; rw [hpk]; replace hs := hs.and0 hs2; clear hs2) | (refine LW_call (cap := []) rfl rfl ent42 (addName_call _ U A1 c1 pk nm hpkl (by omega) (hs.picks [1])) ?_; clear hs; rintro _ w2 ⟨A3, c3, rfl, hs⟩) | (refine LW_call (cap := []) rfl rfl ent43 (addItem_call _ V A2 c2 pk (.mk kk ii tt NA0 nc0 ns0 IA0 ic0 xs0) (by omega) (by omega) (hs.picks [2])) ?_; clear hs; rintro _ w2 ⟨A4, c4, rfl, hs⟩) | refine LW_pure TOK rfl ?_) | (refine isLidx ?_; first | (refine LW_indexRd (rx.of hs) TOK rfl rfl rfl rfl rfl (by omega) (by omega) ?_; intro _ _ _)) | (refine isLbin ?_; first | refine LW_i64 rfl (by omega) (by omega) ?_ | (refine LW_cmp rfl (fun _ => ?_) (fun _ => ?_) <;> try (exfalso; omega))) | refine LW_pure TOK rfl ?_ | (refine LW_alloc TOK hs rfl rfl ?_; clear hs; intro _ w hs)) | (refine isDP ?_; first | (refine isDnil ?_; first | refine DP_end ?_ ?_) | (refine isDe rfl ?_; first | refine DP_eff rfl rfl ?_ ?_) | (refine isDload rfl ?_; first | (refine DP_loadRd0 rn (fun _ => rfl) hs TOK rfl rfl (by first | exact trivial | rfl) rfl (by assumption) rfl rfl (by omega) (by omega) (by rw [hnm]; rfl) ?_ ?_) | refine DP_loadC 3 hs TOK rfl rfl (by first | exact trivial | rfl) rfl rfl rfl rfl rfl ?_ ?_ | refine DP_loadC 5 hs TOK rfl rfl (by first | exact trivial | rfl) rfl rfl rfl rfl rfl ?_ ?_) | (refine isDidx rfl ?_; first | (refine DP_indexRd (rn.of hs) TOK rfl rfl (by first | exact trivial | rfl) rfl rfl rfl rfl rfl (by omega) (by omega) ?_; intro _ _ _)) | refine DP_pure TOK rfl rfl (by first | exact trivial | rfl) rfl ?_) | (refine isI0 ?_; exact Inv.nil) | (refine isI1 ?_; first | refine Inv.keepB hs ?_ | refine Inv.keepC 3 hs rfl rfl ?_ | refine Inv.keepC 5 hs rfl rfl ?_ | refine Inv.gone (by kernel_rfl) ?_) | (with_reducible first | refine then_n ?_ | refine CW_seq ?_ | refine CW_region ?_ | refine CW_block ?_ | refine CW_skip ?_ | refine blk_n ?_) | refine CW_true rfl ?_ | (refine CW_drawP (id := 14) [7] [0, 1, 2, 3, 4, 5, 6, 7, 8] mixed (by kernel_rfl) hs ?_; clear hs; intro hs) | (refine CW_drawP (id := 15) [8, 10] [0, 1, 2, 3, 4, 5, 6, 7, 8, 9, 10] mixed (by kernel_rfl) hs ?_; clear hs; intro hs)))
      obtain ⟨y, hy⟩ : ∃ y, RV.mk kk ii tt NA0 nc0 ns0 IA0 ic0 xs0 = y := ⟨_, rfl⟩
      rw [hy] at hs hyj hR0
      have hys : RV.js (ys ++ [y]) = (orderJs (RV.js xs)).take (g + 1) := by
        rw [js_snoc, h3, hyj, List.take_add_one, hzo]; rfl
      have hP2 : sortP ((ns.take (g + 1)).zip (ys ++ [y])) = P.take pk ++ (nm, y) :: P.drop pk := by
        rw [htk, zip_snoc _ _ _ _ (by rw [List.length_take]; omega), sortP_snoc, hP, insP_place nm y (by rw [hU]; exact hnU), hU, hpk]
      have hU2 : (sortP ((ns.take (g + 1)).zip (ys ++ [y]))).map (·.1) = U.take pk ++ nm :: U.drop pk := by
        rw [hP2, List.map_append, List.map_cons, ← hU, List.map_take, List.map_drop]
      have hV2 : (sortP ((ns.take (g + 1)).zip (ys ++ [y]))).map (·.2) = V.take pk ++ y :: V.drop pk := by
        rw [hP2, List.map_append, List.map_cons, ← hV, List.map_take, List.map_drop]
      all_goals
        refine ⟨((g + 1, ys ++ [y], (A3, c3), (A4, c4)) : Nat × List RV × (Option Addr × Nat) × (Option Addr × Nat)), _, FR_forget _ ⟨rfl, rfl, rfl, rfl, trivial⟩, ⟨?_, by dsimp only; omega, by dsimp only; rw [List.length_append, h2]; rfl, hys⟩, by dsimp only; omega⟩
        dsimp only
        rw [hU2, hV2]
        have h5 := ((hs.picks [2]).drop1).picks [1]
        refine Sat.perm h5 (.cons _ (.cons _ (.cons _ (.cons _ (.cons _ ?_)))))
        rw [rowss_snoc, hR0, List.append_assoc]
        exact List.perm_append_comm_assoc _ _ _
    · have e : g = xs.length := by omega
      clear lU lV hPl
      subst e
      rw [List.take_of_length_le (by omega)] at hP
      have hoj : orderJs (RV.js xs) = RV.js ys := by
        rw [h3, List.take_of_length_le (by rw [orderJs_eq, RV.js_eq, List.length_map, List.length_map]; exact Nat.le_refl _)]
      (repeat' (first | (refine isLW ?_; first | refine LW_nil ?_ | (refine isLload ?_; first | refine LW_loadCAE 2 [.int .i64 k, .int .i64 i, sv t, .slice A1 U.length c1, .slice A2 V.length c2] TOK hs rfl rfl rfl rfl (Nat.le_of_ble_eq_true rfl) rfl ?_ | refine LW_loadC 4 TOK hs rfl rfl rfl rfl rfl ?_) | (refine isLstore ?_; first | (refine LW_storeCA 3 TOK hs rfl rfl rfl rfl rfl (oneV _ _ _ _ _ _ _ _ _) rfl (Nat.le_of_ble_eq_true rfl) ?_; clear hs; intro w hs)) | (refine isLcall ?_; first | refine LW_pure TOK rfl ?_) | (refine isLbin ?_; first | (refine LW_cmp rfl (fun _ => ?_) (fun _ => ?_) <;> try (exfalso; omega))) | refine LW_pure TOK rfl ?_) | (with_reducible first | refine then_n ?_ | refine CW_seq ?_ | refine CW_region ?_ | refine CW_exit ?_ | refine CW_ret ?_ | refine then_e ?_ | refine blk_same ?_) | refine RETA 3 hs TOK Tryd.results29 rfl rfl rfl rfl rfl ?_ | refine CW_false rfl ?_))
      all_goals
        refine ⟨.mk k i t A1 c1 U A2 c2 V, rfl, ?_, ?_⟩
        · rw [RV.j, hoj, RV.js_eq, RV.js_eq, ← hV, ← hU, ← hP]
          have h6 := sortP_map RV.j (ns.zip ys)
          have h7 : (ns.zip ys).map (fun q => (q.1, q.2.j)) = ns.zip (ys.map RV.j) := by rw [List.zip_map_right]; rfl
          rw [h7] at h6
          rw [← h6, List.map_map, List.map_map, List.map_map]; rfl
        · rw [RV.rows]
          have h5 := ((hs.picks [2, 2, 2]).drop1.drop1.drop1)
          refine Sat.perm h5 (.cons _ (.cons _ (List.Perm.append_right L (rowss_perm ?_))))
          rw [← hV, ← hP]
          have h8 := ((sortP_perm (ns.zip ys)).map (·.2)).symm
          rw [List.map_snd_zip (by omega)] at h8
          exact h8
  · rw [if_neg k5]
    (repeat' (first | (refine isLW ?_; first | refine LW_nil ?_ | (refine isLg ?_; first | refine LW_pass rfl rfl ?_) | (refine isLload ?_; first | refine LW_loadC 0 TOK hs rfl rfl rfl rfl rfl ?_ | refine LW_loadC 1 TOK hs rfl rfl rfl rfl rfl ?_ | refine LW_loadC 2 TOK hs rfl rfl rfl rfl rfl ?_) | (refine isLstore ?_; first | (refine LW_storeCA 0 TOK hs rfl rfl rfl rfl rfl (oneV _ _ _ _ _ _ _ _ _) rfl (Nat.le_of_ble_eq_true rfl) ?_; clear hs; intro w hs) | (refine LW_storeC 1 TOK hs rfl rfl rfl rfl rfl rfl rfl ?_; clear hs; intro w hs)) | (refine isLbin ?_; first | (refine LW_cmp rfl (fun _ => ?_) (fun _ => ?_) <;> try (exfalso; omega))) | refine LW_pure TOK rfl ?_ | (refine LW_box hs rfl rfl ?_; clear hs; intro _ w hs) | (refine LW_alloc TOK hs rfl rfl ?_; clear hs; intro _ w hs) | refine LW_build TOK rfl rfl rfl rfl rfl rfl ?_) | (with_reducible first | refine then_n ?_ | refine CW_seq ?_ | refine CW_region ?_ | refine CW_block ?_) | (replace hs := hs.nilRow 9 1; refine LW_append 0 (xs := ([] : List (List UInt8))) (ys := ns) eN_ok.1 hs TOK rfl rfl (rn.of hs) eN_ok.2 rfl rfl rfl rfl rfl rfl rfl (by simp only [List.length_nil]; unfold maxLen; omega) (by simp only [List.length_nil]; omega) ?_; clear hs; intro A1 c1 w hs; rw [List.nil_append] at hs ⊢) | refine CW_true rfl ?_))
    rename_i b1 _ b2 _ b3 _ _ _ _
    refine CW_loop (γ := Nat × List RV × (Option Addr × Nat)) (fun g => [(1, .pointer (some ⟨b1, 0, none⟩)), (2, .pointer (some ⟨b2, 0, none⟩)), (3, .pointer (some ⟨b3, 0, none⟩)), (4, .int .i64 (g.1 : Int))]) (fun g w' => Sat W w' (RowOf eN 9 1 A1 c1 ns :: RowOf eV 31 5 g.2.2.1 g.2.2.2 g.2.1 :: Cl b3 [.int .i64 k, .int .i64 i, sv t, .slice A1 ns.length c1, .slice g.2.2.1 g.2.1.length g.2.2.2] 31 :: Cl b2 [.int .i64 0, .int .i64 0, sv [], .slice none 0 0, .slice none 0 0] 31 :: Cl b1 [.int .i64 k, .int .i64 i, sv t, .slice NA ns.length nc, .slice IA xs.length ic] 31 :: (RV.rowss g.2.1 ++ L)) ∧ g.1 ≤ xs.length ∧ g.2.1.length = g.1 ∧ RV.js g.2.1 = (orderJs (RV.js xs)).take g.1) (fun g => xs.length - g.1) (0, [], (none, 0)) ⟨rfl, rfl, rfl, rfl, trivial⟩ ⟨(hs.nilRow 31 5).picks [1], Nat.zero_le _, rfl, by simp [RV.js]⟩ ?_
    clear hs
    rintro ⟨g, ys, ⟨A2, c2⟩⟩ τ w1 ⟨hs, h1, h2, h3⟩
    dsimp only at hs h1 h2 h3 ⊢
    by_cases hg : g < xs.length
    · skip
      obtain ⟨z, hz⟩ : ∃ z, Go.Sl.rd xs (g : Int) = z := ⟨_, rfl⟩
      have hget : xs[g]? = some z := by
        have := rd_get (xs := xs) (i := (g : Int)) (by omega) (by omega)
        rw [hz] at this; simpa using this
      have hmem : z ∈ xs := List.mem_of_getElem? hget
      have hzo : (orderJs (RV.js xs))[g]? = some (orderJ z.j) := by
        rw [orderJs_eq, RV.js_eq, List.getElem?_map, List.getElem?_map, hget]; rfl
      have ihz := ihx z hmem
      clear ihx
      obtain ⟨oz, hoz⟩ : ∃ oz, orderJ z.j = oz := ⟨_, rfl⟩
      rw [hoz] at ihz hzo
      cases z with
      | mk k1 i1 t1 NA1 nc1 ns1 IA1 ic1 xs1 =>
      (repeat' (first | (refine isLW ?_; first | refine LW_nil ?_ | (refine isLload ?_; first | (refine LW_loadRdA (rx.of hs) eV_ok.1 TOK rfl (by assumption) rfl rfl rfl (by omega) (by omega) (by rw [hz]) ?_) | refine LW_loadCAE 0 [.int .i64 kk, .int .i64 ii, sv tt, .slice NA0 ns0.length nc0, .slice IA0 xs0.length ic0] TOK hs rfl rfl rfl rfl (Nat.le_of_ble_eq_true rfl) rfl ?_ | refine LW_loadC 3 TOK hs rfl rfl rfl rfl rfl ?_ | refine LW_loadC 4 TOK hs rfl rfl rfl rfl rfl ?_) | (refine isLstore ?_; first | (refine LW_storeCA 0 TOK hs rfl rfl rfl rfl rfl (oneV _ _ _ _ _ _ _ _ _) rfl (Nat.le_of_ble_eq_true rfl) ?_; clear hs; intro w hs) | (refine LW_storeC 3 TOK hs rfl rfl rfl rfl rfl rfl rfl ?_; clear hs; intro w hs)) | (refine isLcall ?_; first | (refine LW_call (cap := []) rfl rfl ent29 (ihz _ _ hs) ?_; clear hs; rintro _ w2 ⟨y, rfl, hyj, hs⟩; replace hs := Sat.back5 hs; obtain ⟨R0, hR0⟩ : ∃ R0, y.rows = R0 := ⟨_, rfl⟩; rw [hR0] at hs; obtain ⟨kk, ii, tt, NA0, nc0, ns0, IA0, ic0, xs0⟩ := y) | (refine LW_append1 2 (xs := ys) (z := .mk kk ii tt NA0 nc0 ns0 IA0 ic0 xs0) eV_ok hs TOK rfl rfl rfl rfl rfl rfl rfl rfl rfl rfl (by unfold maxLen; omega) (by simp only []; omega) ?_; clear hs; intro A3 c3 w hs) | refine LW_pure TOK rfl ?_) | (refine isLidx ?_; first | (refine LW_indexRd (rx.of hs) TOK rfl rfl rfl rfl rfl (by omega) (by omega) ?_; intro _ _ _)) | (refine isLbin ?_; first | refine LW_i64 rfl (by omega) (by omega) ?_ | (refine LW_cmp rfl (fun _ => ?_) (fun _ => ?_) <;> try (exfalso; omega))) | refine LW_pure TOK rfl ?_ | (refine LW_alloc TOK hs rfl rfl ?_; clear hs; intro _ w hs) | (refine LW_buildSlice TOK hs rfl rfl rfl rfl rfl rfl rfl ?_; clear hs; intro _ w hs)) | (with_reducible first | refine then_n ?_ | refine CW_seq ?_ | refine CW_region ?_ | refine CW_block ?_ | refine CW_skip ?_ | refine blk_n ?_) | refine CW_true rfl ?_))
      obtain ⟨y, hy⟩ : ∃ y, RV.mk kk ii tt NA0 nc0 ns0 IA0 ic0 xs0 = y := ⟨_, rfl⟩
      rw [hy] at hs hyj hR0
      have hys : RV.js (ys ++ [y]) = (orderJs (RV.js xs)).take (g + 1) := by
        rw [js_snoc, h3, hyj, List.take_add_one, hzo]; rfl
      all_goals
        refine ⟨((g + 1, ys ++ [y], (A3, c3)) : Nat × List RV × (Option Addr × Nat)), _, FR_forget _ ⟨rfl, rfl, rfl, rfl, trivial⟩, ⟨?_, by dsimp only; omega, by dsimp only; rw [List.length_append, h2]; rfl, hys⟩, by dsimp only; omega⟩
        dsimp only
        refine Sat.perm hs.drop1 (.cons _ (.cons _ (.cons _ (.cons _ (.cons _ ?_)))))
        rw [rowss_snoc, hR0, List.append_assoc]
        exact List.perm_append_comm_assoc _ _ _
    · have e : g = xs.length := by omega
      subst e
      have hoj : orderJs (RV.js xs) = RV.js ys := by
        rw [h3, List.take_of_length_le (by rw [orderJs_eq, RV.js_eq, List.length_map, List.length_map]; exact Nat.le_refl _)]
      (repeat' (first | (refine isLW ?_; first | refine LW_nil ?_ | (refine isLload ?_; first | refine LW_loadCAE 2 [.int .i64 k, .int .i64 i, sv t, .slice A1 ns.length c1, .slice A2 ys.length c2] TOK hs rfl rfl rfl rfl (Nat.le_of_ble_eq_true rfl) rfl ?_ | refine LW_loadC 4 TOK hs rfl rfl rfl rfl rfl ?_) | (refine isLstore ?_; first | (refine LW_storeCA 3 TOK hs rfl rfl rfl rfl rfl (oneV _ _ _ _ _ _ _ _ _) rfl (Nat.le_of_ble_eq_true rfl) ?_; clear hs; intro w hs)) | (refine isLcall ?_; first | refine LW_pure TOK rfl ?_) | (refine isLbin ?_; first | (refine LW_cmp rfl (fun _ => ?_) (fun _ => ?_) <;> try (exfalso; omega))) | refine LW_pure TOK rfl ?_) | (with_reducible first | refine then_n ?_ | refine CW_seq ?_ | refine CW_region ?_ | refine CW_exit ?_ | refine CW_ret ?_ | refine then_e ?_ | refine then_r ?_ | refine blk_same ?_) | refine RETA 3 hs TOK Tryd.results29 rfl rfl rfl rfl rfl ?_ | refine CW_false rfl ?_))
      all_goals
        refine ⟨.mk k i t A1 c1 ns A2 c2 ys, rfl, ?_, ?_⟩
        · rw [RV.j, hoj]
        · rw [RV.rows]
          exact ((hs.picks [2, 2, 2]).drop1.drop1.drop1)
end
end Go.Proofs.YtbmeafeojcgndaaDoor
