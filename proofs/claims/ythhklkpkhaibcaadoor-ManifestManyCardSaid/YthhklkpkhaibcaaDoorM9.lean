/- Walks: ManifestMany. -/
import Derived.Test.YthhklkpkhaibcaaDoorM8
import Derived.Test.YthhklkpkhaibcaaDoorSlKeep3
set_option linter.unusedVariables false
set_option linter.unusedSimpArgs false
namespace Go.Proofs.YthhklkpkhaibcaaDoor
open Go Go.Sl Go.RowKit
set_option maxRecDepth 100000
attribute [local irreducible] CW LW DW FR DP Calls
def mineN : Nm := [109, 105, 110, 101]
def yoursN : Nm := [121, 111, 117, 114, 115]
theorem lim_in (n : Int) : ∃ m : Nat, 1 ≤ m ∧ m ≤ 600 ∧ ∃ x : Int, (if (1 : Int) > n then 1 else n) = x ∧ (if (600 : Int) < x then 600 else x) = (m : Int) := by
  by_cases h1 : (1 : Int) > n
  · exact ⟨1, by omega, by omega, 1, by rw [if_pos h1], rfl⟩
  · by_cases h2 : (600 : Int) < n
    · exact ⟨600, by omega, by omega, n, by rw [if_neg h1], by rw [if_pos h2]; rfl⟩
    · exact ⟨n.toNat, by omega, by omega, n, by rw [if_neg h1], by rw [if_neg h2]; omega⟩
theorem full_next {x : List Nm} {m : Nm} {i : Nat} (h : x.take i = List.replicate i m) (hi : i < x.length) : (x.set i m).take (i + 1) = List.replicate (i + 1) m := by
  rw [List.take_add_one, List.take_set_of_le (Nat.le_refl _), h, List.getElem?_set_self hi, List.replicate_succ']; rfl
theorem rd_rep {m : Nm} {n i : Nat} (h : i < n) : rd (List.replicate n m) (i : Int) = m := by
  rw [rd_at (by rw [List.length_replicate]; exact h), List.getElem_replicate]
structure RdW (W : World) (X : List HProp) {α : Type} (enc : α → List Value) (A : Option Addr) (xs : List α) : Prop where
  of : ∀ {w : World}, Sat W w X → Rd enc w A xs
set_option maxHeartbeats 8000000 in
theorem ManifestMany_call (W : World) (n0 k0 o0 : Int) (hn : -9223372036854775808 ≤ n0 ∧ n0 ≤ 9223372036854775807) (hk : -9223372036854775808 ≤ k0 ∧ k0 ≤ 9223372036854775807) (ho : -9223372036854775808 ≤ o0 ∧ o0 ≤ 9223372036854775807) (ht : Tab W) :
    Calls Tryd.prog 4 [Value.int .i64 n0, .int .i64 k0, .int .i64 o0].toArray W (Ret fun v w' => v = .bool true ∧ Sat W w' []) := by
  refine Calls_of Tryd.func4 rfl 170 Tryd.ntmps4 rfl ?_
  have hs := Sat.start W
  obtain ⟨n, hn1, hn2, nx, hnx, hnm⟩ := lim_in n0
  obtain ⟨o, ho1, ho2, ox, hox, hom⟩ := lim_in o0
  (repeat' (first | refine CW_late4 (fun a w => ∃ (k : Nat) (τ : Nat → Value), a = FR 170 [(0, .int .i64 (n : Int)), (1, .int .i64 ((k : Int) + 1)), (2, .int .i64 (o : Int))] τ [] ∧ k < n ∧ Sat W w []) ?_ ?_))
  case refine_2 =>
    intro hM
    (repeat' (first | refine hM _ _ ?_ | (refine isLW ?_; first | refine LW_nil ?_ | (refine isLg ?_; first | refine LW_take rfl ?_ | refine LW_pass rfl rfl ?_) | (refine isLbin ?_; first | (refine LW_cmp rfl (fun _ => ?_) (fun _ => ?_) <;> try (exfalso; omega))) | refine LW_max2 nx rfl rfl hnx ?_ | refine LW_min2 (n : Int) rfl rfl hnm ?_ | refine LW_max2 ox rfl rfl hox ?_ | refine LW_min2 (o : Int) rfl rfl hom ?_ | refine LW_pure TOK rfl ?_) | (with_reducible first | refine then_n ?_ | refine CW_seq ?_ | refine CW_region ?_ | refine CW_skip ?_) | refine CW_true rfl ?_ | refine CW_false rfl ?_))
    all_goals first
      | exact ⟨n - 1, _, FR_forget _ ⟨rfl, by show some (Value.int .i64 _) = some (Value.int .i64 _); congr 2; omega, rfl, trivial⟩, by omega, hs⟩
      | exact ⟨(k0 - 1).toNat, _, FR_forget _ ⟨rfl, by show some (Value.int .i64 _) = some (Value.int .i64 _); congr 2; omega, rfl, trivial⟩, by omega, hs⟩
  clear hs
  rintro _ w ⟨k, τ, rfl, hkn, hs⟩
  have hsw1 : ∀ {w : World} {L : List HProp}, Sat W w L → Calls Tryd.prog 10 [Value.int .i64 (n : Int), .int .i64 ((k : Int) + 1)].toArray w _ := fun h => swept_call W _ _ n k hn2 hkn ht h
  have hsw2 : ∀ {w : World} {L : List HProp}, Sat W w L → Calls Tryd.prog 10 [Value.int .i64 (o : Int), .int .i64 (o : Int)].toArray w (Ret fun v w' => ∃ B cb G, v = .tuple #[.slice B G.length cb, .bool true] ∧ G.length = o - 1 ∧ Sat W w' (RowOf eN 9 1 B cb G :: L)) := fun {w L} h => by
    have := swept_call W w L o (o - 1) ho2 (by omega) ht h
    rw [show ((o - 1 : Nat) : Int) + 1 = (o : Int) by omega] at this
    refine Calls.ret this ?_
    rintro v w' ⟨B, cb, G, e, l, _, _, s⟩
    exact ⟨B, cb, G, e, l, s⟩
  (repeat' (first | (refine isLW ?_; first | refine LW_nil ?_ | (refine isLcall ?_; first | (refine LW_call (cap := []) rfl rfl ent10 (hsw1 hs) ?_; clear hs; rintro _ w ⟨B, cb, G, rfl, hGl, hGn, hGm, hs⟩)) | refine LW_pure TOK rfl ?_) | (with_reducible first | refine then_n ?_ | refine CW_seq ?_ | refine CW_region ?_ | refine CW_block ?_ | refine CW_skip ?_) | refine CW_false rfl ?_))
  refine CW_loop (γ := Nat) (fun g => [(0, .int .i64 (n : Int)), (1, .int .i64 ((k : Int) + 1)), (2, .int .i64 (o : Int)), (7, .slice B G.length cb), (9, .int .i64 (g : Int))]) (fun g w' => Sat W w' [RowOf eN 9 1 B cb G] ∧ g ≤ G.length) (fun g => G.length - g) 0 ⟨rfl, rfl, rfl, rfl, rfl, trivial⟩ ⟨hs, Nat.zero_le _⟩ ?_
  clear hs
  rintro i τ w ⟨hs, hi⟩
  by_cases hlt : i < G.length
  case pos =>
    have hmem : rd G (i : Int) ∈ G := by rw [rd_at hlt]; exact List.getElem_mem hlt
    obtain ⟨j, hj1, hj2, hj3⟩ := hGm _ hmem
    have hnum : ∀ {w : World} {L : List HProp}, Sat W w L → Calls Tryd.prog 7 [sv (rd G (i : Int))].toArray w (Ret fun v w' => v = .tuple #[.int .i64 ((j : Int) + 1), .bool true] ∧ Sat W w' L) := fun {w L} h => by
      have hpl := (seg_path (i := j) (by omega)).2
      have := refNum_call W w L (rd G (i : Int)) (by rw [hj3]; omega) h
      rw [hj3, seg_num (by omega), ← hj3] at this
      exact this
    (repeat' (first | (refine isLW ?_; first | refine LW_nil ?_ | (refine isLg ?_; first | refine LW_take rfl ?_) | (refine isLload ?_; first | refine LW_loadRd0 (hs.rd 0 rfl) (fun _ => rfl) TOK rfl (by assumption) rfl rfl (by omega) (by omega) rfl ?_) | (refine isLcall ?_; first | (refine LW_call (cap := []) rfl rfl ent7 (hnum hs) ?_; clear hs; rintro _ w ⟨rfl, hs⟩) | refine LW_pure TOK rfl ?_) | (refine isLidx ?_; first | (refine LW_indexRd (hs.rd 0 rfl) TOK rfl rfl rfl rfl rfl (by omega) (by omega) ?_; intro _ _ _)) | (refine isLbin ?_; first | (refine LW_cmp rfl (fun _ => ?_) (fun _ => ?_) <;> try (exfalso; omega))) | refine LW_pure TOK rfl ?_) | (with_reducible first | refine then_n ?_ | refine CW_seq ?_ | refine CW_region ?_ | refine CW_block ?_ | refine CW_skip ?_) | refine CW_true rfl ?_ | refine CW_false rfl ?_))
    refine CW_loop (γ := Nat) (fun g => [(0, .int .i64 (n : Int)), (1, .int .i64 ((k : Int) + 1)), (2, .int .i64 (o : Int)), (7, .slice B G.length cb), (9, .int .i64 (i : Int)), (12, .int .i64 (g : Int))]) (fun g w' => Sat W w' [RowOf eN 9 1 B cb G] ∧ g ≤ i) (fun g => i - g) 0 ⟨rfl, rfl, rfl, rfl, rfl, rfl, trivial⟩ ⟨hs, Nat.zero_le _⟩ ?_
    clear hs
    rintro j2 τ w ⟨hs, hji⟩
    by_cases hjl : j2 < i ∧ n < 50
    · obtain ⟨hjl1, hjl2⟩ := hjl
      have hne : ¬ rd G (j2 : Int) = rd G (i : Int) := fun e => by
        rw [rd_at (by omega), rd_at hlt] at e
        have := (List.getElem_inj hGn).1 e
        omega
      (repeat' (first | refine DP_strEq (a := rd G (j2 : Int)) (b := rd G (i : Int)) rfl rfl (by first | exact trivial | rfl) rfl rfl rfl rfl (fun e => absurd e hne) (fun _ => ?_) | (refine isLW ?_; first | refine LW_nil ?_ | (refine isLg ?_; first | refine LW_take rfl ?_) | (refine isLbin ?_; first | refine LW_i64 rfl (by omega) (by omega) ?_ | (refine LW_cmp rfl (fun _ => ?_) (fun _ => ?_) <;> try (exfalso; omega))) | refine LW_pure TOK rfl ?_) | (refine isDP ?_; first | (refine isDnil ?_; first | refine DP_end ?_ ?_) | (refine isDload rfl ?_; first | refine DP_loadRd0 (hs.rd 0 rfl) (fun _ => rfl) (Sat.start _) TOK rfl rfl (by first | exact trivial | rfl) rfl (by assumption) rfl rfl (by omega) (by omega) rfl ?_ ?_) | (refine isDidx rfl ?_; first | (refine DP_indexRd (hs.rd 0 rfl) TOK rfl rfl (by first | exact trivial | rfl) rfl rfl rfl rfl rfl (by omega) (by omega) ?_; intro _ _ _)) | refine DP_pure TOK rfl rfl (by first | exact trivial | rfl) rfl ?_) | (refine isI0 ?_; exact Inv.nil) | (refine isI1 ?_; first | refine Inv.keepB (Sat.start _) ?_) | (with_reducible first | refine then_n ?_ | refine CW_seq ?_ | refine CW_region ?_ | refine CW_block ?_ | refine CW_skip ?_ | refine blk_n ?_) | refine CW_true rfl ?_ | refine CW_false rfl ?_ | (refine CW_drawP (id := 17) [] [0, 1, 2, 3, 4, 5, 6, 7, 8] mixed (by kernel_rfl) hs ?_; clear hs; intro hs)))
      exact ⟨j2 + 1, _, FR_forget _ ⟨rfl, rfl, rfl, rfl, rfl, (by push_cast; rfl), trivial⟩, ⟨hs, hjl1⟩, by omega⟩
    · (repeat' (first | (refine isLW ?_; first | refine LW_nil ?_ | (refine isLg ?_; first | refine LW_take rfl ?_ | refine LW_pass rfl rfl ?_) | (refine isLbin ?_; first | refine LW_i64 rfl (by omega) (by omega) ?_ | (refine LW_cmp rfl (fun _ => ?_) (fun _ => ?_) <;> try (exfalso; omega))) | refine LW_pure TOK rfl ?_) | (with_reducible first | refine then_n ?_ | refine CW_seq ?_ | refine CW_region ?_ | refine CW_exit ?_ | refine then_e ?_ | refine blk_n ?_ | refine blk_same ?_) | refine CW_false rfl ?_))
      all_goals exact ⟨i + 1, _, FR_forget _ ⟨rfl, rfl, rfl, rfl, (by push_cast; rfl), trivial⟩, ⟨hs, hlt⟩, by omega⟩
  (repeat' (first | (refine isLW ?_; first | refine LW_nil ?_ | (refine isLcall ?_; first | (refine LW_call (cap := []) rfl rfl ent10 (hsw2 hs) ?_; clear hs; rintro _ w ⟨C, cc, H, rfl, hHl, hs⟩) | refine LW_pure TOK rfl ?_) | (refine isLbin ?_; first | (refine LW_cmp rfl (fun _ => ?_) (fun _ => ?_) <;> try (exfalso; omega))) | refine LW_pure TOK rfl ?_) | (with_reducible first | refine then_n ?_ | refine CW_seq ?_ | refine CW_region ?_ | refine CW_block ?_ | refine CW_skip ?_ | refine CW_exit ?_ | refine then_e ?_ | refine blk_same ?_) | refine CW_false rfl ?_))
  clear hlt hi
  refine CW_loop (γ := Nat × List Nm) (fun g => [(2, .int .i64 (o : Int)), (7, .slice B G.length cb), (13, .slice C H.length cc), (14, .int .i64 (g.1 : Int))]) (fun g w' => Sat W w' [RowOf eN 9 1 C cc H, RowOf eN 9 1 B cb g.2] ∧ g.2.length = G.length ∧ g.1 ≤ G.length ∧ g.2.take g.1 = List.replicate g.1 mineN) (fun g => G.length - g.1) (0, G) ⟨rfl, rfl, rfl, rfl, trivial⟩ ⟨hs, rfl, Nat.zero_le _, rfl⟩ ?_
  clear hs
  rintro ⟨i, x⟩ τ w ⟨hs, hx, hi, hr⟩
  dsimp only at hs hx hi hr ⊢
  by_cases hlt : i < G.length
  case pos =>
    (repeat' (first | (refine isLW ?_; first | refine LW_nil ?_ | (refine isLstore ?_; first | (refine LW_storeRow 1 eN_ok (z := mineN) hs TOK rfl (by assumption) rfl rfl rfl rfl rfl (by omega) (by omega) ?_; clear hs; intro w hs)) | (refine isLcall ?_; first | refine LW_pure TOK rfl ?_) | (refine isLidx ?_; first | (refine LW_indexRdN (hs.rd 1 rfl) TOK rfl rfl rfl rfl rfl (by omega) (by omega) (by omega) ?_; intro _ _ _)) | (refine isLbin ?_; first | refine LW_i64 rfl (by omega) (by omega) ?_ | (refine LW_cmp rfl (fun _ => ?_) (fun _ => ?_) <;> try (exfalso; omega))) | refine LW_pure TOK rfl ?_) | (with_reducible first | refine then_n ?_ | refine CW_seq ?_ | refine CW_region ?_ | refine CW_block ?_ | refine CW_skip ?_ | refine blk_n ?_) | refine CW_true rfl ?_))
    exact ⟨(i + 1, x.set i mineN), _, FR_forget _ ⟨rfl, rfl, rfl, (by push_cast; rfl), trivial⟩, ⟨hs, by simpa using hx, hlt, full_next hr (by omega)⟩, by dsimp only; omega⟩
  have hxm : x = List.replicate G.length mineN := by
    rw [show i = G.length by omega, List.take_of_length_le (by omega)] at hr
    exact hr
  subst hxm
  have hcB := (hs.picks [1]).rowLe
  rw [List.length_replicate] at hcB
  (repeat' (first | (refine isLW ?_; first | refine LW_nil ?_ | (refine isLcall ?_; first | (refine LW_appendM 0 1 eN_ok (mk := mineN) (k := G.length) (nn := G.length) (m := 3) hs TOK rfl rfl rfl rfl rfl (Nat.le_refl _) (Nat.le_add_right _ _) (by decide) hcB rfl rfl rfl rfl rfl (by unfold maxLen; omega) (by simp only []; omega) ?_; clear hs; intro A1 c1 k1 Z1 w hk1 hk2 hZ1 hs; replace hs : Sat W w [RowOf eN 9 1 B cb (List.replicate k1 mineN), Big Z1, RowOf eN 9 1 C cc H] := hs) | refine LW_pure TOK rfl ?_) | (refine isLbin ?_; first | (refine LW_cmp rfl (fun _ => ?_) (fun _ => ?_) <;> try (exfalso; omega))) | refine LW_pure TOK rfl ?_ | (refine LW_buildSlice TOK hs rfl rfl rfl rfl rfl rfl rfl ?_; clear hs; intro _ w hs)) | (with_reducible first | refine then_n ?_ | refine CW_seq ?_ | refine CW_region ?_ | refine CW_block ?_ | refine CW_exit ?_ | refine then_e ?_ | refine blk_same ?_) | refine CW_false rfl ?_))
  clear hlt hi hr hx
  refine CW_loop (γ := Nat × List Nm) (fun g => [(7, .slice B G.length cb), (13, .slice C H.length cc), (15, .slice A1 (G.length + 3) c1), (16, .int .i64 (g.1 : Int))]) (fun g w' => Sat W w' [RowOf eN 9 1 B cb (List.replicate k1 mineN), Big Z1, RowOf eN 9 1 C cc g.2] ∧ g.2.length = H.length ∧ g.1 ≤ H.length ∧ g.2.take g.1 = List.replicate g.1 yoursN) (fun g => H.length - g.1) (0, H) ⟨rfl, rfl, rfl, rfl, trivial⟩ ⟨hs, rfl, Nat.zero_le _, rfl⟩ ?_
  clear hs
  rintro ⟨i, x⟩ τ w ⟨hs, hx, hi, hr⟩
  dsimp only at hs hx hi hr ⊢
  by_cases hlt : i < H.length
  case pos =>
    (repeat' (first | (refine isLW ?_; first | refine LW_nil ?_ | (refine isLstore ?_; first | (refine LW_storeRow 2 eN_ok (z := yoursN) hs TOK rfl (by assumption) rfl rfl rfl rfl rfl (by omega) (by omega) ?_; clear hs; intro w hs)) | (refine isLcall ?_; first | refine LW_pure TOK rfl ?_) | (refine isLidx ?_; first | (refine LW_indexRdN (hs.rd 2 rfl) TOK rfl rfl rfl rfl rfl (by omega) (by omega) (by omega) ?_; intro _ _ _)) | (refine isLbin ?_; first | refine LW_i64 rfl (by omega) (by omega) ?_ | (refine LW_cmp rfl (fun _ => ?_) (fun _ => ?_) <;> try (exfalso; omega))) | refine LW_pure TOK rfl ?_) | (with_reducible first | refine then_n ?_ | refine CW_seq ?_ | refine CW_region ?_ | refine CW_block ?_ | refine CW_skip ?_ | refine blk_n ?_) | refine CW_true rfl ?_))
    exact ⟨(i + 1, x.set i yoursN), _, FR_forget _ ⟨rfl, rfl, rfl, (by push_cast; rfl), trivial⟩, ⟨hs, by simpa using hx, hlt, full_next hr (by omega)⟩, by dsimp only; omega⟩
  have hxm : x = List.replicate H.length yoursN := by
    rw [show i = H.length by omega, List.take_of_length_le (by omega)] at hr
    exact hr
  subst hxm
  have hcC := (hs.picks [2]).rowLe
  rw [List.length_replicate] at hcC
  (repeat' (first | (refine isLW ?_; first | refine LW_nil ?_ | (refine isLcall ?_; first | (refine LW_appendM 0 2 eN_ok (mk := yoursN) (k := H.length) (nn := H.length) (m := 1) hs TOK rfl rfl rfl rfl rfl (Nat.le_refl _) (Nat.le_add_right _ _) (by decide) hcC rfl rfl rfl rfl rfl (by unfold maxLen; omega) (by simp only []; omega) ?_; clear hs; intro A2 c2 k2 Z2 w hj1 hj2 hZ2 hs; replace hs : Sat W w [RowOf eN 9 1 C cc (List.replicate k2 yoursN), Big Z2, RowOf eN 9 1 B cb (List.replicate k1 mineN), Big Z1] := hs) | refine LW_pure TOK rfl ?_) | (refine isLbin ?_; first | (refine LW_cmp rfl (fun _ => ?_) (fun _ => ?_) <;> try (exfalso; omega))) | refine LW_pure TOK rfl ?_ | (refine LW_buildSlice TOK hs rfl rfl rfl rfl rfl rfl rfl ?_; clear hs; intro _ w hs)) | (with_reducible first | refine then_n ?_ | refine CW_seq ?_ | refine CW_region ?_ | refine CW_block ?_ | refine CW_exit ?_ | refine then_e ?_ | refine blk_same ?_) | refine CW_false rfl ?_))
  clear hlt hi hr hx
  have r1 : RdW W [RowOf eN 9 1 C cc (List.replicate k2 yoursN), Big Z2, RowOf eN 9 1 B cb (List.replicate k1 mineN), Big Z1] eN A1 (List.replicate (G.length + 3) mineN) := ⟨fun h => hZ1.rd (h.picks [2, 2])⟩
  have r2 : RdW W [RowOf eN 9 1 C cc (List.replicate k2 yoursN), Big Z2, RowOf eN 9 1 B cb (List.replicate k1 mineN), Big Z1] eN A2 (List.replicate (H.length + 1) yoursN) := ⟨fun h => hZ2.rd h⟩
  have r3 : RdW W [RowOf eN 9 1 C cc (List.replicate k2 yoursN), Big Z2, RowOf eN 9 1 B cb (List.replicate k1 mineN), Big Z1] eN B (List.replicate k1 mineN) := ⟨fun h => h.rd 2 rfl⟩
  have r4 : RdW W [RowOf eN 9 1 C cc (List.replicate k2 yoursN), Big Z2, RowOf eN 9 1 B cb (List.replicate k1 mineN), Big Z1] eN C (List.replicate k2 yoursN) := ⟨fun h => h.rd 0 rfl⟩
  refine CW_loop (γ := Nat) (fun g => [(7, .slice B G.length cb), (13, .slice C H.length cc), (15, .slice A1 (G.length + 3) c1), (17, .slice A2 (H.length + 1) c2), (18, .int .i64 (g : Int))]) (fun g w' => Sat W w' [RowOf eN 9 1 C cc (List.replicate k2 yoursN), Big Z2, RowOf eN 9 1 B cb (List.replicate k1 mineN), Big Z1] ∧ g ≤ G.length + 3) (fun g => G.length + 3 - g) 0 ⟨rfl, rfl, rfl, rfl, rfl, trivial⟩ ⟨hs, Nat.zero_le _⟩ ?_
  clear hs
  rintro i τ w ⟨hs, hi⟩
  by_cases hlt : i < G.length + 3
  case pos =>
    have l1 : (List.replicate (G.length + 3) mineN).length = G.length + 3 := List.length_replicate
    have l3 : (List.replicate k1 mineN).length = k1 := List.length_replicate
    have v1 := rd_rep (m := mineN) hlt
    have v3 : i < G.length → rd (List.replicate k1 mineN) (i : Int) = mineN := fun h => rd_rep (by omega)
    (repeat' (first | refine LW_strNe (a := rd (List.replicate (G.length + 3) mineN) (i : Int)) (b := mineN) rfl rfl rfl rfl (fun hne => absurd v1 hne) (fun _ => ?_) | refine LW_strNe (a := rd (List.replicate k1 mineN) (i : Int)) (b := mineN) rfl rfl rfl rfl (fun hne => absurd (v3 (by omega)) hne) (fun _ => ?_) | (refine isLW ?_; first | refine LW_nil ?_ | (refine isLg ?_; first | refine LW_take rfl ?_ | refine LW_pass rfl rfl ?_) | (refine isLload ?_; first | refine LW_loadRd0 (r1.of hs) (fun _ => rfl) TOK rfl (by assumption) rfl rfl (by omega) (by omega) rfl ?_ | refine LW_loadRd0 (r3.of hs) (fun _ => rfl) TOK rfl (by assumption) rfl rfl (by omega) (by omega) rfl ?_) | (refine isLcall ?_; first | refine LW_pure TOK rfl ?_) | (refine isLidx ?_; first | (refine LW_indexRdN (r1.of hs) TOK rfl rfl rfl rfl rfl (by omega) (by omega) (by omega) ?_; intro _ _ _) | (refine LW_indexRdN (r3.of hs) TOK rfl rfl rfl rfl rfl (by omega) (by omega) (by omega) ?_; intro _ _ _)) | (refine isLbin ?_; first | refine LW_i64 rfl (by omega) (by omega) ?_ | (refine LW_cmp rfl (fun _ => ?_) (fun _ => ?_) <;> try (exfalso; omega))) | refine LW_pure TOK rfl ?_) | (with_reducible first | refine then_n ?_ | refine CW_seq ?_ | refine CW_region ?_ | refine CW_block ?_ | refine CW_skip ?_ | refine blk_n ?_) | refine CW_true rfl ?_ | refine CW_false rfl ?_))
    all_goals exact ⟨i + 1, _, FR_forget _ ⟨rfl, rfl, rfl, rfl, (by push_cast; rfl), trivial⟩, ⟨hs, hlt⟩, by omega⟩
  (repeat' (first | (refine isLW ?_; first | refine LW_nil ?_ | (refine isLcall ?_; first | refine LW_pure TOK rfl ?_) | (refine isLbin ?_; first | (refine LW_cmp rfl (fun _ => ?_) (fun _ => ?_) <;> try (exfalso; omega))) | refine LW_pure TOK rfl ?_) | (with_reducible first | refine then_n ?_ | refine CW_seq ?_ | refine CW_region ?_ | refine CW_block ?_ | refine CW_exit ?_ | refine then_e ?_ | refine blk_same ?_) | refine CW_false rfl ?_))
  clear hlt hi
  refine CW_loop (γ := Nat) (fun g => [(7, .slice B G.length cb), (13, .slice C H.length cc), (15, .slice A1 (G.length + 3) c1), (17, .slice A2 (H.length + 1) c2), (19, .int .i64 (g : Int))]) (fun g w' => Sat W w' [RowOf eN 9 1 C cc (List.replicate k2 yoursN), Big Z2, RowOf eN 9 1 B cb (List.replicate k1 mineN), Big Z1] ∧ g ≤ H.length + 1) (fun g => H.length + 1 - g) 0 ⟨rfl, rfl, rfl, rfl, rfl, trivial⟩ ⟨hs, Nat.zero_le _⟩ ?_
  clear hs
  rintro i τ w ⟨hs, hi⟩
  by_cases hlt : i < H.length + 1
  case pos =>
    have l1 : (List.replicate (H.length + 1) yoursN).length = H.length + 1 := List.length_replicate
    have l3 : (List.replicate k2 yoursN).length = k2 := List.length_replicate
    have v1 := rd_rep (m := yoursN) hlt
    have v3 : i < H.length → rd (List.replicate k2 yoursN) (i : Int) = yoursN := fun h => rd_rep (by omega)
    (repeat' (first | refine LW_strNe (a := rd (List.replicate (H.length + 1) yoursN) (i : Int)) (b := yoursN) rfl rfl rfl rfl (fun hne => absurd v1 hne) (fun _ => ?_) | refine LW_strNe (a := rd (List.replicate k2 yoursN) (i : Int)) (b := yoursN) rfl rfl rfl rfl (fun hne => absurd (v3 (by omega)) hne) (fun _ => ?_) | (refine isLW ?_; first | refine LW_nil ?_ | (refine isLg ?_; first | refine LW_take rfl ?_ | refine LW_pass rfl rfl ?_) | (refine isLload ?_; first | refine LW_loadRd0 (r2.of hs) (fun _ => rfl) TOK rfl (by assumption) rfl rfl (by omega) (by omega) rfl ?_ | refine LW_loadRd0 (r4.of hs) (fun _ => rfl) TOK rfl (by assumption) rfl rfl (by omega) (by omega) rfl ?_) | (refine isLcall ?_; first | refine LW_pure TOK rfl ?_) | (refine isLidx ?_; first | (refine LW_indexRdN (r2.of hs) TOK rfl rfl rfl rfl rfl (by omega) (by omega) (by omega) ?_; intro _ _ _) | (refine LW_indexRdN (r4.of hs) TOK rfl rfl rfl rfl rfl (by omega) (by omega) (by omega) ?_; intro _ _ _)) | (refine isLbin ?_; first | refine LW_i64 rfl (by omega) (by omega) ?_ | (refine LW_cmp rfl (fun _ => ?_) (fun _ => ?_) <;> try (exfalso; omega))) | refine LW_pure TOK rfl ?_) | (with_reducible first | refine then_n ?_ | refine CW_seq ?_ | refine CW_region ?_ | refine CW_block ?_ | refine CW_skip ?_ | refine blk_n ?_) | refine CW_true rfl ?_ | refine CW_false rfl ?_))
    all_goals exact ⟨i + 1, _, FR_forget _ ⟨rfl, rfl, rfl, rfl, (by push_cast; rfl), trivial⟩, ⟨hs, hlt⟩, by omega⟩
  (repeat' (first | (refine isLW ?_; first | refine LW_nil ?_ | (refine isLcall ?_; first | refine LW_pure TOK rfl ?_) | (refine isLbin ?_; first | (refine LW_cmp rfl (fun _ => ?_) (fun _ => ?_) <;> try (exfalso; omega))) | refine LW_pure TOK rfl ?_) | (with_reducible first | refine then_n ?_ | refine CW_seq ?_ | refine CW_region ?_ | refine CW_exit ?_ | refine CW_ret ?_ | refine then_e ?_ | refine blk_same ?_) | refine CW_false rfl ?_ | refine RET1 Tryd.results4 rfl ?_))
  exact ⟨rfl, hs.nil⟩
end Go.Proofs.YthhklkpkhaibcaaDoor
