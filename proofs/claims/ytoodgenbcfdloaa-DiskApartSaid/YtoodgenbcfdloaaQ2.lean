/- Results that lie in boxes of several cells. -/
import Derived.Test.YtoodgenbcfdloaaSlB
import Derived.Test.YtoodgenbcfdloaaQ1
set_option linter.unusedVariables false
set_option linter.unusedSimpArgs false
namespace Go.Sl
open Go.RowKit
section
variable {P : Program} {fn : Func} {Post : Value → World → Prop} {n : Nat} {s : List (Nat × Value)} {τ : Nat → Value} {w W : World} {L : List HProp} {T : List (Nat × TI)}
theorem RETA (i : Nat) {t : Tmp} {ti : TI} {ta te : TypeId} {b : Nat} {vs : List Value} (hs : Sat W w L) (hT : TyOK P T) (h : fn.results = #[.cell t ta]) (hv : EVO n s (.tmp t) = some (.pointer (some ⟨b, 0, none⟩)))
    (h1 : lookT T ta = some ti) (ha : ti.agg = true) (hi : getA L i = some (Cl b vs te)) (hl : vs.length = ti.size) (k : Post (.agg vs.toArray) w) : bodyPost P fn (Ret Post) .ret (FR n s τ []) w := by
  rw [getA_eq] at hi
  have e1 := slot_of (τ := τ) hv
  have r1 := ty_isAgg (hT _ _ h1) w
  have r2 := ty_sizeOf (hT _ _ h1) w
  have h3 := run_loadCells_list (P := P) (w := w) ⟨b, 0, none⟩ vs (fun j v hj => by
    have e : (⟨b, 0, none⟩ : Addr).add j = ⟨b, 0 + j, none⟩ := by unfold Addr.add; split <;> simp_all
    rw [e, hs.cell i hi (0 + j), Nat.zero_add]; exact hj)
  rw [hl] at h3
  have h4 : Sem.run P (loadCellsFrom ⟨b, 0, none⟩ 0 ti.size #[]) w = Result.ok vs.toArray w := h3
  rw [ha] at r1
  refine ⟨rfl, .agg vs.toArray, ?_, k⟩
  simp [results, h, go_sem, e1, asAddr, r1, r2, h4, Result.andThen]
theorem RETA2 (i : Nat) {t u : Tmp} {ti : TI} {ta te : TypeId} {b : Nat} {vs : List Value} {v' : Value} (hs : Sat W w L) (hT : TyOK P T) (h : fn.results = #[.cell t ta, .tmp u]) (hv : EVO n s (.tmp t) = some (.pointer (some ⟨b, 0, none⟩))) (hv' : EVO n s (.tmp u) = some v')
    (h1 : lookT T ta = some ti) (ha : ti.agg = true) (hi : getA L i = some (Cl b vs te)) (hl : vs.length = ti.size) (k : Post (.tuple #[.agg vs.toArray, v']) w) : bodyPost P fn (Ret Post) .ret (FR n s τ []) w := by
  rw [getA_eq] at hi
  have e1 := slot_of (τ := τ) hv
  have e2 := slot_of (τ := τ) hv'
  have r1 := ty_isAgg (hT _ _ h1) w
  have r2 := ty_sizeOf (hT _ _ h1) w
  have h3 := run_loadCells_list (P := P) (w := w) ⟨b, 0, none⟩ vs (fun j v hj => by
    have e : (⟨b, 0, none⟩ : Addr).add j = ⟨b, 0 + j, none⟩ := by unfold Addr.add; split <;> simp_all
    rw [e, hs.cell i hi (0 + j), Nat.zero_add]; exact hj)
  rw [hl] at h3
  have h4 : Sem.run P (loadCellsFrom ⟨b, 0, none⟩ 0 ti.size #[]) w = Result.ok vs.toArray w := h3
  rw [ha] at r1
  refine ⟨rfl, .tuple #[.agg vs.toArray, v'], ?_, k⟩
  simp [results, h, go_sem, e1, e2, asAddr, r1, r2, h4, Result.andThen]
end
end Go.Sl

/- The document's disk; walks: with, changed, left, set, taken. -/
set_option linter.unusedVariables false
set_option linter.unusedSimpArgs false
namespace Go.Proofs.Ytoodgenbcfdloaa
open Go Go.Sl Go.RowKit
set_option maxRecDepth 100000
attribute [local irreducible] CW LW DW FR DP Calls

theorem tw_cut {α : Type} {q : α → Bool} {l : List α} {k : Nat} (hk : k ≤ l.length) (h1 : ∀ j (h : j < l.length), j < k → q l[j] = true) (h2 : ∀ (h : k < l.length), q l[k] = false) : l.takeWhile q = l.take k ∧ l.dropWhile q = l.drop k := by
  induction l generalizing k with
  | nil => simp
  | cons x l ih =>
    cases k with
    | zero =>
      have := h2 (by simp)
      simp only [List.getElem_cons_zero] at this
      simp [this]
    | succ k =>
      have hx := h1 0 (by simp) (by omega)
      simp only [List.getElem_cons_zero] at hx
      obtain ⟨e1, e2⟩ := ih (k := k) (by simpa using hk) (fun j h hj => h1 (j + 1) (by simpa using h) (by omega)) (fun h => h2 (by simpa using h))
      simp [hx, e1, e2]
set_option maxHeartbeats 2000000 in
theorem with_call (W : World) (l : Names) (A : Option Addr) (c : Nat) (n : Nm) (f : Nat) (ra : Rd eE W A l) (hl : l.length ≤ 2199023255552) (hf : f ≤ 4611686018427387904) :
    Calls Try.prog 81 [Value.slice A l.length c, sv n, .int .i64 (f : Int)].toArray W (Ret fun v w' => ∃ A' c', v = .slice A' (wi l n f).length c' ∧ Sat W w' [RowOf eE 113 2 A' c' (wi l n f)]) := by
  refine Calls_of Try.func81 rfl 55 Try.ntmps81 rfl ?_
  have hs := Sat.start W
  have hrl : (wo l n).length ≤ l.length := List.length_filter_le _ _
  have hwi : wi l n f = (wo l n).takeWhile (fun p => decide (p.1 < n)) ++ (n, f) :: (wo l n).dropWhile (fun p => decide (p.1 < n)) := rfl
  obtain ⟨rest, hrest⟩ : ∃ rest, wo l n = rest := ⟨_, rfl⟩
  rw [hrest] at hrl hwi
  have hwc := without_call
  (repeat' (first | (refine isLW ?_; first | refine LW_nil ?_ | (refine isLcall ?_; first | (refine LW_call (cap := []) rfl rfl ent85 (without_call _ l A c n (ra.of hs) (by omega)) ?_; rintro _ w2 ⟨AR, cr, rfl, hs2⟩; replace hs := hs.and1 hs2; clear hs2; rw [hrest] at hs ⊢)) | refine LW_pure TOK rfl ?_) | (with_reducible first | refine then_n ?_ | refine CW_seq ?_ | refine CW_region ?_ | refine CW_block ?_)))
  refine CW_loop (γ := Nat × Option Addr × Nat) (fun g => [(1, sv n), (2, .int .i64 (f : Int)), (7, .slice AR rest.length cr), (8, .slice g.2.1 (rest.take g.1).length g.2.2), (9, .int .i64 (g.1 : Int))]) (fun g w' => Sat W w' [RowOf eE 113 2 g.2.1 g.2.2 (rest.take g.1), RowOf eE 113 2 AR cr rest] ∧ g.1 ≤ rest.length ∧ ∀ j (h : j < rest.length), j < g.1 → decide (rest[j].1 < n) = true) (fun g => rest.length - g.1) (0, none, 0) ⟨rfl, rfl, rfl, rfl, rfl, trivial⟩ ⟨hs.nilRow 113 2, by omega, fun j _ h => absurd h (Nat.not_lt_zero _)⟩ ?_
  clear hs
  rintro ⟨i, A1, c1⟩ τ w' ⟨hs, h1, h2⟩
  try dsimp only at hs h1 h2 ⊢
  have hlen : (rest.take i).length = i := by rw [List.length_take]; omega
  by_cases hgo : ∃ h : i < rest.length, rest[i].1 < n
  · obtain ⟨hlt, hls⟩ := hgo
    have hru := rd_at hlt
    have hnx : rest.take (i + 1) = rest.take i ++ [rest[i]] := List.take_succ_eq_append_getElem hlt
    rw [← hru] at hls
    (repeat' (first | (refine LW_strLt (a := (rd rest (i : Int)).1) (b := n) rfl rfl rfl rfl (fun hq => ?_) (fun hq => absurd hls hq)) | (refine isLW ?_; first | refine LW_nil ?_ | (refine isLg ?_; first | refine LW_take rfl ?_) | (refine isLload ?_; first | refine LW_loadRdA (vs := eE rest[i]) (hs.rd 1 rfl) (fun _ => rfl) TOK rfl (by assumption) rfl rfl rfl (by omega) (by omega) (by rw [hru]) ?_ | refine LW_loadRd (hs.rd 1 rfl) (fun _ => rfl) TOK rfl (by assumption) rfl rfl (by omega) (by omega) rfl ?_) | (refine isLcall ?_; first | (refine LW_append1 0 eE_ok (z := rest[i]) hs TOK rfl rfl rfl rfl rfl rfl rfl rfl rfl rfl (by unfold maxLen; omega) (by simp only []; omega) ?_; clear hs; intro A3 c3 w hs) | refine LW_pure TOK rfl ?_) | (refine isLidx ?_; first | (refine LW_indexRd (hs.rd 1 rfl) TOK rfl rfl rfl rfl rfl (by omega) (by omega) ?_; intro _ _ _)) | (refine isLbin ?_; first | refine LW_i64 rfl (by omega) (by omega) ?_ | (refine LW_cmp rfl (fun _ => ?_) (fun _ => ?_) <;> try (exfalso; omega))) | refine LW_pure TOK rfl ?_ | (refine LW_buildSlice TOK hs rfl rfl rfl rfl rfl rfl rfl ?_; clear hs; intro _ w hs)) | (with_reducible first | refine then_n ?_ | refine CW_seq ?_ | refine CW_region ?_ | refine CW_block ?_ | refine CW_skip ?_ | refine blk_n ?_) | refine CW_true rfl ?_))
    refine ⟨(i + 1, A3, c3), _, FR_forget _ ⟨rfl, rfl, rfl, by dsimp only; rw [hnx]; rfl, rfl, trivial⟩, ⟨by dsimp only; rw [hnx]; exact hs, hlt, fun j hj hji => ?_⟩, by dsimp only; omega⟩
    by_cases e : j = i
    · subst e; rw [hru] at hls; simpa using hls
    · exact h2 j hj (by dsimp only at hji; omega)
  · obtain ⟨e1, e2⟩ := tw_cut (q := fun p : Nm × Nat => decide (p.1 < n)) h1 h2 (fun h => by simpa using fun h3 => hgo ⟨h, h3⟩)
    rw [e1, e2] at hwi
    have hlate : ∀ (A2 : Option Addr) (c2 : Nat), (rest.take i ++ [((n, f) : Nm × Nat)]).length = i + 1 := fun _ _ => by rw [List.length_append, hlen]; rfl
    have hls : (i : Int) < rest.length → ¬ (rd rest (i : Int)).1 < n := fun h => by
      rw [rd_at (by omega)]
      exact fun h' => hgo ⟨by omega, h'⟩
    obtain ⟨front, hfront⟩ : ∃ front, rest.take i = front := ⟨_, rfl⟩
    rw [hfront] at hs hlen hwi hlate ⊢
    (repeat' (first | (refine LW_strLt (a := (rd rest (i : Int)).1) (b := n) rfl rfl rfl rfl (fun hq => absurd hq (hls (by assumption))) (fun hq => ?_)) | (refine isLW ?_; first | refine LW_nil ?_ | (refine isLg ?_; first | refine LW_take rfl ?_ | refine LW_pass rfl rfl ?_) | (refine isLload ?_; first | refine LW_loadRd (hs.rd 1 rfl) (fun _ => rfl) TOK rfl (by assumption) rfl rfl (by omega) (by omega) rfl ?_) | (refine isLcall ?_; first | (refine LW_append1 0 eE_ok (z := ((n, f) : Nm × Nat)) hs TOK rfl rfl rfl rfl rfl rfl rfl rfl rfl rfl (by unfold maxLen; omega) (by simp only []; omega) ?_; clear hs; intro A3 c3 w hs) | refine LW_pure TOK rfl ?_) | (refine isLidx ?_; first | (refine LW_indexRd (hs.rd 1 rfl) TOK rfl rfl rfl rfl rfl (by omega) (by omega) ?_; intro _ _ _)) | (refine isLbin ?_; first | (refine LW_cmp rfl (fun _ => ?_) (fun _ => ?_) <;> try (exfalso; omega))) | refine LW_pure TOK rfl ?_ | (refine LW_buildSlice TOK hs rfl rfl rfl rfl rfl rfl rfl ?_; clear hs; intro _ w hs) | refine LW_build TOK rfl rfl rfl rfl rfl rfl ?_) | (with_reducible first | refine then_n ?_ | refine CW_seq ?_ | refine CW_region ?_ | refine CW_block ?_ | refine CW_exit ?_ | refine then_e ?_ | refine blk_same ?_) | refine CW_false rfl ?_))
    all_goals
      refine CW_loop (γ := Nat × Option Addr × Nat) (fun g => [(7, .slice AR rest.length cr), (8, .slice g.2.1 ((front ++ [((n, f) : Nm × Nat)]) ++ (rest.drop i).take g.1).length g.2.2), (9, .int .i64 ((i + g.1 : Nat) : Int))]) (fun g w' => Sat W w' [RowOf eE 113 2 g.2.1 g.2.2 ((front ++ [((n, f) : Nm × Nat)]) ++ (rest.drop i).take g.1), RowOf eE 113 2 AR cr rest] ∧ i + g.1 ≤ rest.length) (fun g => rest.length - g.1) (0, A3, c3) ⟨rfl, by dsimp only; rw [List.take_zero, List.append_nil]; rfl, rfl, trivial⟩ ⟨by dsimp only; rw [List.take_zero, List.append_nil]; exact hs, by dsimp only; omega⟩ ?_
      clear hs
      rintro ⟨j, A4, c4⟩ τ w' ⟨hs, h3⟩
      try dsimp only at hs h3 ⊢
      have hlen2 : ((front ++ [((n, f) : Nm × Nat)]) ++ (rest.drop i).take j).length = i + 1 + j := by
        rw [List.length_append, hlate none 0, List.length_take, List.length_drop]; omega
      by_cases hlt : i + j < rest.length
      · have hru := rd_at hlt
        have hdl : j < (rest.drop i).length := by rw [List.length_drop]; omega
        have hnx : (rest.drop i).take (j + 1) = (rest.drop i).take j ++ [rest[i + j]] := by
          rw [List.take_succ_eq_append_getElem hdl, List.getElem_drop]
        (repeat' (first | (refine isLW ?_; first | refine LW_nil ?_ | (refine isLload ?_; first | refine LW_loadRdA (vs := eE rest[i + j]) (hs.rd 1 rfl) (fun _ => rfl) TOK rfl (by assumption) rfl rfl rfl (by omega) (by omega) (by rw [hru]) ?_) | (refine isLcall ?_; first | (refine LW_append1 0 eE_ok (z := rest[i + j]) hs TOK rfl rfl rfl rfl rfl rfl rfl rfl rfl rfl (by unfold maxLen; omega) (by simp only []; omega) ?_; clear hs; intro A5 c5 w hs) | refine LW_pure TOK rfl ?_) | (refine isLidx ?_; first | (refine LW_indexRd (hs.rd 1 rfl) TOK rfl rfl rfl rfl rfl (by omega) (by omega) ?_; intro _ _ _)) | (refine isLbin ?_; first | refine LW_i64 rfl (by omega) (by omega) ?_ | (refine LW_cmp rfl (fun _ => ?_) (fun _ => ?_) <;> try (exfalso; omega))) | refine LW_pure TOK rfl ?_ | (refine LW_buildSlice TOK hs rfl rfl rfl rfl rfl rfl rfl ?_; clear hs; intro _ w hs)) | (with_reducible first | refine then_n ?_ | refine CW_seq ?_ | refine CW_region ?_ | refine CW_block ?_ | refine CW_skip ?_ | refine blk_n ?_) | refine CW_true rfl ?_))
        all_goals exact ⟨(j + 1, A5, c5), _, FR_forget _ ⟨rfl, by dsimp only; rw [hnx, ← List.append_assoc]; rfl, by push_cast; rfl, trivial⟩, ⟨by dsimp only; rw [hnx, ← List.append_assoc]; exact hs, by dsimp only; omega⟩, by dsimp only; omega⟩
      · (repeat' (first | (refine isLW ?_; first | refine LW_nil ?_ | (refine isLcall ?_; first | refine LW_pure TOK rfl ?_) | (refine isLbin ?_; first | (refine LW_cmp rfl (fun _ => ?_) (fun _ => ?_) <;> try (exfalso; omega))) | refine LW_pure TOK rfl ?_) | (with_reducible first | refine then_n ?_ | refine CW_seq ?_ | refine CW_region ?_ | refine CW_exit ?_ | refine CW_ret ?_ | refine then_e ?_ | refine blk_same ?_) | refine CW_false rfl ?_ | refine RET1 Try.results81 rfl ?_))
        have e5 : (front ++ [((n, f) : Nm × Nat)]) ++ (rest.drop i).take j = wi l n f := by
          rw [List.take_of_length_le (by rw [List.length_drop]; omega), hwi]
          simp
        rw [e5] at hs ⊢
        exact ⟨A4, c4, rfl, hs.only 0 rfl⟩
end Go.Proofs.Ytoodgenbcfdloaa
