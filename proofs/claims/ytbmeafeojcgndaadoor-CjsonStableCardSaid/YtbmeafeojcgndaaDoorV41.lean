/- Walks of the reference: the place of a name, a name put in, an item put in. -/
import Derived.Test.YtbmeafeojcgndaaDoorV39
set_option linter.unusedVariables false
set_option linter.unusedSimpArgs false
namespace Go.Proofs.YtbmeafeojcgndaaDoor
open Go Go.Sl Go.RowKit
set_option maxRecDepth 100000
attribute [local irreducible] CW LW DW FR DP Calls Res Ret
/-- How many names are below this one. -/
def placeL (l : List (List UInt8)) (s : List UInt8) : Nat := (l.takeWhile fun x => decide (x < s)).length
def UpN (l : List (List UInt8)) : Prop := l.Pairwise fun a b => ¬ b < a
theorem placeL_eq {s : List UInt8} : ∀ {l : List (List UInt8)} {k : Nat}, UpN l → k ≤ l.length → (k = 0 ∨ ∃ x, l[k - 1]? = some x ∧ x < s) → (k = l.length ∨ ∃ x, l[k]? = some x ∧ ¬ x < s) → placeL l s = k
  | [], k, _, hk, _, _ => by simp at hk; subst hk; rfl
  | y :: l, 0, _, _, _, h => by
    rcases h with h | ⟨x, h, hx⟩
    · simp at h
    · simp at h; subst h
      simp [placeL, hx]
  | y :: l, k + 1, hu, hk, h1, h2 => by
    have hu' := List.pairwise_cons.1 hu
    have h1' := h1.resolve_left (by omega)
    obtain ⟨x, hx, hxs⟩ := h1'
    rw [Nat.add_sub_cancel] at hx
    have hys : y < s := by
      rcases k with _ | k
      · simp at hx; rw [hx]; exact hxs
      · rw [List.getElem?_cons_succ] at hx
        have := hu'.1 x (List.mem_of_getElem? hx)
        exact List.lt_of_le_of_lt (List.not_lt.1 this) hxs
    have ih := placeL_eq (l := l) (k := k) hu'.2 (by simpa using hk) (by
      rcases k with _ | k
      · exact .inl rfl
      · exact .inr ⟨x, by simpa using hx, hxs⟩) (by
      rcases h2 with h2 | ⟨z, hz, hzs⟩
      · exact .inl (by simpa using h2)
      · exact .inr ⟨z, by simpa using hz, hzs⟩)
    unfold placeL at ih ⊢
    rw [List.takeWhile_cons, if_pos (by simpa using hys), List.length_cons, ih]
theorem placeL_le (l : List (List UInt8)) (s : List UInt8) : placeL l s ≤ l.length := (List.takeWhile_sublist _).length_le
section
variable {W : World} {L : List HProp}
set_option maxHeartbeats 2000000 in
theorem place_call (w : World) (l : List (List UInt8)) (A : Option Addr) (c : Nat) (s : List UInt8) (rn : Rd eN W A l) (hu : UpN l) (hl : l.length ≤ 140737488355328) (hs : Sat W w L) :
    Calls Tryd.prog 41 [Value.slice A l.length c, sv s].toArray w (Ret fun v w' => v = .int .i64 (placeL l s : Nat) ∧ Sat W w' L) := by
  refine Calls_of Tryd.func41 rfl 27 Tryd.ntmps41 rfl ?_
  (repeat' (first | (refine isLW ?_; first | refine LW_nil ?_ | (refine isLcall ?_; first | refine LW_pure TOK rfl ?_) | refine LW_pure TOK rfl ?_) | (with_reducible first | refine then_n ?_ | refine CW_seq ?_ | refine CW_region ?_ | refine CW_block ?_)))
  refine CW_loop (γ := Nat × Nat) (fun g => [(0, .slice A l.length c), (1, sv s), (5, .int .i64 (g.1 : Int)), (6, .int .i64 (g.2 : Int))]) (fun g w' => Sat W w' L ∧ g.1 ≤ g.2 ∧ g.2 ≤ l.length ∧ (g.1 = 0 ∨ ∃ x, l[g.1 - 1]? = some x ∧ x < s) ∧ (g.2 = l.length ∨ ∃ x, l[g.2]? = some x ∧ ¬ x < s)) (fun g => g.2 - g.1) (0, l.length) ⟨rfl, rfl, rfl, rfl, trivial⟩ ⟨hs, Nat.zero_le _, Nat.le_refl _, .inl rfl, .inl rfl⟩ ?_
  clear hs
  rintro ⟨lo, hi⟩ τ w1 ⟨hs, h1, h2, h3, h4⟩
  dsimp only at hs h1 h2 h3 h4 ⊢
  by_cases hlt : lo < hi
  · obtain ⟨m, hm⟩ : ∃ m : Nat, (lo + hi) / 2 = m := ⟨_, rfl⟩
    have hm1 : lo ≤ m := by omega
    have hm2 : m < hi := by omega
    have hdiv : IntKind.i64.wrap (((lo : Int) + (hi : Int)).tdiv 2) = (m : Int) := by
      rw [Int.tdiv_eq_ediv_of_nonneg (by omega), wrap_i64 (by omega) (by omega)]; omega
    obtain ⟨x, hx⟩ : ∃ x, Go.Sl.rd l (m : Int) = x := ⟨_, rfl⟩
    have hget : l[m]? = some x := by
      have := rd_get (xs := l) (i := (m : Int)) (by omega) (by omega)
      rw [hx] at this; simpa using this
    by_cases hxs : x < s
    · (repeat' (first | refine LW_strLt (a := x) (b := s) rfl rfl rfl rfl (fun _ => ?_) (fun h => absurd hxs h) | (refine isLW ?_; first | refine LW_nil ?_ | (refine isLload ?_; first | (refine LW_loadRd0 (rn.of hs) (fun _ => rfl) TOK rfl (by assumption) rfl rfl (by omega) (by omega) (by rw [hx]; rfl) ?_)) | (refine isLidx ?_; first | (refine LW_indexRd (rn.of hs) TOK rfl rfl rfl rfl rfl (by omega) (by omega) ?_; intro _ _ _)) | (refine isLbin ?_; first | refine LW_divE (m : Int) rfl rfl (by decide) rfl hdiv ?_ | refine LW_i64 rfl (by omega) (by omega) ?_ | (refine LW_cmp rfl (fun _ => ?_) (fun _ => ?_) <;> try (exfalso; omega))) | refine LW_pure TOK rfl ?_) | (with_reducible first | refine then_n ?_ | refine CW_seq ?_ | refine CW_region ?_ | refine CW_block ?_ | refine CW_skip ?_ | refine blk_n ?_) | refine CW_true rfl ?_))
      all_goals exact ⟨((m + 1, hi) : Nat × Nat), _, FR_forget _ ⟨rfl, rfl, rfl, rfl, trivial⟩, ⟨hs, by dsimp only; omega, h2, .inr ⟨x, by dsimp only; rw [Nat.add_sub_cancel]; exact hget, hxs⟩, h4⟩, by dsimp only; omega⟩
    · (repeat' (first | refine LW_strLt (a := x) (b := s) rfl rfl rfl rfl (fun h => absurd h hxs) (fun _ => ?_) | (refine isLW ?_; first | refine LW_nil ?_ | (refine isLload ?_; first | (refine LW_loadRd0 (rn.of hs) (fun _ => rfl) TOK rfl (by assumption) rfl rfl (by omega) (by omega) (by rw [hx]; rfl) ?_)) | (refine isLidx ?_; first | (refine LW_indexRd (rn.of hs) TOK rfl rfl rfl rfl rfl (by omega) (by omega) ?_; intro _ _ _)) | (refine isLbin ?_; first | refine LW_divE (m : Int) rfl rfl (by decide) rfl hdiv ?_ | refine LW_i64 rfl (by omega) (by omega) ?_ | (refine LW_cmp rfl (fun _ => ?_) (fun _ => ?_) <;> try (exfalso; omega))) | refine LW_pure TOK rfl ?_) | (with_reducible first | refine then_n ?_ | refine CW_seq ?_ | refine CW_region ?_ | refine CW_block ?_ | refine CW_skip ?_ | refine blk_n ?_) | refine CW_true rfl ?_ | refine CW_false rfl ?_))
      all_goals exact ⟨((lo, m) : Nat × Nat), _, FR_forget _ ⟨rfl, rfl, rfl, rfl, trivial⟩, ⟨hs, hm1, by dsimp only; omega, h3, .inr ⟨x, hget, hxs⟩⟩, by dsimp only; omega⟩
  · have e : hi = lo := by omega
    subst e
    have := placeL_eq hu h2 h3 h4
    (repeat' (first | (refine isLW ?_; first | refine LW_nil ?_ | (refine isLbin ?_; first | (refine LW_cmp rfl (fun _ => ?_) (fun _ => ?_) <;> try (exfalso; omega))) | refine LW_pure TOK rfl ?_) | (with_reducible first | refine then_n ?_ | refine CW_seq ?_ | refine CW_region ?_ | refine CW_exit ?_ | refine CW_ret ?_ | refine then_e ?_ | refine blk_same ?_) | refine CW_false rfl ?_ | refine RET1 Tryd.results41 rfl ?_))
    all_goals exact ⟨by rw [this], hs⟩
theorem put_step {α : Type} (l : List α) (g x : α) (i : Nat) (h : l[i]? = some x) : (l.take (i + 1) ++ g :: l.drop (i + 1)).set (i + 1) x = l.take i ++ x :: l.drop i := by
  have hi := (List.getElem?_eq_some_iff.1 h).1
  have e1 : l.take (i + 1) = l.take i ++ [x] := by rw [List.take_add_one, h]; rfl
  have e2 : l.drop i = x :: l.drop (i + 1) := by
    rw [List.drop_eq_getElem_cons hi]; congr 1
    exact (List.getElem?_eq_some_iff.1 h).2
  have hl : (l.take (i + 1)).length = i + 1 := by rw [List.length_take]; omega
  rw [List.set_append_right _ _ (by omega), hl, Nat.sub_self, List.set_cons_zero, e1, e2]
  simp
theorem put_end {α : Type} (l : List α) (g x : α) (i : Nat) (h : i ≤ l.length) : (l.take i ++ g :: l.drop i).set i x = l.take i ++ x :: l.drop i := by
  have hl : (l.take i).length = i := by rw [List.length_take]; omega
  rw [List.set_append_right _ _ (by omega), hl, Nat.sub_self, List.set_cons_zero]
theorem put_len {α : Type} (l : List α) (g : α) (i : Nat) : (l.take i ++ g :: l.drop i).length = l.length + 1 := by
  rw [List.length_append, List.length_cons, List.length_take, List.length_drop]; omega
theorem put_rd {α : Type} [Inhabited α] (l : List α) (g x : α) (i : Nat) (h : l[i]? = some x) : Go.Sl.rd (l.take (i + 1) ++ g :: l.drop (i + 1)) (i : Int) = x := by
  have hi := (List.getElem?_eq_some_iff.1 h).1
  show (l.take (i + 1) ++ g :: l.drop (i + 1)).getD (i : Int).toNat default = x
  have e : (i : Int).toNat = i := by omega
  have hl : (l.take (i + 1)).length = i + 1 := by rw [List.length_take]; omega
  rw [e, List.getD, List.getElem?_append_left (by omega), List.getElem?_take, if_pos (by omega), h]; rfl
set_option maxHeartbeats 2000000 in
theorem addName_call (w : World) (l : List (List UInt8)) (A : Option Addr) (c k : Nat) (s : List UInt8) (hk : k ≤ l.length) (hl : l.length ≤ 1099511627776) (hs : Sat W w (RowOf eN 9 1 A c l :: L)) :
    Calls Tryd.prog 42 [Value.slice A l.length c, .int .i64 (k : Int), sv s].toArray w (Ret fun v w' => ∃ A' c', v = .slice A' (l.take k ++ s :: l.drop k).length c' ∧ Sat W w' (RowOf eN 9 1 A' c' (l.take k ++ s :: l.drop k) :: L)) := by
  refine Calls_of Tryd.func42 rfl 33 Tryd.ntmps42 rfl ?_
  rw [put_len]
  (repeat' (first | (refine isLW ?_; first | refine LW_nil ?_ | (refine isLcall ?_; first | (refine LW_append1 0 (xs := l) (z := s) eN_ok hs TOK rfl rfl rfl rfl rfl rfl rfl rfl rfl rfl (by unfold maxLen; omega) (by simp only []; omega) ?_; clear hs; intro A c w hs; rw [show (l ++ [s]).length = l.length + 1 from by simp]) | refine LW_pure TOK rfl ?_) | (refine isLbin ?_; first | refine LW_i64 rfl (by omega) (by omega) ?_) | refine LW_pure TOK rfl ?_ | (refine LW_buildSlice TOK hs rfl rfl rfl rfl rfl rfl rfl ?_; clear hs; intro _ w hs)) | (with_reducible first | refine then_n ?_ | refine CW_seq ?_ | refine CW_region ?_ | refine CW_block ?_)))
  refine CW_loop (γ := Nat × List UInt8) (fun g => [(0, .slice A (l.length + 1) c), (1, .int .i64 (k : Int)), (2, sv s), (7, .int .i64 (g.1 : Int))]) (fun g w' => Sat W w' (RowOf eN 9 1 A c (l.take g.1 ++ g.2 :: l.drop g.1) :: L) ∧ k ≤ g.1 ∧ g.1 ≤ l.length) (fun g => g.1) (l.length, s) ⟨rfl, rfl, rfl, by show some (Value.int .i64 (((l.length + 1 : Nat) : Int) - 1)) = some (Value.int .i64 (l.length : Int)); congr 2; omega, trivial⟩ ⟨by dsimp only; rw [List.take_length, List.drop_length]; exact hs, hk, Nat.le_refl _⟩ ?_
  clear hs
  rintro ⟨i, g⟩ τ w1 ⟨hs, h1, h2⟩
  dsimp only at hs h1 h2 ⊢
  have hpl := put_len l g i
  by_cases hlt : k < i
  · obtain ⟨i, rfl⟩ : ∃ i', i = i' + 1 := ⟨i - 1, by omega⟩
    have hget := List.getElem?_eq_getElem (show i < l.length by omega)
    obtain ⟨x, hx⟩ : ∃ x, l[i] = x := ⟨_, rfl⟩
    rw [hx] at hget
    have hrd := put_rd l g x i hget
    have hst := put_step l g x i hget
    obtain ⟨T, hT⟩ : ∃ T, l.take (i + 1) ++ g :: l.drop (i + 1) = T := ⟨_, rfl⟩
    rw [hT] at hs hrd hst hpl
    (repeat' (first | (refine isLW ?_; first | refine LW_nil ?_ | (refine isLload ?_; first | (refine LW_loadRd0 (hs.rd 0 rfl) (fun _ => rfl) TOK rfl (by assumption) rfl rfl (by omega) (by omega) (by rw [hrd]; rfl) ?_)) | (refine isLstore ?_; first | (refine LW_storeRow 0 eN_ok (z := x) hs TOK rfl (by assumption) rfl rfl rfl rfl rfl (by omega) (by omega) ?_; clear hs; intro w hs)) | (refine isLidx ?_; first | (refine LW_indexRdN (hs.rd 0 rfl) (i := (i : Int)) TOK rfl (by show some (Value.int .i64 (((i + 1 : Nat) : Int) - 1)) = _; congr 2; omega) rfl rfl rfl (by omega) (by omega) (by omega) ?_; intro _ _ _) | (refine LW_indexRdN (hs.rd 0 rfl) TOK rfl rfl rfl rfl rfl (by omega) (by omega) (by omega) ?_; intro _ _ _)) | (refine isLbin ?_; first | refine LW_i64 rfl (by omega) (by omega) ?_ | (refine LW_cmp rfl (fun _ => ?_) (fun _ => ?_) <;> try (exfalso; omega))) | refine LW_pure TOK rfl ?_) | (with_reducible first | refine then_n ?_ | refine CW_seq ?_ | refine CW_region ?_ | refine CW_block ?_ | refine CW_skip ?_ | refine blk_n ?_) | refine CW_true rfl ?_))
    all_goals
      rw [show ((i + 1 : Nat) : Int).toNat = i + 1 from by omega, hst] at hs
      exact ⟨((i, x) : Nat × List UInt8), _, FR_forget _ ⟨rfl, rfl, rfl, by show some (Value.int .i64 (((i + 1 : Nat) : Int) - 1)) = some (Value.int .i64 (i : Int)); congr 2; omega, trivial⟩, ⟨hs, by dsimp only; omega, by dsimp only; omega⟩, by dsimp only; omega⟩
  · have e : i = k := by omega
    subst e
    have hst := put_end l g s i h2
    obtain ⟨T, hT⟩ : ∃ T, l.take i ++ g :: l.drop i = T := ⟨_, rfl⟩
    rw [hT] at hs hst hpl
    (repeat' (first | (refine isLW ?_; first | refine LW_nil ?_ | (refine isLstore ?_; first | (refine LW_storeRow 0 eN_ok (z := s) hs TOK rfl (by assumption) rfl rfl rfl rfl rfl (by omega) (by omega) ?_; clear hs; intro w hs)) | (refine isLidx ?_; first | (refine LW_indexRdN (hs.rd 0 rfl) TOK rfl rfl rfl rfl rfl (by omega) (by omega) (by omega) ?_; intro _ _ _)) | (refine isLbin ?_; first | (refine LW_cmp rfl (fun _ => ?_) (fun _ => ?_) <;> try (exfalso; omega))) | refine LW_pure TOK rfl ?_) | (with_reducible first | refine then_n ?_ | refine CW_seq ?_ | refine CW_region ?_ | refine CW_exit ?_ | refine CW_ret ?_ | refine then_e ?_ | refine blk_same ?_) | refine CW_false rfl ?_ | refine RET1 Tryd.results42 rfl ?_))
    all_goals
      rw [show ((i : Nat) : Int).toNat = i from by omega, hst] at hs
      refine ⟨A, c, rfl, ?_⟩
      exact hs
end
end Go.Proofs.YtbmeafeojcgndaaDoor

/- Walks of the reference: an item put in. -/
set_option linter.unusedVariables false
set_option linter.unusedSimpArgs false
namespace Go.Proofs.YtbmeafeojcgndaaDoor
open Go Go.Sl Go.RowKit
set_option maxRecDepth 100000
attribute [local irreducible] CW LW DW FR DP Calls Res Ret
section
variable {W : World} {L : List HProp}
set_option maxHeartbeats 2000000 in
theorem addItem_call (w : World) (l : List RV) (A : Option Addr) (c k : Nat) (s : RV) (hk : k ≤ l.length) (hl : l.length ≤ 1099511627776) (hs : Sat W w (RowOf eV 31 5 A c l :: L)) :
    Calls Tryd.prog 43 [Value.slice A l.length c, .int .i64 (k : Int), .agg (eV s).toArray].toArray w (Ret fun v w' => ∃ A' c', v = .slice A' (l.take k ++ s :: l.drop k).length c' ∧ Sat W w' (RowOf eV 31 5 A' c' (l.take k ++ s :: l.drop k) :: L)) := by
  refine Calls_of Tryd.func43 rfl 33 Tryd.ntmps43 rfl ?_
  rw [put_len]
  obtain ⟨kk, ii, tt, NA0, nc0, ns0, IA0, ic0, xs0⟩ := s
  (repeat' (first | (refine isLW ?_; first | refine LW_nil ?_ | (refine isLload ?_; first | refine LW_loadCAE 0 [.int .i64 kk, .int .i64 ii, sv tt, .slice NA0 ns0.length nc0, .slice IA0 xs0.length ic0] TOK hs rfl rfl rfl rfl (Nat.le_of_ble_eq_true rfl) rfl ?_) | (refine isLcall ?_; first | (refine LW_append1 1 (xs := l) (z := .mk kk ii tt NA0 nc0 ns0 IA0 ic0 xs0) eV_ok hs TOK rfl rfl rfl rfl rfl rfl rfl rfl rfl rfl (by unfold maxLen; omega) (by simp only []; omega) ?_; clear hs; intro A c w hs; rw [show (l ++ [RV.mk kk ii tt NA0 nc0 ns0 IA0 ic0 xs0]).length = l.length + 1 from by simp]) | refine LW_pure TOK rfl ?_) | (refine isLbin ?_; first | refine LW_i64 rfl (by omega) (by omega) ?_) | refine LW_pure TOK rfl ?_ | (refine LW_box hs rfl rfl ?_; clear hs; intro _ w hs) | (refine LW_buildSlice TOK hs rfl rfl rfl rfl rfl rfl rfl ?_; clear hs; intro _ w hs)) | (with_reducible first | refine then_n ?_ | refine CW_seq ?_ | refine CW_region ?_ | refine CW_block ?_)))
  rename_i b5 _ _ _
  refine CW_loop (γ := Nat × RV) (fun g => [(0, .slice A (l.length + 1) c), (1, .int .i64 (k : Int)), (5, .pointer (some ⟨b5, 0, none⟩)), (7, .int .i64 (g.1 : Int))]) (fun g w' => Sat W w' (Cl b5 [.int .i64 kk, .int .i64 ii, sv tt, .slice NA0 ns0.length nc0, .slice IA0 xs0.length ic0] 31 :: RowOf eV 31 5 A c (l.take g.1 ++ g.2 :: l.drop g.1) :: L) ∧ k ≤ g.1 ∧ g.1 ≤ l.length) (fun g => g.1) (l.length, .mk kk ii tt NA0 nc0 ns0 IA0 ic0 xs0) ⟨rfl, rfl, rfl, by show some (Value.int .i64 (((l.length + 1 : Nat) : Int) - 1)) = some (Value.int .i64 (l.length : Int)); congr 2; omega, trivial⟩ ⟨by dsimp only; rw [List.take_length, List.drop_length]; exact hs, hk, Nat.le_refl _⟩ ?_
  clear hs
  rintro ⟨i, g⟩ τ w1 ⟨hs, h1, h2⟩
  dsimp only at hs h1 h2 ⊢
  have hpl := put_len l g i
  by_cases hlt : k < i
  · obtain ⟨i, rfl⟩ : ∃ i', i = i' + 1 := ⟨i - 1, by omega⟩
    have hget := List.getElem?_eq_getElem (show i < l.length by omega)
    obtain ⟨x, hx⟩ : ∃ x, l[i] = x := ⟨_, rfl⟩
    rw [hx] at hget
    have hrd := put_rd l g x i hget
    have hst := put_step l g x i hget
    obtain ⟨T, hT⟩ : ∃ T, l.take (i + 1) ++ g :: l.drop (i + 1) = T := ⟨_, rfl⟩
    rw [hT] at hs hrd hst hpl
    clear hx hget
    cases x with
    | mk k1 i1 t1 NA1 nc1 ns1 IA1 ic1 xs1 =>
    (repeat' (first | (refine isLW ?_; first | refine LW_nil ?_ | (refine isLload ?_; first | (refine LW_loadRdA (hs.rd 1 rfl) eV_ok.1 TOK rfl (by assumption) rfl rfl rfl (by omega) (by omega) (by rw [hrd]) ?_)) | (refine isLstore ?_; first | (refine LW_storeRow 1 eV_ok (z := .mk k1 i1 t1 NA1 nc1 ns1 IA1 ic1 xs1) hs TOK rfl (by assumption) rfl rfl rfl rfl rfl (by omega) (by omega) ?_; clear hs; intro w hs)) | (refine isLidx ?_; first | (refine LW_indexRdN (hs.rd 1 rfl) (i := (i : Int)) TOK rfl (by show some (Value.int .i64 (((i + 1 : Nat) : Int) - 1)) = _; congr 2; omega) rfl rfl rfl (by omega) (by omega) (by omega) ?_; intro _ _ _) | (refine LW_indexRdN (hs.rd 1 rfl) TOK rfl rfl rfl rfl rfl (by omega) (by omega) (by omega) ?_; intro _ _ _)) | (refine isLbin ?_; first | refine LW_i64 rfl (by omega) (by omega) ?_ | (refine LW_cmp rfl (fun _ => ?_) (fun _ => ?_) <;> try (exfalso; omega))) | refine LW_pure TOK rfl ?_) | (with_reducible first | refine then_n ?_ | refine CW_seq ?_ | refine CW_region ?_ | refine CW_block ?_ | refine CW_skip ?_ | refine blk_n ?_) | refine CW_true rfl ?_))
    all_goals
      rw [show ((i + 1 : Nat) : Int).toNat = i + 1 from by omega, hst] at hs
      exact ⟨((i, .mk k1 i1 t1 NA1 nc1 ns1 IA1 ic1 xs1) : Nat × RV), _, FR_forget _ ⟨rfl, rfl, rfl, by show some (Value.int .i64 (((i + 1 : Nat) : Int) - 1)) = some (Value.int .i64 (i : Int)); congr 2; omega, trivial⟩, ⟨hs, by dsimp only; omega, by dsimp only; omega⟩, by dsimp only; omega⟩
  · have e : i = k := by omega
    subst e
    have hst := put_end l g (.mk kk ii tt NA0 nc0 ns0 IA0 ic0 xs0) i h2
    obtain ⟨T, hT⟩ : ∃ T, l.take i ++ g :: l.drop i = T := ⟨_, rfl⟩
    rw [hT] at hs hst hpl
    (repeat' (first | (refine isLW ?_; first | refine LW_nil ?_ | (refine isLload ?_; first | refine LW_loadCAE 0 [.int .i64 kk, .int .i64 ii, sv tt, .slice NA0 ns0.length nc0, .slice IA0 xs0.length ic0] TOK hs rfl rfl rfl rfl (Nat.le_of_ble_eq_true rfl) rfl ?_) | (refine isLstore ?_; first | (refine LW_storeRow 1 eV_ok (z := .mk kk ii tt NA0 nc0 ns0 IA0 ic0 xs0) hs TOK rfl (by assumption) rfl rfl rfl rfl rfl (by omega) (by omega) ?_; clear hs; intro w hs)) | (refine isLidx ?_; first | (refine LW_indexRdN (hs.rd 1 rfl) TOK rfl rfl rfl rfl rfl (by omega) (by omega) (by omega) ?_; intro _ _ _)) | (refine isLbin ?_; first | (refine LW_cmp rfl (fun _ => ?_) (fun _ => ?_) <;> try (exfalso; omega))) | refine LW_pure TOK rfl ?_) | (with_reducible first | refine then_n ?_ | refine CW_seq ?_ | refine CW_region ?_ | refine CW_exit ?_ | refine CW_ret ?_ | refine then_e ?_ | refine blk_same ?_) | refine CW_false rfl ?_ | refine RET1 Tryd.results43 rfl ?_))
    all_goals
      rw [show ((i : Nat) : Int).toNat = i from by omega, hst] at hs
      refine ⟨A, c, rfl, ?_⟩
      exact hs.drop1
end
end Go.Proofs.YtbmeafeojcgndaaDoor
