/- Walks: names and numbers; ManifestNames. -/
import Derived.Test.YthhklkpkhaibcaaDoorN2
set_option linter.unusedVariables false
set_option linter.unusedSimpArgs false
namespace Go.Proofs.YthhklkpkhaibcaaDoor
open Go Go.Sl Go.RowKit
set_option maxRecDepth 100000
attribute [local irreducible] CW LW DW FR DP Calls

theorem rd_at {α : Type} [Inhabited α] {xs : List α} {i : Nat} (h : i < xs.length) : rd xs (i : Int) = xs[i] := by simp [rd, h]
theorem itoa_len {n : Int} (h1 : 1 ≤ n) (h2 : n ≤ big) : (Go.Lib.itoa n).length ≤ 13 := by
  rw [itoa_pos (by omega)]
  exact dec_len 12 n.toNat (by unfold big at h2; omega)
theorem Name_call (W w : World) (L : List HProp) (n : Int) (hn : -9223372036854775808 ≤ n ∧ n ≤ 9223372036854775807) (ht : Tab W) (hs : Sat W w L) :
    Calls Tryd.prog 8 [Value.int .i64 n].toArray w (Ret fun v w' => v = sv (nameM n) ∧ Sat W w' L) := by
  refine Calls_of Tryd.func8 rfl 12 Tryd.ntmps8 rfl ?_
  by_cases hr : n < 1 ∨ big < n
  · have e := nameM_out hr
    unfold big at hr
    rw [e]
    (repeat' (first | (refine isLW ?_; first | refine LW_nil ?_ | (refine isLg ?_; first | refine LW_take rfl ?_ | refine LW_pass rfl rfl ?_) | (refine isLbin ?_; first | (refine LW_cmp rfl (fun _ => ?_) (fun _ => ?_) <;> try (exfalso; omega))) | refine LW_pure TOK rfl ?_) | (with_reducible first | refine then_n ?_ | refine CW_seq ?_ | refine CW_region ?_ | refine CW_ret ?_ | refine then_r ?_) | refine CW_true rfl ?_ | refine RET1 Tryd.results8 rfl ?_))
    all_goals exact ⟨rfl, hs⟩
  · have e : nameM n = 115 :: Go.Lib.itoa n := by unfold nameM; rw [if_neg hr]
    have hil := itoa_len (n := n) (by omega) (by omega)
    unfold big at hr
    rw [e]
    (repeat' (first | (refine isLW ?_; first | refine LW_nil ?_ | (refine isLg ?_; first | refine LW_take rfl ?_) | (refine isLcall ?_; first | (refine LW_call (cap := []) rfl rfl ent25 (Itoa_call W _ _ n hn.1 hn.2 ht hs) ?_; clear hs; rintro _ w ⟨rfl, hs⟩)) | (refine isLbin ?_; first | (refine LW_cmp rfl (fun _ => ?_) (fun _ => ?_) <;> try (exfalso; omega))) | (refine LW_svCat (a := [115]) (b := Go.Lib.itoa n) rfl rfl rfl rfl (by simp; omega) ?_) | refine LW_pure TOK rfl ?_) | (with_reducible first | refine then_n ?_ | refine CW_seq ?_ | refine CW_region ?_ | refine CW_skip ?_ | refine CW_ret ?_) | refine CW_false rfl ?_ | refine RET1 Tryd.results8 rfl ?_))
    exact ⟨rfl, hs⟩
theorem front_lt {k : Nat} (h : k ≤ 1099511627776) : (front k).length ≤ 13 := by
  unfold front
  split
  · simp
  · exact dec_len 12 k (by omega)
theorem refName_call (W w : World) (L : List HProp) (n : Int) (hn : -9223372036854775808 ≤ n ∧ n ≤ 9223372036854775807) (hs : Sat W w L) :
    Calls Tryd.prog 9 [Value.int .i64 n].toArray w (Ret fun v w' => v = sv (nameM n) ∧ Sat W w' L) := by
  refine Calls_of Tryd.func9 rfl 24 Tryd.ntmps9 rfl ?_
  by_cases hr : n < 1 ∨ big < n
  · have e := nameM_out hr
    unfold big at hr
    rw [e]
    (repeat' (first | (refine isLW ?_; first | refine LW_nil ?_ | (refine isLg ?_; first | refine LW_take rfl ?_ | refine LW_pass rfl rfl ?_) | (refine isLbin ?_; first | (refine LW_cmp rfl (fun _ => ?_) (fun _ => ?_) <;> try (exfalso; omega))) | refine LW_pure TOK rfl ?_) | (with_reducible first | refine then_n ?_ | refine CW_seq ?_ | refine CW_region ?_ | refine CW_ret ?_ | refine then_r ?_) | refine CW_true rfl ?_ | refine RET1 Tryd.results9 rfl ?_))
    all_goals exact ⟨rfl, hs⟩
  · have e := nameM_in (n := n) (by omega) (by omega)
    unfold big at hr
    rw [e]
    have hfl : (Go.Lib.decDigits n.toNat).length ≤ 13 := dec_len 12 n.toNat (by omega)
    (repeat' (first | (refine isLW ?_; first | refine LW_nil ?_ | (refine isLg ?_; first | refine LW_take rfl ?_) | (refine isLbin ?_; first | (refine LW_cmp rfl (fun _ => ?_) (fun _ => ?_) <;> try (exfalso; omega))) | refine LW_pure TOK rfl ?_) | (with_reducible first | refine then_n ?_ | refine CW_seq ?_ | refine CW_region ?_ | refine CW_block ?_ | refine CW_skip ?_) | refine CW_false rfl ?_))
    refine CW_loop (γ := Nat × Tx) (fun g => [(0, .int .i64 (g.1 : Int)), (3, sv g.2)]) (fun g w' => Sat W w' L ∧ front g.1 ++ g.2 = Go.Lib.decDigits n.toNat ∧ (g.1 : Int) ≤ n) (fun g => g.1) (n.toNat, []) ⟨by show some (Value.int .i64 _) = some (Value.int .i64 _); congr 2; omega, rfl, trivial⟩ ⟨hs, by unfold front; dsimp only; rw [if_neg (by omega), List.append_nil], by dsimp only; omega⟩ ?_
    clear hs
    rintro ⟨k, t⟩ τ w ⟨hs, h1, h2⟩
    dsimp only at hs h1 h2 ⊢
    have htl : t.length ≤ 13 := by have := congrArg List.length h1; rw [List.length_append] at this; omega
    by_cases hk : 0 < k
    · have hst := front_step hk
      have hrem : (k : Int).tmod 10 = ((k % 10 : Nat) : Int) := by rw [Int.tmod_eq_emod_of_nonneg (by omega)]; omega
      have hquo : IntKind.i64.wrap ((k : Int).tdiv 10) = ((k / 10 : Nat) : Int) := by
        rw [Int.tdiv_eq_ediv_of_nonneg (by omega)]
        have e : (k : Int) / 10 = ((k / 10 : Nat) : Int) := by omega
        rw [e]; exact IntWalk.i64_in _ (by omega)
      have hcv : IntKind.u8.wrap (48 + ((k % 10 : Nat) : Int)) = ((48 + k % 10 : Nat) : Int) := by
        simp [IntKind.wrap, IntKind.bits, IntKind.signed]; omega
      have hby : (bytesOf [((48 + k % 10 : Nat) : Int)]).data.toList = [UInt8.ofNat (48 + k % 10)] := by
        show [UInt8.ofNat ((48 + k % 10 : Nat) : Int).toNat] = _
        rw [Int.toNat_natCast]
      (repeat' (first | (refine isLW ?_; first | refine LW_nil ?_ | (refine isLbin ?_; first | refine LW_divE _ rfl rfl (by decide) rfl hrem ?_ | refine LW_divE _ rfl rfl (by decide) rfl hquo ?_ | refine LW_i64 rfl (by omega) (by omega) ?_ | (refine LW_cmp rfl (fun _ => ?_) (fun _ => ?_) <;> try (exfalso; omega))) | refine LW_convE _ TOK rfl rfl rfl rfl hcv ?_ | refine LW_bytesStr 0 (ns := [((48 + k % 10 : Nat) : Int)]) TOK hs rfl rfl rfl rfl rfl rfl rfl rfl rfl ?_ | (refine LW_svCat (a := [UInt8.ofNat (48 + k % 10)]) (b := t) rfl rfl hby rfl (by simp; omega) ?_) | refine LW_pure TOK rfl ?_ | (refine LW_buildSlice TOK hs rfl rfl rfl rfl rfl rfl rfl ?_; clear hs; intro _ w hs)) | (with_reducible first | refine then_n ?_ | refine CW_seq ?_ | refine CW_region ?_ | refine CW_block ?_ | refine CW_skip ?_ | refine blk_n ?_) | refine CW_true rfl ?_))
      refine ⟨(k / 10, [UInt8.ofNat (48 + k % 10)] ++ t), _, FR_forget _ ⟨rfl, rfl, trivial⟩, ⟨hs.drop1, ?_, by dsimp only; omega⟩, by dsimp only; omega⟩
      dsimp only
      rw [← List.append_assoc, ← hst]
      exact h1
    · have : k = 0 := by omega
      subst this
      have h3 : t = Go.Lib.decDigits n.toNat := h1
      (repeat' (first | (refine isLW ?_; first | refine LW_nil ?_ | (refine isLbin ?_; first | (refine LW_cmp rfl (fun _ => ?_) (fun _ => ?_) <;> try (exfalso; omega))) | (refine LW_svCat (a := [115]) (b := t) rfl rfl rfl rfl (by simp; omega) ?_) | refine LW_pure TOK rfl ?_) | (with_reducible first | refine then_n ?_ | refine CW_seq ?_ | refine CW_region ?_ | refine CW_exit ?_ | refine CW_ret ?_ | refine then_e ?_ | refine blk_same ?_) | refine CW_false rfl ?_ | refine RET1 Tryd.results9 rfl ?_))
      rw [h3]
      exact ⟨rfl, hs⟩
set_option maxHeartbeats 1000000 in
theorem Num_call (W w : World) (L : List HProp) (s : Tx) (hl : s.length ≤ 4611686018427387904) (ht : Tab W) (hs : Sat W w L) :
    Calls Tryd.prog 6 [sv s].toArray w (Ret fun v w' => v = .tuple #[.int .i64 (numG s).1, .bool (numG s).2] ∧ Sat W w' L) := by
  refine Calls_of Tryd.func6 rfl 43 Tryd.ntmps6 rfl ?_
  by_cases hb : s.length < 2 ∨ 14 < s.length
  · rw [len_bad hb]
    (repeat' (first | refine LW_lenN (a := s) TOK rfl rfl rfl rfl rfl ?_ | (refine isLW ?_; first | refine LW_nil ?_ | (refine isLg ?_; first | refine LW_take rfl ?_ | refine LW_pass rfl rfl ?_) | (refine isLbin ?_; first | (refine LW_cmp rfl (fun _ => ?_) (fun _ => ?_) <;> try (exfalso; omega))) | refine LW_pure TOK rfl ?_) | (with_reducible first | refine then_n ?_ | refine CW_seq ?_ | refine CW_region ?_ | refine CW_ret ?_ | refine then_r ?_) | refine CW_true rfl ?_ | refine RET2 Tryd.results6 rfl rfl ?_))
    all_goals exact ⟨rfl, hs⟩
  (repeat' (first | refine LW_lenN (a := s) TOK rfl rfl rfl rfl rfl ?_ | (refine isLW ?_; first | refine LW_nil ?_ | (refine isLg ?_; first | refine LW_take rfl ?_) | (refine isLbin ?_; first | (refine LW_cmp rfl (fun _ => ?_) (fun _ => ?_) <;> try (exfalso; omega))) | refine LW_pure TOK rfl ?_) | (with_reducible first | refine then_n ?_ | refine CW_seq ?_ | refine CW_region ?_ | refine CW_block ?_ | refine CW_skip ?_) | refine CW_false rfl ?_))
  refine CW_loop (γ := Nat) (fun g => [(0, sv s), (4, .int .i64 (valTo s g)), (5, .int .i64 ((g : Int) + 1))]) (fun g w' => Sat W w' L ∧ g + 1 ≤ s.length ∧ ∀ j (h : j + 1 < s.length), j < g → 48 ≤ (s[j + 1]).toNat ∧ (s[j + 1]).toNat ≤ 57) (fun g => s.length - g) 0 ⟨rfl, rfl, rfl, trivial⟩ ⟨hs, by omega, fun j _ h => absurd h (Nat.not_lt_zero _)⟩ ?_
  clear hs
  rintro i τ w ⟨hs, h1, h2⟩
  try dsimp only at h1 h2 ⊢
  obtain ⟨v0, v1⟩ := valTo_small h2 h1
  have v2 := pow13 (i := i) (by omega)
  by_cases hlt : i + 1 < s.length
  · have hrd : rd s ((i : Int) + 1) = s[i + 1] := by
      have := rd_at hlt
      rw [← this]; rfl
    have hnx := valTo_next hlt
    have hd : (rd s ((i : Int) + 1)).toNat < 256 := (rd s ((i : Int) + 1)).toNat_lt
    by_cases hc : (s[i + 1]).toNat < 48 ∨ 57 < (s[i + 1]).toNat
    · rw [digit_bad hlt hc]
      rw [← hrd] at hc
      (repeat' (first | refine LW_lenN (a := s) TOK rfl rfl rfl rfl rfl ?_ | (refine isLW ?_; first | refine LW_nil ?_ | (refine isLg ?_; first | refine LW_take rfl ?_ | refine LW_pass rfl rfl ?_) | (refine isLbin ?_; first | (refine LW_cmp rfl (fun _ => ?_) (fun _ => ?_) <;> try (exfalso; omega))) | refine LW_strIdx (a := s) TOK rfl rfl rfl rfl rfl (by omega) (by omega) ?_ | refine LW_pure TOK rfl ?_) | (with_reducible first | refine then_n ?_ | refine CW_seq ?_ | refine CW_region ?_ | refine CW_block ?_ | refine CW_skip ?_ | refine CW_ret ?_ | refine then_r ?_ | refine blk_r ?_) | refine CW_true rfl ?_ | refine RET2 Tryd.results6 rfl rfl ?_))
      all_goals exact ⟨rfl, hs⟩
    · have hc' := hc
      rw [← hrd] at hc hnx
      unfold dig at hnx
      have hsub : IntKind.u8.wrap (((rd s ((i : Int) + 1)).toNat : Int) - 48) = ((rd s ((i : Int) + 1)).toNat : Int) - 48 := by
        simp [IntKind.wrap, IntKind.bits, IntKind.signed]; omega
      have hcv : IntKind.i64.wrap (((rd s ((i : Int) + 1)).toNat : Int) - 48) = ((rd s ((i : Int) + 1)).toNat : Int) - 48 := IntWalk.i64_in _ (by omega)
      (repeat' (first | refine LW_lenN (a := s) TOK rfl rfl rfl rfl rfl ?_ | (refine isLW ?_; first | refine LW_nil ?_ | (refine isLg ?_; first | refine LW_take rfl ?_) | (refine isLbin ?_; first | refine LW_arithE _ rfl hsub ?_ | refine LW_i64 rfl (by omega) (by omega) ?_ | (refine LW_cmp rfl (fun _ => ?_) (fun _ => ?_) <;> try (exfalso; omega))) | refine LW_strIdx (a := s) TOK rfl rfl rfl rfl rfl (by omega) (by omega) ?_ | refine LW_convE _ TOK rfl rfl rfl rfl hcv ?_ | refine LW_pure TOK rfl ?_) | (with_reducible first | refine then_n ?_ | refine CW_seq ?_ | refine CW_region ?_ | refine CW_block ?_ | refine CW_skip ?_ | refine blk_n ?_) | refine CW_true rfl ?_ | refine CW_false rfl ?_))
      refine ⟨i + 1, _, FR_forget _ ⟨rfl, ?_, by push_cast; rfl, trivial⟩, ⟨hs, by omega, fun j hj hji => ?_⟩, by omega⟩
      · rw [hnx]; show some (Value.int .i64 _) = some (Value.int .i64 _); congr 2; omega
      · by_cases e : j = i
        · subst e; omega
        · exact h2 j hj (by omega)
  · have hv := valTo_all (s := s) (i := i) (by omega)
    have hsn : s ≠ [] := by rintro rfl; simp at h1
    rw [num_end hsn, ← hv]
    by_cases hnm : nameM (valTo s i) = s
    · rw [if_pos hnm]
      (repeat' (first | refine LW_lenN (a := s) TOK rfl rfl rfl rfl rfl ?_ | (refine LW_strNe (a := nameM (valTo s i)) (b := s) rfl rfl rfl rfl (fun hq => ?_) (fun hq => ?_)) | (refine isLW ?_; first | refine LW_nil ?_ | (refine isLcall ?_; first | (refine LW_call (cap := []) rfl rfl ent8 (Name_call W _ _ _ (by omega) ht hs) ?_; clear hs; rintro _ w ⟨rfl, hs⟩)) | (refine isLbin ?_; first | (refine LW_cmp rfl (fun _ => ?_) (fun _ => ?_) <;> try (exfalso; omega))) | refine LW_pure TOK rfl ?_) | (with_reducible first | refine then_n ?_ | refine CW_seq ?_ | refine CW_region ?_ | refine CW_skip ?_ | refine CW_exit ?_ | refine CW_ret ?_ | refine then_e ?_ | refine then_r ?_ | refine blk_same ?_) | refine CW_true rfl ?_ | refine CW_false rfl ?_ | refine RET2 Tryd.results6 rfl rfl ?_))
      · exact absurd hnm hq
      · exact ⟨rfl, hs⟩
    · rw [if_neg hnm]
      (repeat' (first | refine LW_lenN (a := s) TOK rfl rfl rfl rfl rfl ?_ | (refine LW_strNe (a := nameM (valTo s i)) (b := s) rfl rfl rfl rfl (fun hq => ?_) (fun hq => ?_)) | (refine isLW ?_; first | refine LW_nil ?_ | (refine isLcall ?_; first | (refine LW_call (cap := []) rfl rfl ent8 (Name_call W _ _ _ (by omega) ht hs) ?_; clear hs; rintro _ w ⟨rfl, hs⟩)) | (refine isLbin ?_; first | (refine LW_cmp rfl (fun _ => ?_) (fun _ => ?_) <;> try (exfalso; omega))) | refine LW_pure TOK rfl ?_) | (with_reducible first | refine then_n ?_ | refine CW_seq ?_ | refine CW_region ?_ | refine CW_skip ?_ | refine CW_exit ?_ | refine CW_ret ?_ | refine then_e ?_ | refine then_r ?_ | refine blk_same ?_) | refine CW_true rfl ?_ | refine CW_false rfl ?_ | refine RET2 Tryd.results6 rfl rfl ?_))
      · exact ⟨rfl, hs⟩
      · exact absurd hq hnm
set_option maxHeartbeats 1000000 in
theorem refNum_call (W w : World) (L : List HProp) (s : Tx) (hl : s.length ≤ 4611686018427387904) (hs : Sat W w L) :
    Calls Tryd.prog 7 [sv s].toArray w (Ret fun v w' => v = .tuple #[.int .i64 (numG s).1, .bool (numG s).2] ∧ Sat W w' L) := by
  refine Calls_of Tryd.func7 rfl 39 Tryd.ntmps7 rfl ?_
  have h8 : ∀ g : Nat, g ≤ 19 → g ≤ 19 := fun _ h => h
  (repeat' (first | (refine isLW ?_; first | refine LW_nil ?_ | refine LW_pure TOK rfl ?_) | (with_reducible first | refine then_n ?_ | refine CW_seq ?_ | refine CW_region ?_ | refine CW_block ?_)))
  refine CW_loop (γ := Nat) (fun g => [(0, sv s), (4, .int .i64 (valTo s g)), (5, .int .i64 ((g : Int) + 1))]) (fun g w' => Sat W w' L ∧ g ≤ 19 ∧ g ≤ s.length ∧ 0 ≤ valTo s g ∧ valTo s g ≤ big) (fun g => s.length - g) 0 ⟨rfl, rfl, rfl, trivial⟩ ⟨hs, by omega, by omega, Int.le_refl _, by show (0 : Int) ≤ 1099511627776; decide⟩ ?_
  clear hs
  rintro i τ w ⟨hs, h1, h2, h3, h4⟩
  try dsimp only at h1 h2 h3 h4 ⊢
  by_cases hlt : i + 1 < s.length ∧ i + 1 < 20
  · obtain ⟨hlt, hlt2⟩ := hlt
    have hrd : rd s ((i : Int) + 1) = s[i + 1] := by
      have := rd_at hlt
      rw [← this]; rfl
    have hnx := valTo_next hlt
    have hbad := fun h => valTo_bad (s := s) (i := i + 1) h
    rw [← hrd] at hnx
    unfold dig at hnx
    have hd : (rd s ((i : Int) + 1)).toNat < 256 := (rd s ((i : Int) + 1)).toNat_lt
    have hcv : IntKind.i64.wrap ((rd s ((i : Int) + 1)).toNat : Int) = ((rd s ((i : Int) + 1)).toNat : Int) := IntWalk.i64_in _ (by omega)
    unfold big at h4 hbad
    by_cases hb : valTo s (i + 1) < 0 ∨ 1099511627776 < valTo s (i + 1)
    · rw [hbad hb]
      (repeat' (first | refine LW_lenN (a := s) TOK rfl rfl rfl rfl rfl ?_ | (refine isLW ?_; first | refine LW_nil ?_ | (refine isLg ?_; first | refine LW_take rfl ?_ | refine LW_pass rfl rfl ?_) | (refine isLbin ?_; first | refine LW_i64 rfl (by omega) (by omega) ?_ | (refine LW_cmp rfl (fun _ => ?_) (fun _ => ?_) <;> try (exfalso; omega))) | refine LW_strIdx (a := s) TOK rfl rfl rfl rfl rfl (by omega) (by omega) ?_ | refine LW_convE _ TOK rfl rfl rfl rfl hcv ?_ | refine LW_pure TOK rfl ?_) | (with_reducible first | refine then_n ?_ | refine CW_seq ?_ | refine CW_region ?_ | refine CW_block ?_ | refine CW_skip ?_ | refine CW_ret ?_ | refine then_r ?_ | refine blk_r ?_) | refine CW_true rfl ?_ | refine RET2 Tryd.results7 rfl rfl ?_))
      all_goals exact ⟨rfl, hs⟩
    · (repeat' (first | refine LW_lenN (a := s) TOK rfl rfl rfl rfl rfl ?_ | (refine isLW ?_; first | refine LW_nil ?_ | (refine isLg ?_; first | refine LW_take rfl ?_) | (refine isLbin ?_; first | refine LW_i64 rfl (by omega) (by omega) ?_ | (refine LW_cmp rfl (fun _ => ?_) (fun _ => ?_) <;> try (exfalso; omega))) | refine LW_strIdx (a := s) TOK rfl rfl rfl rfl rfl (by omega) (by omega) ?_ | refine LW_convE _ TOK rfl rfl rfl rfl hcv ?_ | refine LW_pure TOK rfl ?_) | (with_reducible first | refine then_n ?_ | refine CW_seq ?_ | refine CW_region ?_ | refine CW_block ?_ | refine CW_skip ?_ | refine blk_n ?_) | refine CW_true rfl ?_ | refine CW_false rfl ?_))
      exact ⟨i + 1, _, FR_forget _ ⟨rfl, by rw [hnx]; rfl, by push_cast; rfl, trivial⟩, ⟨hs, by omega, by omega, by omega, by unfold big; omega⟩, by omega⟩
  · unfold big at h4
    by_cases hlen : s.length ≤ 20
    · have hv := valTo_all (s := s) (i := i) (by omega)
      by_cases hsn : s = []
      · subst hsn
        rw [num_nil]
        have hv0 : valTo [] i = 0 := by unfold valTo; simp; rfl
        rw [hv0]
        (repeat' (first | refine LW_lenN (a := ([] : Tx)) TOK rfl rfl rfl rfl rfl ?_ | (refine isLW ?_; first | refine LW_nil ?_ | (refine isLg ?_; first | refine LW_pass rfl rfl ?_) | (refine isLbin ?_; first | (refine LW_cmp rfl (fun _ => ?_) (fun _ => ?_) <;> try (exfalso; omega))) | refine LW_pure TOK rfl ?_) | (with_reducible first | refine then_n ?_ | refine CW_seq ?_ | refine CW_region ?_ | refine CW_exit ?_ | refine CW_ret ?_ | refine then_e ?_ | refine then_r ?_ | refine blk_same ?_) | refine CW_true rfl ?_ | refine CW_false rfl ?_ | refine RET2 Tryd.results7 rfl rfl ?_))
        all_goals first | exact ⟨rfl, hs⟩ | trace "y"
      · rw [num_end hsn, ← hv]
        by_cases hnm : nameM (valTo s i) = s
        · have h1n : 1 ≤ valTo s i := (name_is hnm hsn).1
          rw [if_pos hnm]
          (repeat' (first | refine LW_lenN (a := s) TOK rfl rfl rfl rfl rfl ?_ | (refine LW_strNe (a := nameM (valTo s i)) (b := s) rfl rfl rfl rfl (fun hq => ?_) (fun hq => ?_)) | (refine isLW ?_; first | refine LW_nil ?_ | (refine isLg ?_; first | refine LW_take rfl ?_ | refine LW_pass rfl rfl ?_) | (refine isLcall ?_; first | (refine LW_call (cap := []) rfl rfl ent9 (refName_call W _ _ _ (by omega) hs) ?_; clear hs; rintro _ w ⟨rfl, hs⟩)) | (refine isLbin ?_; first | (refine LW_cmp rfl (fun _ => ?_) (fun _ => ?_) <;> try (exfalso; omega))) | refine LW_pure TOK rfl ?_) | (with_reducible first | refine then_n ?_ | refine CW_seq ?_ | refine CW_region ?_ | refine CW_skip ?_ | refine CW_exit ?_ | refine CW_ret ?_ | refine then_e ?_ | refine then_r ?_ | refine blk_same ?_) | refine CW_true rfl ?_ | refine CW_false rfl ?_ | refine RET2 Tryd.results7 rfl rfl ?_))
          · exact absurd hnm hq
          · exact ⟨rfl, hs⟩
        · rw [if_neg hnm]
          (repeat' (first | refine LW_lenN (a := s) TOK rfl rfl rfl rfl rfl ?_ | (refine LW_strNe (a := nameM (valTo s i)) (b := s) rfl rfl rfl rfl (fun hq => ?_) (fun hq => ?_)) | (refine isLW ?_; first | refine LW_nil ?_ | (refine isLg ?_; first | refine LW_take rfl ?_ | refine LW_pass rfl rfl ?_) | (refine isLcall ?_; first | (refine LW_call (cap := []) rfl rfl ent9 (refName_call W _ _ _ (by omega) hs) ?_; clear hs; rintro _ w ⟨rfl, hs⟩)) | (refine isLbin ?_; first | (refine LW_cmp rfl (fun _ => ?_) (fun _ => ?_) <;> try (exfalso; omega))) | refine LW_pure TOK rfl ?_) | (with_reducible first | refine then_n ?_ | refine CW_seq ?_ | refine CW_region ?_ | refine CW_skip ?_ | refine CW_exit ?_ | refine CW_ret ?_ | refine then_e ?_ | refine then_r ?_ | refine blk_same ?_) | refine CW_true rfl ?_ | refine CW_false rfl ?_ | refine RET2 Tryd.results7 rfl rfl ?_))
          all_goals first | exact ⟨rfl, hs⟩ | exact absurd (by assumption) hnm
    · rw [len_bad (s := s) (by omega)]
      have hnm : ¬ nameM (valTo s i) = s := fun h => by
        have := name_len h (by rintro rfl; simp at hlen)
        omega
      (repeat' (first | refine LW_lenN (a := s) TOK rfl rfl rfl rfl rfl ?_ | (refine LW_strNe (a := nameM (valTo s i)) (b := s) rfl rfl rfl rfl (fun hq => ?_) (fun hq => ?_)) | (refine isLW ?_; first | refine LW_nil ?_ | (refine isLg ?_; first | refine LW_take rfl ?_ | refine LW_pass rfl rfl ?_) | (refine isLcall ?_; first | (refine LW_call (cap := []) rfl rfl ent9 (refName_call W _ _ _ (by omega) hs) ?_; clear hs; rintro _ w ⟨rfl, hs⟩)) | (refine isLbin ?_; first | (refine LW_cmp rfl (fun _ => ?_) (fun _ => ?_) <;> try (exfalso; omega))) | refine LW_pure TOK rfl ?_) | (with_reducible first | refine then_n ?_ | refine CW_seq ?_ | refine CW_region ?_ | refine CW_skip ?_ | refine CW_exit ?_ | refine CW_ret ?_ | refine then_e ?_ | refine then_r ?_ | refine blk_same ?_) | refine CW_true rfl ?_ | refine CW_false rfl ?_ | refine RET2 Tryd.results7 rfl rfl ?_))
      all_goals first | exact ⟨rfl, hs⟩ | exact absurd (by assumption) hnm
theorem name_seven : nameM 7 = [115, 55] := by
  rw [nameM_in (by decide) (by decide), dec_lt (by decide)]; rfl
set_option maxHeartbeats 1000000 in
theorem ManifestNames_call (W : World) (n : Int) (s : Tx) (hn : -9223372036854775808 ≤ n ∧ n ≤ 9223372036854775807) (hl : s.length ≤ 4611686018427387904) (ht : Tab W) :
    Calls Tryd.prog 3 [Value.int .i64 n, sv s].toArray W (Ret fun v w' => v = .bool true ∧ Sat W w' []) := by
  refine Calls_of Tryd.func3 rfl 63 Tryd.ntmps3 rfl ?_
  have hs := Sat.start W
  have h7 := name_seven
  obtain ⟨⟨r1, r2⟩, hr⟩ : ∃ r, numG s = r := ⟨_, rfl⟩
  obtain ⟨t, htt⟩ : ∃ t, nameM n = t := ⟨_, rfl⟩
  by_cases hin : n < 1 ∨ big < n
  · have h9 := num_nil
    rw [nameM_out hin] at htt
    subst htt
    have hno := nameM_out hin
    cases r2
    all_goals
     (repeat' (first | (refine LW_strNe (a := [115, 55]) (b := [115, 55]) rfl rfl rfl rfl (fun hq => absurd rfl hq) (fun hq => ?_)) | (refine LW_strEq (a := ([] : Tx)) (b := []) rfl rfl rfl rfl (fun hq => ?_) (fun hq => absurd rfl hq)) | (refine isLW ?_; first | refine LW_nil ?_ | (refine isLg ?_; first | refine LW_take rfl ?_ | refine LW_pass rfl rfl ?_) | (refine isLcall ?_; first | (refine LW_call (cap := []) rfl rfl ent6 (Num_call W _ _ s hl ht hs) ?_; clear hs; rintro _ w ⟨rfl, hs⟩; rw [hr]) | (refine LW_call (cap := []) rfl rfl ent7 (refNum_call W _ _ s hl hs) ?_; clear hs; rintro _ w ⟨rfl, hs⟩; rw [hr]) | (refine LW_call (cap := []) rfl rfl ent8 (Name_call W _ _ 7 (by omega) ht hs) ?_; clear hs; rintro _ w ⟨rfl, hs⟩; rw [h7]) | (refine LW_call (cap := []) rfl rfl ent8 (Name_call W _ _ n hn ht hs) ?_; clear hs; rintro _ w ⟨rfl, hs⟩; rw [hno]) | (refine LW_call (cap := []) rfl rfl ent6 (Num_call W _ _ [] (by decide) ht hs) ?_; clear hs; rintro _ w ⟨rfl, hs⟩; rw [h9]) | (refine LW_call (cap := []) rfl rfl ent9 (refName_call W _ _ n hn hs) ?_; clear hs; rintro _ w ⟨rfl, hs⟩; rw [hno])) | (refine isLbin ?_; first | (refine LW_cmp rfl (fun _ => ?_) (fun _ => ?_) <;> try (exfalso; omega)) | refine LW_nileq TOK rfl ?_) | refine LW_pure TOK rfl ?_) | (with_reducible first | refine then_n ?_ | refine CW_seq ?_ | refine CW_region ?_ | refine CW_skip ?_ | refine CW_ret ?_) | refine CW_false rfl ?_ | refine RET1 Tryd.results3 rfl ?_))
    all_goals exact ⟨rfl, hs⟩
  · have h9 := num_name (n := n) (by omega) (by omega)
    have hlt : t.length ≤ 14 := by
      have := itoa_len (n := n) (by omega) (by omega)
      rw [← htt]; unfold nameM; rw [if_neg hin]; simp; omega
    rw [htt] at h9
    cases r2
    all_goals
     (repeat' (first | (refine LW_strNe (a := [115, 55]) (b := [115, 55]) rfl rfl rfl rfl (fun hq => absurd rfl hq) (fun hq => ?_)) | (refine LW_strEq (a := t) (b := t) rfl rfl rfl rfl (fun hq => ?_) (fun hq => absurd rfl hq)) | (refine isLW ?_; first | refine LW_nil ?_ | (refine isLg ?_; first | refine LW_take rfl ?_ | refine LW_pass rfl rfl ?_ | refine LW_passV rfl rfl rfl ?_) | (refine isLcall ?_; first | (refine LW_call (cap := []) rfl rfl ent6 (Num_call W _ _ s hl ht hs) ?_; clear hs; rintro _ w ⟨rfl, hs⟩; rw [hr]) | (refine LW_call (cap := []) rfl rfl ent7 (refNum_call W _ _ s hl hs) ?_; clear hs; rintro _ w ⟨rfl, hs⟩; rw [hr]) | (refine LW_call (cap := []) rfl rfl ent8 (Name_call W _ _ 7 (by omega) ht hs) ?_; clear hs; rintro _ w ⟨rfl, hs⟩; rw [h7]) | (refine LW_call (cap := []) rfl rfl ent8 (Name_call W _ _ n hn ht hs) ?_; clear hs; rintro _ w ⟨rfl, hs⟩; rw [htt]) | (refine LW_call (cap := []) rfl rfl ent6 (Num_call W _ _ t (by omega) ht hs) ?_; clear hs; rintro _ w ⟨rfl, hs⟩; rw [h9]) | (refine LW_call (cap := []) rfl rfl ent9 (refName_call W _ _ n hn hs) ?_; clear hs; rintro _ w ⟨rfl, hs⟩; rw [htt])) | (refine isLbin ?_; first | (refine LW_cmp rfl (fun _ => ?_) (fun _ => ?_) <;> try (exfalso; omega)) | refine LW_nileq TOK rfl ?_) | refine LW_pure TOK rfl ?_) | (with_reducible first | refine then_n ?_ | refine CW_seq ?_ | refine CW_region ?_ | refine CW_skip ?_ | refine CW_ret ?_) | refine CW_false rfl ?_ | refine RET1 Tryd.results3 rfl ?_))
    all_goals exact ⟨rfl, hs⟩
end Go.Proofs.YthhklkpkhaibcaaDoor
