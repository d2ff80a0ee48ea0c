/- Walks: which text is a file's name; a row's copy. -/
import Derived.Test.YthhklkpkhaibcaaDoorSrt
import Derived.Test.YthhklkpkhaibcaaDoorP2
set_option linter.unusedVariables false
set_option linter.unusedSimpArgs false
namespace Go.Proofs.YthhklkpkhaibcaaDoor
open Go Go.Sl Go.RowKit
set_option maxRecDepth 100000
attribute [local irreducible] CW LW DW FR DP Calls

theorem okc_iff (c : UInt8) : okc c = true ↔ 33 ≤ (c.toNat : Int) ∧ (c.toNat : Int) ≤ 126 ∧ ¬ (c.toNat : Int) = 47 := by
  unfold okc
  simp only [Bool.and_eq_true, decide_eq_true_eq, Bool.not_eq_true', decide_eq_false_iff_not]
  omega
theorem all_next {n : Nm} {i : Int} (h0 : 0 ≤ i) (h1 : i < n.length) (h : (n.take i.toNat).all okc = true) (hc : okc (rd n i) = true) : (n.take (i + 1).toNat).all okc = true := by
  have e : (i + 1).toNat = i.toNat + 1 := by omega
  rw [e, List.take_add_one, rd_get h0 h1, List.all_append, h]
  simpa using hc
theorem all_no {n : Nm} {i : Int} (h0 : 0 ≤ i) (h1 : i < n.length) (hc : ¬ okc (rd n i) = true) : pathB n = false := by
  unfold pathB
  have : n.all okc = false := by
    rw [List.all_eq_false]
    exact ⟨rd n i, List.mem_of_getElem? (rd_get h0 h1), by simpa using hc⟩
  rw [this, Bool.and_false]
theorem path_call (w : World) (n : Nm) (hn : n.length ≤ 140737488355328) :
    Calls Tryd.prog 29 [sv n].toArray w (Ret fun v w' => v = .bool (pathB n) ∧ Sat w w' []) := by
  refine Calls_of Tryd.func29 rfl 31 Tryd.ntmps29 rfl ?_
  have hs := Sat.start w
  (repeat' (first | refine LW_lenN (a := n) TOK rfl rfl rfl rfl rfl ?_ | refine LW_strEq (a := n) (b := []) rfl rfl rfl rfl (fun hne => ?_) (fun hne => ?_) | (refine isLW ?_; first | refine LW_nil ?_ | (refine isLg ?_; first | refine LW_take rfl ?_ | refine LW_pass rfl rfl ?_) | (refine isLbin ?_; first | (refine LW_cmp rfl (fun _ => ?_) (fun _ => ?_) <;> try (exfalso; omega))) | refine LW_pure TOK rfl ?_) | (with_reducible first | refine then_n ?_ | refine CW_seq ?_ | refine CW_region ?_ | refine CW_block ?_ | refine CW_skip ?_ | refine CW_ret ?_ | refine then_r ?_) | refine CW_true rfl ?_ | refine CW_false rfl ?_ | refine RET1 Tryd.results29 rfl ?_))
  · exact ⟨by rw [hne]; rfl, hs⟩
  · have h40 : (40 : Int) < n.length := by assumption
    refine ⟨?_, hs⟩
    have : pathB n = false := by unfold pathB; rw [decide_eq_false (p := n.length ≤ 40) (by omega)]; simp
    rw [this]
  have h40 : n.length ≤ 40 := by omega
  refine CW_loop (γ := Int) (fun g => [(0, sv n), (13, .int .i64 (n.length : Int)), (14, .int .i64 g)]) (fun g w' => Sat w w' [] ∧ 0 ≤ g ∧ g ≤ n.length ∧ (n.take g.toNat).all okc = true) (fun g => (n.length - g).toNat) 0 ⟨rfl, rfl, rfl, trivial⟩ ⟨hs, by omega, by omega, rfl⟩ ?_
  clear hs
  rintro i τ w' ⟨hs, h0, h1, h2⟩
  try dsimp only
  by_cases hlt : i < n.length
  · by_cases hc : okc (rd n i) = true
    · have hb := (okc_iff _).1 hc
      (repeat' (first | (refine isLW ?_; first | refine LW_nil ?_ | (refine isLg ?_; first | refine LW_take rfl ?_) | (refine isLbin ?_; first | refine LW_i64 rfl (by omega) (by omega) ?_ | (refine LW_cmp rfl (fun _ => ?_) (fun _ => ?_) <;> try (exfalso; omega))) | refine LW_strIdx (a := n) TOK rfl rfl rfl rfl rfl (by omega) (by omega) ?_ | refine LW_pure TOK rfl ?_) | (with_reducible first | refine then_n ?_ | refine CW_seq ?_ | refine CW_region ?_ | refine CW_block ?_ | refine CW_skip ?_ | refine blk_n ?_) | refine CW_true rfl ?_ | refine CW_false rfl ?_))
      exact ⟨i + 1, _, FR_forget _ ⟨rfl, rfl, rfl, trivial⟩, ⟨hs, by omega, by omega, all_next h0 hlt h2 hc⟩, by omega⟩
    · have hb : ¬ (33 ≤ ((rd n i).toNat : Int) ∧ ((rd n i).toNat : Int) ≤ 126 ∧ ¬ ((rd n i).toNat : Int) = 47) := fun h => hc ((okc_iff _).2 h)
      (repeat' (first | (refine isLW ?_; first | refine LW_nil ?_ | (refine isLg ?_; first | refine LW_take rfl ?_ | refine LW_pass rfl rfl ?_) | (refine isLbin ?_; first | (refine LW_cmp rfl (fun _ => ?_) (fun _ => ?_) <;> try (exfalso; omega))) | refine LW_strIdx (a := n) TOK rfl rfl rfl rfl rfl (by omega) (by omega) ?_ | refine LW_pure TOK rfl ?_) | (with_reducible first | refine then_n ?_ | refine CW_seq ?_ | refine CW_region ?_ | refine CW_block ?_ | refine CW_skip ?_ | refine CW_ret ?_ | refine then_r ?_ | refine blk_r ?_) | refine CW_true rfl ?_ | refine RET1 Tryd.results29 rfl ?_))
      all_goals exact ⟨by rw [all_no h0 hlt hc], hs⟩
  · (repeat' (first | (refine isLW ?_; first | refine LW_nil ?_ | (refine isLbin ?_; first | (refine LW_cmp rfl (fun _ => ?_) (fun _ => ?_) <;> try (exfalso; omega))) | refine LW_pure TOK rfl ?_) | (with_reducible first | refine then_n ?_ | refine CW_seq ?_ | refine CW_region ?_ | refine CW_exit ?_ | refine CW_ret ?_ | refine then_e ?_ | refine blk_same ?_) | refine CW_false rfl ?_ | refine RET1 Tryd.results29 rfl ?_))
    refine ⟨?_, hs⟩
    rw [List.take_of_length_le (by omega)] at h2
    have : pathB n = true := by
      unfold pathB
      rw [h2, decide_eq_true h40]
      cases n with
      | nil => contradiction
      | cons a l => rfl
    rw [this]
/-- A copy of bytes; nil stays nil. -/
theorem CloneB_call (w : World) (b : List UInt8) (A : Option Addr) (c : Nat) (rb : Rd eB w A b) (hb : b.length ≤ 140737488355328) :
    Calls Tryd.prog 30 [Value.slice A b.length c].toArray w (Ret fun v w' => ∃ A' c', v = .slice A' b.length c' ∧ Sat w w' [RowOf eB 5 1 A' c' b]) := by
  refine Calls_of Tryd.func30 rfl 8 Tryd.ntmps30 rfl ?_
  have hs := Sat.start w
  (repeat' (first | (refine isLW ?_; first | refine LW_nil ?_ | (refine isLcall ?_; first | (refine LW_append 0 (xs := ([] : List UInt8)) eB_ok.1 hs TOK rfl rfl (rb.of hs) eB_ok.2 rfl rfl rfl rfl rfl rfl rfl (by unfold maxLen; simp; omega) (by simp; omega) ?_; clear hs; intro A1 c1 w hs)) | refine LW_sliceNil rfl TOK rfl rfl rfl rfl (fun hA => ?_) (fun a hA => ?_) | (refine LW_buildSlice TOK hs rfl rfl rfl rfl rfl rfl rfl ?_; clear hs; intro b0 w hs; replace hs := hs.toRow (sz := 1) (n0 := 0) 0 rfl rfl (by unfold maxLen; omega)) | refine LW_pure TOK rfl ?_) | (with_reducible first | refine then_n ?_ | refine CW_seq ?_ | refine CW_region ?_ | refine CW_skip ?_ | refine CW_ret ?_ | refine then_r ?_) | refine CW_true rfl ?_ | refine CW_false rfl ?_ | refine RET1 Tryd.results30 rfl ?_))
  · rcases rb with rb | ⟨x, o, hx, _⟩
    · subst rb
      exact ⟨none, 0, rfl, hs.nilRow 5 1⟩
    · rw [hA] at hx; cases hx
  · exact ⟨A1, c1, rfl, hs⟩
end Go.Proofs.YthhklkpkhaibcaaDoor
