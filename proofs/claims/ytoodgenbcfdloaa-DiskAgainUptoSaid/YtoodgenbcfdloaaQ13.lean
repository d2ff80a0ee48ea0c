/- The document's disk; walks: Arm, Free, Read, List. -/
import Derived.Test.YtoodgenbcfdloaaQ12
set_option linter.unusedVariables false
set_option linter.unusedSimpArgs false
namespace Go.Proofs.Ytoodgenbcfdloaa
open Go Go.Sl Go.RowKit
set_option maxRecDepth 100000
attribute [local irreducible] CW LW DW FR DP Calls

section
variable {W : World} {D : DS} {k : RDk} {pool : List HProp} {o : RAct}
theorem rArm_call (h : KH W D k pool) (n : Int) (hn : -9223372036854775808 ≤ n ∧ n ≤ 9223372036854775807) : Calls Try.prog 88 [Value.agg (eK k).toArray, .int .i64 n].toArray W (Ret fun v w' => ∃ k', v = .agg (eK k').toArray ∧ KP W (D.arm n) pool k' w') := by
  refine Calls_of Try.func88 rfl 14 Try.ntmps88 rfl ?_
  have hs := Sat.start W
  obtain ⟨q, S, l, d⟩ := k
  have h' := h
  obtain ⟨rd, ins, ⟨rq, rep, rleft, rdown⟩, good, hfs, hnow, hchs, hlft⟩ := h'
  dsimp only at rq rep rleft rdown rd ins
  unfold DS.arm
  by_cases hd : D.down = true
  · rw [if_pos hd]
    rw [hd] at rdown
    subst rdown
    rw [hK]
    (repeat' (first | (refine isLW ?_; first | refine LW_nil ?_ | (refine isLload ?_; first | refine LW_loadCAE 1 (eK ⟨q, S, l, true⟩) TOK hs rfl rfl rfl rfl (Nat.le_of_ble_eq_true rfl) rfl ?_ | refine LW_loadC 1 TOK hs rfl rfl rfl rfl rfl ?_) | (refine isLstore ?_; first | (refine LW_storeCA 0 TOK hs rfl rfl rfl rfl rfl (eK_ok.2 ⟨q, S, l, true⟩) rfl (Nat.le_of_ble_eq_true rfl) ?_; clear hs; intro w hs)) | refine LW_pure TOK rfl ?_ | (refine LW_box hs rfl rfl ?_; clear hs; intro _ w hs) | (refine LW_alloc TOK hs rfl rfl ?_; clear hs; intro _ w hs)) | (with_reducible first | refine then_n ?_ | refine CW_seq ?_ | refine CW_region ?_ | refine CW_ret ?_ | refine then_r ?_) | refine RETA 0 hs TOK Try.results88 rfl rfl rfl rfl rfl ?_ | refine CW_true rfl ?_))
    exact ⟨_, rfl, h.same hs⟩
  rw [if_neg hd]
  have hd : D.down = false := by simpa using hd
  rw [hd] at rdown
  subst rdown
  rw [hK]
  by_cases hn0 : n < 0
  · rw [if_neg (by omega)]
    (repeat' (first | (refine isLW ?_; first | refine LW_nil ?_ | (refine isLload ?_; first | refine LW_loadCAE 1 (eK ⟨q, S, -1, false⟩) TOK hs rfl rfl rfl rfl (Nat.le_of_ble_eq_true rfl) rfl ?_ | refine LW_loadC 1 TOK hs rfl rfl rfl rfl rfl ?_) | (refine isLstore ?_; first | (refine LW_storeCA 0 TOK hs rfl rfl rfl rfl rfl (eK_ok.2 ⟨q, S, -1, false⟩) rfl (Nat.le_of_ble_eq_true rfl) ?_; clear hs; intro w hs) | (refine LW_storeC 1 TOK hs rfl rfl rfl rfl rfl rfl rfl ?_; clear hs; intro w hs)) | (refine isLbin ?_; first | (refine LW_cmp rfl (fun _ => ?_) (fun _ => ?_) <;> try (exfalso; omega))) | refine LW_pure TOK rfl ?_ | (refine LW_box hs rfl rfl ?_; clear hs; intro _ w hs) | (refine LW_alloc TOK hs rfl rfl ?_; clear hs; intro _ w hs)) | (with_reducible first | refine then_n ?_ | refine CW_seq ?_ | refine CW_region ?_ | refine CW_skip ?_ | refine CW_ret ?_) | refine RETA 0 hs TOK Try.results88 rfl rfl rfl rfl rfl ?_ | refine CW_true rfl ?_ | refine CW_false rfl ?_))
    exact ⟨⟨q, S, -1, false⟩, rfl, [], ⟨rq, rep.congr rfl rfl rfl rfl, rfl, hd.symm⟩, ins, Sat.mkBig (l := []) (r := []) (Sat.keeps hs [])⟩
  · rw [if_pos (by omega)]
    (repeat' (first | (refine isLW ?_; first | refine LW_nil ?_ | (refine isLload ?_; first | refine LW_loadCAE 1 (eK ⟨q, S, n, false⟩) TOK hs rfl rfl rfl rfl (Nat.le_of_ble_eq_true rfl) rfl ?_ | refine LW_loadC 1 TOK hs rfl rfl rfl rfl rfl ?_) | (refine isLstore ?_; first | (refine LW_storeCA 0 TOK hs rfl rfl rfl rfl rfl (eK_ok.2 ⟨q, S, n, false⟩) rfl (Nat.le_of_ble_eq_true rfl) ?_; clear hs; intro w hs) | (refine LW_storeC 1 TOK hs rfl rfl rfl rfl rfl rfl rfl ?_; clear hs; intro w hs)) | (refine isLbin ?_; first | (refine LW_cmp rfl (fun _ => ?_) (fun _ => ?_) <;> try (exfalso; omega))) | refine LW_pure TOK rfl ?_ | (refine LW_box hs rfl rfl ?_; clear hs; intro _ w hs) | (refine LW_alloc TOK hs rfl rfl ?_; clear hs; intro _ w hs)) | (with_reducible first | refine then_n ?_ | refine CW_seq ?_ | refine CW_region ?_ | refine CW_skip ?_ | refine CW_ret ?_) | refine RETA 0 hs TOK Try.results88 rfl rfl rfl rfl rfl ?_ | refine CW_false rfl ?_))
    exact ⟨⟨q, S, n, false⟩, rfl, [], ⟨rq, rep.congr rfl rfl rfl rfl, by show n = (n.toNat : Int); omega, hd.symm⟩, ins, Sat.mkBig (l := []) (r := []) (Sat.keeps hs [])⟩
theorem rFree_call (h : KH W D k pool) : Calls Try.prog 97 [Value.agg (eK k).toArray].toArray W (Ret fun v w' => v = .int .i64 D.free ∧ Sat W w' []) := by
  refine Calls_of Try.func97 rfl 15 Try.ntmps97 rfl ?_
  have hs := Sat.start W
  obtain ⟨q, S, l, d⟩ := k
  obtain ⟨rd, ins, ⟨rq, rep, rleft, rdown⟩, good, hfs, hnow, hchs, hlft⟩ := h
  dsimp only at rq rep rleft rdown rd ins
  have rdt := rd.th
  have hth : S.th.length ≤ 1099511627776 := by rw [rep.len]; exact hfs
  have htk : takenT S.th = D.taken := rep.taken good
  have hroom := good.room
  have hquota := good.quota
  rw [hK]
  unfold DS.free
  by_cases hd : D.down = true
  · rw [if_pos hd]
    rw [hd] at rdown
    subst rdown
    (repeat' (first | (refine isLW ?_; first | refine LW_nil ?_ | (refine isLload ?_; first | refine LW_loadC 0 TOK hs rfl rfl rfl rfl rfl ?_) | refine LW_pure TOK rfl ?_ | (refine LW_box hs rfl rfl ?_; clear hs; intro _ w hs)) | (with_reducible first | refine then_n ?_ | refine CW_seq ?_ | refine CW_region ?_ | refine CW_ret ?_ | refine then_r ?_) | refine CW_true rfl ?_ | refine RET1 Try.results97 rfl ?_))
    exact ⟨rfl, Sat.keeps hs []⟩
  rw [if_neg hd]
  have hd : D.down = false := by simpa using hd
  rw [hd] at rdown
  subst rdown
  (repeat' (first | (refine isLW ?_; first | refine LW_nil ?_ | (refine isLload ?_; first | refine LW_loadCAE 0 (eS S) TOK hs rfl rfl rfl rfl (Nat.le_of_ble_eq_true rfl) rfl ?_ | refine LW_loadC 0 TOK hs rfl rfl rfl rfl rfl ?_ | refine LW_loadC 1 TOK hs rfl rfl rfl rfl rfl ?_) | (refine isLstore ?_; first | (refine LW_storeCA 0 TOK hs rfl rfl rfl rfl rfl (eS_ok.2 S) rfl (Nat.le_of_ble_eq_true rfl) ?_; clear hs; intro w hs)) | (refine isLcall ?_; first | (refine LW_call (cap := []) rfl rfl ent101 (taken_call _ S (rdt.of hs) (by omega) (by omega)) ?_; rintro _ w2 ⟨rfl, hs2⟩; replace hs := hs.and0 hs2; clear hs2)) | (refine isLbin ?_; first | refine LW_i64 rfl (by omega) (by omega) ?_) | refine LW_pure TOK rfl ?_ | (refine LW_box hs rfl rfl ?_; clear hs; intro _ w hs) | (refine LW_alloc TOK hs rfl rfl ?_; clear hs; intro _ w hs)) | (with_reducible first | refine then_n ?_ | refine CW_seq ?_ | refine CW_region ?_ | refine CW_skip ?_ | refine CW_ret ?_) | refine CW_false rfl ?_ | refine RET1 Try.results97 rfl ?_))
  exact ⟨by rw [← htk, rq], Sat.keeps hs []⟩
end
end Go.Proofs.Ytoodgenbcfdloaa
