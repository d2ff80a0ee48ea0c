/- Walks of the reader: a value. -/
import Derived.Test.YtbmeafeojcgndaaDoorV27
set_option linter.unusedVariables false
set_option linter.unusedSimpArgs false
namespace Go.Proofs.YtbmeafeojcgndaaDoor
open Go Go.Sl Go.RowKit
set_option maxRecDepth 100000
attribute [local irreducible] CW LW DW FR DP Calls Res Ret
section
variable {w W : World} {L R0 T : List HProp} {p s : HProp}
theorem Sat.past1 (h : Sat W w (s :: (R0 ++ (p :: T)))) : Sat W w (s :: p :: (R0 ++ T)) := h.perm (.cons s List.perm_middle)
end
section
variable {W : World} {b : List UInt8} {B : Option Addr} {c br : Nat}
theorem leaf_rows {w : World} {L : List HProp} {q : HProp} (hs : Sat W w (q :: L)) (k i : Int) (t : List UInt8) : Sat W w (q :: ((RV.mk k i t none 0 [] none 0 []).rows ++ L)) := by
  have h2 := ((hs.nilRow 31 5).nilRow 9 1).picks [2]
  rw [RV.rows, RV.rowss]
  exact h2
set_option maxHeartbeats 8000000 in
theorem value_call (hU : Lib.Utf8Tabs 1 2 W) (rb : Rd eB W B b) (hb : b.length ≤ 16777216) (hcb : b.length ≤ c) (k : Nat) (hv : ValC W b B c br k) : ValC W b B c br (k + 1) := by
  intro d w p L _ hd hs hp
  have hb2 : b.length ≤ 140737488355328 := by omega
  have hd16 : 16 - k = d := by omega
  rw [valueM_succ, hd16]
  unfold Gives
  refine Calls_of Tryd.func26 rfl 61 Tryd.ntmps26 rfl ?_
  (repeat' (first | (refine isLW ?_; first | refine LW_nil ?_ | refine LW_pure TOK rfl ?_ | (refine LW_alloc TOK hs rfl rfl ?_; clear hs; intro _ w hs)) | (with_reducible first | refine then_n ?_ | refine CW_seq ?_ | refine CW_region ?_)))
  rename_i b2
  replace hs : Sat W w (Cl br (eR B b.length c p d) 57 :: Cl b2 [.int .i64 0, .int .i64 0, sv [], .slice none 0 0, .slice none 0 0] 31 :: L) := hs.picks [1]
  rcases hpk : peekM b p with er | x
  · (repeat' (first | (refine isLW ?_; first | (refine isLcall ?_; first | (refine LW_callX (cap := []) rfl rfl ent35 (peek_call _ hs rb hp hb2) ?_ ?_; (rintro _ w2 ⟨x, hx, _⟩; rw [hpk] at hx; cases hx); rintro _ w2 ⟨er2, hx, rfl, hs2⟩; rw [hpk] at hx; cases hx))) | (with_reducible first | refine then_p ?_) | refine RXP ?_))
    exact ⟨_, rfl, rfl, hs2.drop1⟩
  obtain ⟨hx1, hx2⟩ := peek_some hpk
  dsimp only
  unfold headM
  by_cases c110 : x.toNat = 110
  · rw [if_pos c110]
    rcases hw : wordM b nullB p with er | q
    · (repeat' (first | (refine isLW ?_; first | refine LW_nil ?_ | (refine isLcall ?_; first | (refine LW_callX (cap := []) rfl rfl ent35 (peek_call _ hs rb hp hb2) ?_ ?_; rotate_left; (rintro _ w2 ⟨x, hx, _⟩; rw [hpk] at hx; cases hx); clear hs; rintro _ w2 ⟨er2, hx, rfl, hs⟩; rw [hpk] at hx; cases hx) | (refine LW_callX (cap := []) rfl rfl ent36 (word_call _ nullB (by decide) hs rb hp hb2 (by decide)) ?_ ?_; (rintro _ w2 ⟨x, hx, _⟩; rw [hw] at hx; cases hx); rintro _ w2 ⟨er2, hx, rfl, hs2⟩; rw [hw] at hx; cases hx)) | (refine isLbin ?_; first | (refine LW_cmp rfl (fun _ => ?_) (fun _ => ?_) <;> try (exfalso; omega))) | refine LW_pure TOK rfl ?_) | (with_reducible first | refine then_n ?_ | refine CW_seq ?_ | refine CW_region ?_ | refine CW_block ?_ | refine then_p ?_ | refine blk_p ?_) | refine CW_true rfl ?_ | refine RXP ?_))
      exact ⟨_, rfl, rfl, hs2.drop1⟩
    · have hq := wordM_ok hw
      have hql : p < q := by rw [hq]; exact Nat.lt_add_of_pos_right (by decide)
      (repeat' (first | (refine isLW ?_; first | refine LW_nil ?_ | (refine isLstore ?_; first | (refine LW_storeCA 1 TOK hs rfl rfl rfl rfl rfl (oneV _ _ _ _ _ _ _ _ _) rfl (Nat.le_of_ble_eq_true rfl) ?_; clear hs; intro w hs)) | (refine isLcall ?_; first | (refine LW_callX (cap := []) rfl rfl ent35 (peek_call _ hs rb hp hb2) ?_ ?_; rotate_left; (rintro _ w2 ⟨x, hx, _⟩; rw [hpk] at hx; cases hx); clear hs; rintro _ w2 ⟨er2, hx, rfl, hs⟩; rw [hpk] at hx; cases hx) | (refine LW_callX (cap := []) rfl rfl ent36 (word_call _ nullB (by decide) hs rb hp hb2 (by decide)) ?_ ?_; rotate_left; (rintro _ w2 ⟨x, hx, _⟩; rw [hw] at hx; cases hx); clear hs; rintro _ w2 ⟨er2, hx, rfl, hle, hs⟩; rw [hw] at hx; cases hx)) | (refine isLbin ?_; first | (refine LW_cmp rfl (fun _ => ?_) (fun _ => ?_) <;> try (exfalso; omega))) | refine LW_pure TOK rfl ?_ | refine LW_build TOK rfl rfl rfl rfl rfl rfl ?_) | (with_reducible first | refine then_n ?_ | refine CW_seq ?_ | refine CW_region ?_ | refine CW_block ?_ | refine CW_ret ?_ | refine then_r ?_ | refine blk_r ?_) | refine RX_of (RETA 1 hs TOK Tryd.results26 rfl rfl rfl rfl rfl ?_) | refine CW_true rfl ?_))
      exact ⟨_, rfl, .mk 0 0 [] none 0 [] none 0 [], rfl, rfl, hql, hle, leaf_rows (hs.picks [1]).drop1 0 0 []⟩
  rw [if_neg c110]
  by_cases c102 : x.toNat = 102
  · rw [if_pos c102]
    rcases hw : wordM b (boolB false) p with er | q
    · (repeat' (first | (refine isLW ?_; first | refine LW_nil ?_ | (refine isLcall ?_; first | (refine LW_callX (cap := []) rfl rfl ent35 (peek_call _ hs rb hp hb2) ?_ ?_; rotate_left; (rintro _ w2 ⟨x, hx, _⟩; rw [hpk] at hx; cases hx); clear hs; rintro _ w2 ⟨er2, hx, rfl, hs⟩; rw [hpk] at hx; cases hx) | (refine LW_callX (cap := []) rfl rfl ent36 (word_call _ (boolB false) (by decide) hs rb hp hb2 (by decide)) ?_ ?_; (rintro _ w2 ⟨x, hx, _⟩; rw [hw] at hx; cases hx); rintro _ w2 ⟨er2, hx, rfl, hs2⟩; rw [hw] at hx; cases hx)) | (refine isLbin ?_; first | (refine LW_cmp rfl (fun _ => ?_) (fun _ => ?_) <;> try (exfalso; omega))) | refine LW_pure TOK rfl ?_) | (with_reducible first | refine then_n ?_ | refine CW_seq ?_ | refine CW_region ?_ | refine CW_block ?_ | refine then_p ?_ | refine blk_p ?_) | refine CW_true rfl ?_ | refine CW_false rfl ?_ | refine RXP ?_))
      exact ⟨_, rfl, rfl, hs2.drop1⟩
    · have hq := wordM_ok hw
      have hql : p < q := by rw [hq]; exact Nat.lt_add_of_pos_right (by decide)
      (repeat' (first | (refine isLW ?_; first | refine LW_nil ?_ | (refine isLstore ?_; first | (refine LW_storeCA 1 TOK hs rfl rfl rfl rfl rfl (oneV _ _ _ _ _ _ _ _ _) rfl (Nat.le_of_ble_eq_true rfl) ?_; clear hs; intro w hs)) | (refine isLcall ?_; first | (refine LW_callX (cap := []) rfl rfl ent35 (peek_call _ hs rb hp hb2) ?_ ?_; rotate_left; (rintro _ w2 ⟨x, hx, _⟩; rw [hpk] at hx; cases hx); clear hs; rintro _ w2 ⟨er2, hx, rfl, hs⟩; rw [hpk] at hx; cases hx) | (refine LW_callX (cap := []) rfl rfl ent36 (word_call _ (boolB false) (by decide) hs rb hp hb2 (by decide)) ?_ ?_; rotate_left; (rintro _ w2 ⟨x, hx, _⟩; rw [hw] at hx; cases hx); clear hs; rintro _ w2 ⟨er2, hx, rfl, hle, hs⟩; rw [hw] at hx; cases hx)) | (refine isLbin ?_; first | (refine LW_cmp rfl (fun _ => ?_) (fun _ => ?_) <;> try (exfalso; omega))) | refine LW_pure TOK rfl ?_ | refine LW_build TOK rfl rfl rfl rfl rfl rfl ?_) | (with_reducible first | refine then_n ?_ | refine CW_seq ?_ | refine CW_region ?_ | refine CW_block ?_ | refine CW_ret ?_ | refine then_r ?_ | refine blk_r ?_) | refine RX_of (RETA 1 hs TOK Tryd.results26 rfl rfl rfl rfl rfl ?_) | refine CW_true rfl ?_ | refine CW_false rfl ?_))
      exact ⟨_, rfl, .mk 1 0 [] none 0 [] none 0 [], rfl, rfl, hql, hle, leaf_rows (hs.picks [1]).drop1 1 0 []⟩
  rw [if_neg c102]
  by_cases c116 : x.toNat = 116
  · rw [if_pos c116]
    rcases hw : wordM b (boolB true) p with er | q
    · (repeat' (first | (refine isLW ?_; first | refine LW_nil ?_ | (refine isLcall ?_; first | (refine LW_callX (cap := []) rfl rfl ent35 (peek_call _ hs rb hp hb2) ?_ ?_; rotate_left; (rintro _ w2 ⟨x, hx, _⟩; rw [hpk] at hx; cases hx); clear hs; rintro _ w2 ⟨er2, hx, rfl, hs⟩; rw [hpk] at hx; cases hx) | (refine LW_callX (cap := []) rfl rfl ent36 (word_call _ (boolB true) (by decide) hs rb hp hb2 (by decide)) ?_ ?_; (rintro _ w2 ⟨x, hx, _⟩; rw [hw] at hx; cases hx); rintro _ w2 ⟨er2, hx, rfl, hs2⟩; rw [hw] at hx; cases hx)) | (refine isLbin ?_; first | (refine LW_cmp rfl (fun _ => ?_) (fun _ => ?_) <;> try (exfalso; omega))) | refine LW_pure TOK rfl ?_) | (with_reducible first | refine then_n ?_ | refine CW_seq ?_ | refine CW_region ?_ | refine CW_block ?_ | refine then_p ?_ | refine blk_p ?_) | refine CW_true rfl ?_ | refine CW_false rfl ?_ | refine RXP ?_))
      exact ⟨_, rfl, rfl, hs2.drop1⟩
    · have hq := wordM_ok hw
      have hql : p < q := by rw [hq]; exact Nat.lt_add_of_pos_right (by decide)
      (repeat' (first | (refine isLW ?_; first | refine LW_nil ?_ | (refine isLstore ?_; first | (refine LW_storeCA 1 TOK hs rfl rfl rfl rfl rfl (oneV _ _ _ _ _ _ _ _ _) rfl (Nat.le_of_ble_eq_true rfl) ?_; clear hs; intro w hs)) | (refine isLcall ?_; first | (refine LW_callX (cap := []) rfl rfl ent35 (peek_call _ hs rb hp hb2) ?_ ?_; rotate_left; (rintro _ w2 ⟨x, hx, _⟩; rw [hpk] at hx; cases hx); clear hs; rintro _ w2 ⟨er2, hx, rfl, hs⟩; rw [hpk] at hx; cases hx) | (refine LW_callX (cap := []) rfl rfl ent36 (word_call _ (boolB true) (by decide) hs rb hp hb2 (by decide)) ?_ ?_; rotate_left; (rintro _ w2 ⟨x, hx, _⟩; rw [hw] at hx; cases hx); clear hs; rintro _ w2 ⟨er2, hx, rfl, hle, hs⟩; rw [hw] at hx; cases hx)) | (refine isLbin ?_; first | (refine LW_cmp rfl (fun _ => ?_) (fun _ => ?_) <;> try (exfalso; omega))) | refine LW_pure TOK rfl ?_ | refine LW_build TOK rfl rfl rfl rfl rfl rfl ?_) | (with_reducible first | refine then_n ?_ | refine CW_seq ?_ | refine CW_region ?_ | refine CW_block ?_ | refine CW_ret ?_ | refine then_r ?_ | refine blk_r ?_) | refine RX_of (RETA 1 hs TOK Tryd.results26 rfl rfl rfl rfl rfl ?_) | refine CW_true rfl ?_ | refine CW_false rfl ?_))
      exact ⟨_, rfl, .mk 1 1 [] none 0 [] none 0 [], rfl, rfl, hql, hle, leaf_rows (hs.picks [1]).drop1 1 1 []⟩
  rw [if_neg c116]
  by_cases c34 : x.toNat = 34
  · rw [if_pos c34]
    rcases hw : textM b p with er | ⟨t, q⟩
    · (repeat' (first | (refine isLW ?_; first | refine LW_nil ?_ | (refine isLcall ?_; first | (refine LW_callX (cap := []) rfl rfl ent35 (peek_call _ hs rb hp hb2) ?_ ?_; rotate_left; (rintro _ w2 ⟨x, hx, _⟩; rw [hpk] at hx; cases hx); clear hs; rintro _ w2 ⟨er2, hx, rfl, hs⟩; rw [hpk] at hx; cases hx) | (refine LW_callX (cap := []) rfl rfl ent37 (text_call _ hU hs rb hx2 hcb (by omega)) ?_ ?_; (rintro _ w2 ⟨x, hx, _⟩; rw [hw] at hx; cases hx); rintro _ w2 ⟨er2, hx, rfl, hs2⟩; rw [hw] at hx; cases hx)) | (refine isLbin ?_; first | (refine LW_cmp rfl (fun _ => ?_) (fun _ => ?_) <;> try (exfalso; omega))) | refine LW_pure TOK rfl ?_) | (with_reducible first | refine then_n ?_ | refine CW_seq ?_ | refine CW_region ?_ | refine CW_block ?_ | refine then_p ?_ | refine blk_p ?_) | refine CW_true rfl ?_ | refine CW_false rfl ?_ | refine RXP ?_))
      exact ⟨_, rfl, rfl, hs2.drop1⟩
    · (repeat' (first | (refine isLW ?_; first | refine LW_nil ?_ | (refine isLstore ?_; first | (refine LW_storeCA 1 TOK hs rfl rfl rfl rfl rfl (oneV _ _ _ _ _ _ _ _ _) rfl (Nat.le_of_ble_eq_true rfl) ?_; clear hs; intro w hs)) | (refine isLcall ?_; first | (refine LW_callX (cap := []) rfl rfl ent35 (peek_call _ hs rb hp hb2) ?_ ?_; rotate_left; (rintro _ w2 ⟨x, hx, _⟩; rw [hpk] at hx; cases hx); clear hs; rintro _ w2 ⟨er2, hx, rfl, hs⟩; rw [hpk] at hx; cases hx) | (refine LW_callX (cap := []) rfl rfl ent37 (text_call _ hU hs rb hx2 hcb (by omega)) ?_ ?_; rotate_left; (rintro _ w2 ⟨x, hx, _⟩; rw [hw] at hx; cases hx); clear hs; rintro _ w2 ⟨er2, hx, rfl, m1, m2, m3, hs⟩; rw [hw] at hx; cases hx)) | (refine isLbin ?_; first | (refine LW_cmp rfl (fun _ => ?_) (fun _ => ?_) <;> try (exfalso; omega))) | refine LW_pure TOK rfl ?_ | refine LW_build TOK rfl rfl rfl rfl rfl rfl ?_) | (with_reducible first | refine then_n ?_ | refine CW_seq ?_ | refine CW_region ?_ | refine CW_block ?_ | refine CW_ret ?_ | refine then_r ?_ | refine blk_r ?_) | refine RX_of (RETA 1 hs TOK Tryd.results26 rfl rfl rfl rfl rfl ?_) | refine CW_true rfl ?_ | refine CW_false rfl ?_))
      exact ⟨_, rfl, .mk 3 0 t none 0 [] none 0 [], rfl, rfl, m1, m2, leaf_rows (hs.picks [1]).drop1 3 0 t⟩
  rw [if_neg c34]
  by_cases c91 : x.toNat = 91
  · rw [if_pos c91]
    rcases hw : listM (valueM b k) b p d with er | q
    · (repeat' (first | (refine isLW ?_; first | refine LW_nil ?_ | (refine isLcall ?_; first | (refine LW_callX (cap := []) rfl rfl ent35 (peek_call _ hs rb hp hb2) ?_ ?_; rotate_left; (rintro _ w2 ⟨x, hx, _⟩; rw [hpk] at hx; cases hx); clear hs; rintro _ w2 ⟨er2, hx, rfl, hs⟩; rw [hpk] at hx; cases hx) | (refine LW_callX (cap := []) rfl rfl ent38 (list_call rb hb k (by omega) hv _ hs hx2) ?_ ?_; (rintro _ w2 ⟨x, hx, _⟩; rw [hw] at hx; cases hx); rintro _ w2 ⟨er2, hx, rfl, hs2⟩; rw [hw] at hx; cases hx)) | (refine isLbin ?_; first | (refine LW_cmp rfl (fun _ => ?_) (fun _ => ?_) <;> try (exfalso; omega))) | refine LW_pure TOK rfl ?_) | (with_reducible first | refine then_n ?_ | refine CW_seq ?_ | refine CW_region ?_ | refine CW_block ?_ | refine then_p ?_ | refine blk_p ?_) | refine CW_true rfl ?_ | refine CW_false rfl ?_ | refine RXP ?_))
      exact ⟨_, rfl, rfl, hs2.drop1⟩
    · (repeat' (first | (refine isLW ?_; first | refine LW_nil ?_ | (refine isLstore ?_; first | (refine LW_storeCA 1 TOK hs rfl rfl rfl rfl rfl (oneV _ _ _ _ _ _ _ _ _) rfl (Nat.le_of_ble_eq_true rfl) ?_; clear hs; intro w hs)) | (refine isLcall ?_; first | (refine LW_callX (cap := []) rfl rfl ent35 (peek_call _ hs rb hp hb2) ?_ ?_; rotate_left; (rintro _ w2 ⟨x, hx, _⟩; rw [hpk] at hx; cases hx); clear hs; rintro _ w2 ⟨er2, hx, rfl, hs⟩; rw [hpk] at hx; cases hx) | (refine LW_callX (cap := []) rfl rfl ent38 (list_call rb hb k (by omega) hv _ hs hx2) ?_ ?_; rotate_left; (rintro _ w2 ⟨x, hx, _⟩; rw [hw] at hx; cases hx); clear hs; rintro _ w2 ⟨er2, hx, y, rfl, hj, m1, m2, hs⟩; rw [hw] at hx; cases hx; replace hs := Sat.past1 hs; obtain ⟨kk, ii, tt, NA0, nc0, ns0, IA0, ic0, xs0⟩ := y)) | (refine isLbin ?_; first | (refine LW_cmp rfl (fun _ => ?_) (fun _ => ?_) <;> try (exfalso; omega))) | refine LW_pure TOK rfl ?_) | (with_reducible first | refine then_n ?_ | refine CW_seq ?_ | refine CW_region ?_ | refine CW_block ?_ | refine CW_ret ?_ | refine then_r ?_ | refine blk_r ?_) | refine RX_of (RETA 1 hs TOK Tryd.results26 rfl rfl rfl rfl rfl ?_) | refine CW_true rfl ?_ | refine CW_false rfl ?_))
      exact ⟨_, rfl, .mk kk ii tt NA0 nc0 ns0 IA0 ic0 xs0, rfl, hj, m1, m2, (hs.picks [1]).drop1⟩
  rw [if_neg c91]
  by_cases c123 : x.toNat = 123
  · rw [if_pos c123]
    rcases hw : objectM (valueM b k) b p d with er | q
    · (repeat' (first | (refine isLW ?_; first | refine LW_nil ?_ | (refine isLcall ?_; first | (refine LW_callX (cap := []) rfl rfl ent35 (peek_call _ hs rb hp hb2) ?_ ?_; rotate_left; (rintro _ w2 ⟨x, hx, _⟩; rw [hpk] at hx; cases hx); clear hs; rintro _ w2 ⟨er2, hx, rfl, hs⟩; rw [hpk] at hx; cases hx) | (refine LW_callX (cap := []) rfl rfl ent39 (object_call hU rb hb hcb k (by omega) hv _ hs hx2) ?_ ?_; (rintro _ w2 ⟨x, hx, _⟩; rw [hw] at hx; cases hx); rintro _ w2 ⟨er2, hx, rfl, hs2⟩; rw [hw] at hx; cases hx)) | (refine isLbin ?_; first | (refine LW_cmp rfl (fun _ => ?_) (fun _ => ?_) <;> try (exfalso; omega))) | refine LW_pure TOK rfl ?_) | (with_reducible first | refine then_n ?_ | refine CW_seq ?_ | refine CW_region ?_ | refine CW_block ?_ | refine then_p ?_ | refine blk_p ?_) | refine CW_true rfl ?_ | refine CW_false rfl ?_ | refine RXP ?_))
      exact ⟨_, rfl, rfl, hs2.drop1⟩
    · (repeat' (first | (refine isLW ?_; first | refine LW_nil ?_ | (refine isLstore ?_; first | (refine LW_storeCA 1 TOK hs rfl rfl rfl rfl rfl (oneV _ _ _ _ _ _ _ _ _) rfl (Nat.le_of_ble_eq_true rfl) ?_; clear hs; intro w hs)) | (refine isLcall ?_; first | (refine LW_callX (cap := []) rfl rfl ent35 (peek_call _ hs rb hp hb2) ?_ ?_; rotate_left; (rintro _ w2 ⟨x, hx, _⟩; rw [hpk] at hx; cases hx); clear hs; rintro _ w2 ⟨er2, hx, rfl, hs⟩; rw [hpk] at hx; cases hx) | (refine LW_callX (cap := []) rfl rfl ent39 (object_call hU rb hb hcb k (by omega) hv _ hs hx2) ?_ ?_; rotate_left; (rintro _ w2 ⟨x, hx, _⟩; rw [hw] at hx; cases hx); clear hs; rintro _ w2 ⟨er2, hx, y, rfl, hj, m1, m2, hs⟩; rw [hw] at hx; cases hx; replace hs := Sat.past1 hs; obtain ⟨kk, ii, tt, NA0, nc0, ns0, IA0, ic0, xs0⟩ := y)) | (refine isLbin ?_; first | (refine LW_cmp rfl (fun _ => ?_) (fun _ => ?_) <;> try (exfalso; omega))) | refine LW_pure TOK rfl ?_) | (with_reducible first | refine then_n ?_ | refine CW_seq ?_ | refine CW_region ?_ | refine CW_block ?_ | refine CW_ret ?_ | refine then_r ?_ | refine blk_r ?_) | refine RX_of (RETA 1 hs TOK Tryd.results26 rfl rfl rfl rfl rfl ?_) | refine CW_true rfl ?_ | refine CW_false rfl ?_))
      exact ⟨_, rfl, .mk kk ii tt NA0 nc0 ns0 IA0 ic0 xs0, rfl, hj, m1, m2, (hs.picks [1]).drop1⟩
  rw [if_neg c123]
  by_cases c45 : x.toNat = 45 ∨ (48 ≤ x.toNat ∧ x.toNat ≤ 57)
  · rw [if_pos c45]
    rcases hw : numberM b p with er | ⟨n, q⟩
    · (repeat' (first | (refine isLW ?_; first | refine LW_nil ?_ | (refine isLg ?_; first | refine LW_take rfl ?_ | refine LW_pass rfl rfl ?_ | refine LW_passV rfl rfl rfl ?_) | (refine isLcall ?_; first | (refine LW_callX (cap := []) rfl rfl ent35 (peek_call _ hs rb hp hb2) ?_ ?_; rotate_left; (rintro _ w2 ⟨x, hx, _⟩; rw [hpk] at hx; cases hx); clear hs; rintro _ w2 ⟨er2, hx, rfl, hs⟩; rw [hpk] at hx; cases hx) | (refine LW_callX (cap := []) rfl rfl ent40 (number_call _ hs rb hx2 hcb (by omega)) ?_ ?_; (rintro _ w2 ⟨x, hx, _⟩; rw [hw] at hx; cases hx); rintro _ w2 ⟨er2, hx, rfl, hs2⟩; rw [hw] at hx; cases hx)) | (refine isLbin ?_; first | (refine LW_cmp rfl (fun _ => ?_) (fun _ => ?_) <;> try (exfalso; omega))) | refine LW_pure TOK rfl ?_) | (with_reducible first | refine then_n ?_ | refine CW_seq ?_ | refine CW_region ?_ | refine CW_block ?_ | refine then_p ?_ | refine blk_p ?_) | refine CW_true rfl ?_ | refine CW_false rfl ?_ | refine RXP ?_))
      all_goals exact ⟨_, rfl, rfl, hs2.drop1⟩
    · (repeat' (first | (refine isLW ?_; first | refine LW_nil ?_ | (refine isLg ?_; first | refine LW_take rfl ?_ | refine LW_pass rfl rfl ?_ | refine LW_passV rfl rfl rfl ?_) | (refine isLstore ?_; first | (refine LW_storeCA 1 TOK hs rfl rfl rfl rfl rfl (oneV _ _ _ _ _ _ _ _ _) rfl (Nat.le_of_ble_eq_true rfl) ?_; clear hs; intro w hs)) | (refine isLcall ?_; first | (refine LW_callX (cap := []) rfl rfl ent35 (peek_call _ hs rb hp hb2) ?_ ?_; rotate_left; (rintro _ w2 ⟨x, hx, _⟩; rw [hpk] at hx; cases hx); clear hs; rintro _ w2 ⟨er2, hx, rfl, hs⟩; rw [hpk] at hx; cases hx) | (refine LW_callX (cap := []) rfl rfl ent40 (number_call _ hs rb hx2 hcb (by omega)) ?_ ?_; rotate_left; (rintro _ w2 ⟨x, hx, _⟩; rw [hw] at hx; cases hx); clear hs; rintro _ w2 ⟨er2, hx, rfl, m1, m2, hs⟩; rw [hw] at hx; cases hx)) | (refine isLbin ?_; first | (refine LW_cmp rfl (fun _ => ?_) (fun _ => ?_) <;> try (exfalso; omega))) | refine LW_pure TOK rfl ?_ | refine LW_build TOK rfl rfl rfl rfl rfl rfl ?_) | (with_reducible first | refine then_n ?_ | refine CW_seq ?_ | refine CW_region ?_ | refine CW_block ?_ | refine CW_ret ?_ | refine then_r ?_ | refine blk_r ?_) | refine RX_of (RETA 1 hs TOK Tryd.results26 rfl rfl rfl rfl rfl ?_) | refine CW_true rfl ?_ | refine CW_false rfl ?_))
      all_goals exact ⟨_, rfl, .mk 2 n [] none 0 [] none 0 [], rfl, rfl, m1, m2, leaf_rows (hs.picks [1]).drop1 2 n []⟩
  rw [if_neg c45]
  (repeat' (first | (refine isLW ?_; first | refine LW_nil ?_ | (refine isLg ?_; first | refine LW_take rfl ?_ | refine LW_pass rfl rfl ?_) | (refine isLload ?_; first | refine LW_loadC 0 TOK hs rfl rfl rfl rfl rfl ?_) | (refine isLcall ?_; first | (refine LW_callX (cap := []) rfl rfl ent35 (peek_call _ hs rb hp hb2) ?_ ?_; rotate_left; (rintro _ w2 ⟨x, hx, _⟩; rw [hpk] at hx; cases hx); clear hs; rintro _ w2 ⟨er2, hx, rfl, hs⟩; rw [hpk] at hx; cases hx) | (refine LW_callX (cap := []) rfl rfl ent27 (fail_call _ _ _ p) (fun _ _ h => h.elim) ?_; rintro _ w2 ⟨rfl, rfl⟩)) | (refine isLbin ?_; first | (refine LW_cmp rfl (fun _ => ?_) (fun _ => ?_) <;> try (exfalso; omega))) | refine LW_pure TOK rfl ?_) | (with_reducible first | refine then_n ?_ | refine CW_seq ?_ | refine CW_region ?_ | refine CW_block ?_ | refine CW_skip ?_ | refine blk_n ?_ | refine then_p ?_) | refine CW_false rfl ?_ | refine RXP ?_))
  all_goals exact ⟨_, rfl, rfl, hs.drop1.drop1⟩
theorem valC_all (hU : Lib.Utf8Tabs 1 2 W) (rb : Rd eB W B b) (hb : b.length ≤ 16777216) (hcb : b.length ≤ c) : ∀ k, ValC W b B c br k
  | 0 => fun _ _ _ _ h => absurd h (Nat.lt_irrefl 0)
  | k + 1 => value_call hU rb hb hcb k (valC_all hU rb hb hcb k)
end
end Go.Proofs.YtbmeafeojcgndaaDoor
