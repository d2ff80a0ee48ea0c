/- Walks of the reference's reader: a list opened, a number put in, a comma. -/
import Derived.Test.YtbmeafeojcgndaaDoorV45
set_option linter.unusedVariables false
set_option linter.unusedSimpArgs false
namespace Go.Proofs.YtbmeafeojcgndaaDoor
open Go Go.Sl Go.RowKit
set_option maxRecDepth 100000
attribute [local irreducible] CW LW DW FR DP Calls Res Ret
/-- An open list, as it lies. -/
inductive OV where
  | mk (A : Option Addr) (c : Nat) (xs : List RV)
instance : Inhabited OV := ⟨.mk none 0 []⟩
def eO : OV → List Value
  | .mk A c xs => [.bool false, .slice none 0 0, .slice A xs.length c, sv [], .int .i64 0]
theorem eO_ok : (∀ x, (eO x).length = 5) ∧ ∀ x, ∀ u ∈ eO x, u.oneCell' = true := ⟨fun x => by cases x; rfl, fun x u h => by
  cases x
  simp [eO] at h
  rcases h with rfl | rfl | rfl | rfl | rfl <;> rfl⟩
section
variable {W : World} {L : List HProp} {b : List UInt8} {p st n c br pl : Nat} {S : Option Addr}
set_option maxHeartbeats 2000000 in
theorem opened_call (w : World) (hs : Sat W w (Cl br (eQ b p 0 none 0 0 0 pl) 93 :: L)) (hp : p ≤ 16777216) :
    Calls Tryd.prog 92 [Value.pointer (some ⟨br, 0, none⟩), .bool false].toArray w (Ret fun v w' => ∃ S c, Sat W w' (Cl br (eQ b (p + 1) 1 S 1 c 0 pl) 93 :: RowOf eO 121 5 S c [.mk none 0 []] :: L)) := by
  refine Calls_of Tryd.func92 rfl 41 Tryd.ntmps92 rfl ?_
  unfold eQ at hs ⊢
  replace hs : Sat W w (Cl br [sv b, .int .i64 p, .int .i64 (0 : Nat), .slice none 0 0, .int .i64 0, .int .i64 0, sv [], .slice none 0 0, .slice none 0 0, .int .i64 0, .int .i64 pl] 93 :: RowOf eO 121 5 none 0 [] :: L) := (hs.nilRow 121 5).picks [1]
  (repeat' (first | (refine isLW ?_; first | refine LW_nil ?_ | (refine isLload ?_; first | refine LW_loadC 0 TOK hs rfl rfl rfl rfl rfl ?_) | (refine isLstore ?_; first | (refine LW_storeC 0 TOK hs rfl rfl rfl rfl rfl rfl rfl ?_; clear hs; intro w hs)) | (refine isLcall ?_; first | (refine LW_append1 1 (xs := []) (z := OV.mk none 0 []) eO_ok hs TOK rfl rfl rfl rfl rfl rfl rfl rfl rfl rfl (by unfold maxLen; simp) (by simp) ?_; clear hs; intro S c w hs) | refine LW_pure TOK rfl ?_) | (refine isLbin ?_; first | refine LW_i64 rfl (by omega) (by omega) ?_ | (refine LW_cmp rfl (fun _ => ?_) (fun _ => ?_) <;> try (exfalso; omega))) | refine LW_pure TOK rfl ?_ | (refine LW_buildSlice TOK hs rfl rfl rfl rfl rfl rfl rfl ?_; clear hs; intro _ w hs) | refine LW_build TOK rfl rfl rfl rfl rfl rfl ?_) | (with_reducible first | refine then_n ?_ | refine CW_seq ?_ | refine CW_region ?_ | refine CW_skip ?_) | refine CW_false rfl ?_ | refine RET0 Tryd.results92 ?_))
  exact ⟨S, c, hs⟩
set_option maxHeartbeats 2000000 in
theorem after_call (w : World) (o : OV) (hs : Sat W w (Cl br (eQ b p 5 S 1 c 0 pl) 93 :: RowOf eO 121 5 S c [o] :: L)) (hp : p ≤ 16777216) :
    Calls Tryd.prog 77 [Value.pointer (some ⟨br, 0, none⟩), .int .u8 44].toArray w (Ret fun v w' => Sat W w' (Cl br (eQ b (p + 1) 0 S 1 c 0 pl) 93 :: RowOf eO 121 5 S c [o] :: L)) := by
  refine Calls_of Tryd.func77 rfl 69 Tryd.ntmps77 rfl ?_
  unfold eQ at hs ⊢
  obtain ⟨A, ca, xs⟩ := o
  have hl : ([OV.mk A ca xs] : List OV).length = 1 := rfl
  (repeat' (first | refine DP_loadRowA (hs.rd 1 rfl) eO_ok.1 TOK rfl rfl trivial rfl (by assumption) rfl rfl rfl (by omega) (by omega) rfl ?_ ?_ | refine Inv.keepRA (hs.rd 1 rfl) eO_ok.1 (by assumption) (by omega) (by omega) rfl ?_ | refine Inv.keepRA (hs.rd 2 rfl) eO_ok.1 (by assumption) (by omega) (by omega) rfl ?_ | (refine isLW ?_; first | refine LW_nil ?_ | (refine isLg ?_; first | refine LW_take rfl ?_) | (refine isLload ?_; first | refine LW_loadC 0 TOK hs rfl rfl rfl rfl rfl ?_ | refine LW_loadC 1 TOK hs rfl rfl rfl rfl rfl ?_) | (refine isLstore ?_; first | (refine LW_storeCA 0 TOK hs rfl rfl rfl rfl rfl (eO_ok.2 (.mk A ca xs)) rfl (Nat.le_of_ble_eq_true rfl) ?_; clear hs; intro w hs) | (refine LW_storeC 1 TOK hs rfl rfl rfl rfl rfl rfl rfl ?_; clear hs; intro w hs)) | (refine isLbin ?_; first | refine LW_i64 rfl (by omega) (by omega) ?_ | (refine LW_cmp rfl (fun _ => ?_) (fun _ => ?_) <;> try (exfalso; omega))) | refine LW_pure TOK rfl ?_ | (refine LW_alloc TOK hs rfl rfl ?_; clear hs; intro _ w hs)) | (refine isDP ?_; first | (refine isDnil ?_; first | refine DP_end ?_ ?_) | (refine isDe rfl ?_; first | refine DP_eff rfl rfl ?_ ?_) | (refine isDload rfl ?_; first | refine DP_loadC 0 hs TOK rfl rfl (by first | exact trivial | rfl) rfl rfl rfl rfl rfl ?_ ?_) | (refine isDidx rfl ?_; first | (refine DP_indexRd (hs.rd 1 rfl) TOK rfl rfl (by first | exact trivial | rfl) rfl rfl rfl rfl rfl (by omega) (by omega) ?_; intro _ _ _)) | (refine isDbin rfl ?_; first | refine DP_i64 rfl rfl (by first | exact trivial | rfl) rfl (by omega) (by omega) ?_) | refine DP_pure TOK rfl rfl (by first | exact trivial | rfl) rfl ?_) | (refine isI0 ?_; exact Inv.nil) | (refine isI1 ?_; first | refine Inv.keepC 0 hs rfl rfl ?_ | refine Inv.keepC 1 hs rfl rfl ?_) | (with_reducible first | refine then_n ?_ | refine CW_seq ?_ | refine CW_region ?_ | refine CW_block ?_ | refine blk_n ?_) | refine CW_true rfl ?_ | refine CW_false rfl ?_ | (refine CW_drawP (id := 0) [12, 13] [0, 1, 2, 3, 4, 5, 6, 7, 8, 9, 10, 11, 12, 13] mixed (by kernel_rfl) hs ?_; clear hs; intro hs) | refine RET0 Tryd.results77 ?_))
  exact hs.drop1
set_option maxHeartbeats 4000000 in
theorem put_call (w : World) (v : Int) (hs : Sat W w (Cl br (eQ b p 1 S 1 c 0 pl) 93 :: RowOf eO 121 5 S c [.mk none 0 []] :: L)) :
    Calls Tryd.prog 90 [Value.pointer (some ⟨br, 0, none⟩), .agg #[.int .i64 2, .int .i64 v, sv [], .slice none 0 0, .slice none 0 0]].toArray w (Ret fun u w' => ∃ o r, Sat W w' (Cl br (eQ b p 5 S 1 c 0 pl) 93 :: RowOf eO 121 5 S c [o] :: r :: L)) := by
  refine Calls_of Tryd.func90 rfl 62 Tryd.ntmps90 rfl ?_
  unfold eQ at hs ⊢
  have hl : ([OV.mk none 0 []] : List OV).length = 1 := rfl
  replace hs : Sat W w (Cl br [sv b, .int .i64 p, .int .i64 (1 : Nat), .slice S (1 : Nat) c, .int .i64 0, .int .i64 0, sv [], .slice none 0 0, .slice none 0 0, .int .i64 0, .int .i64 pl] 93 :: RowOf eO 121 5 S c [.mk none 0 []] :: RowOf eV 31 5 none 0 [] :: L) := (hs.nilRow 31 5).picks [1, 1]
  (repeat' (first | refine Inv.keepO 0 hs rfl ?_ | (refine isLW ?_; first | refine LW_nil ?_ | (refine isLload ?_; first | (refine LW_loadRdA (hs.rd 2 rfl) eO_ok.1 (i := 0) TOK rfl (by assumption) rfl rfl rfl (by omega) (by omega) rfl ?_) | refine LW_loadCAE 1 [.int .i64 2, .int .i64 v, sv [], .slice none 0 0, .slice none 0 0] TOK hs rfl rfl rfl rfl (Nat.le_of_ble_eq_true rfl) rfl ?_ | refine LW_loadC 0 TOK hs rfl rfl rfl rfl rfl ?_ | refine LW_loadC 1 TOK hs rfl rfl rfl rfl rfl ?_) | (refine isLstore ?_; first | (refine LW_storeCA 0 TOK hs rfl rfl rfl rfl rfl (eO_ok.2 (.mk none 0 [])) rfl (Nat.le_of_ble_eq_true rfl) ?_; clear hs; intro w hs) | (refine LW_storeRow 3 eO_ok (z := OV.mk A2 c2 [.mk 2 v [] none 0 [] none 0 []]) hs TOK rfl (by assumption) rfl rfl rfl rfl rfl (by omega) (by omega) ?_; clear hs; intro w hs) | (refine LW_storeC 0 TOK hs rfl rfl rfl rfl rfl rfl rfl ?_; clear hs; intro w hs) | (refine LW_storeC 2 TOK hs rfl rfl rfl rfl rfl rfl rfl ?_; clear hs; intro w hs)) | (refine isLcall ?_; first | (refine LW_append1 4 (xs := []) (z := .mk 2 v [] none 0 [] none 0 []) eV_ok hs TOK rfl rfl rfl rfl rfl rfl rfl rfl rfl rfl (by unfold maxLen; simp) (by simp) ?_; clear hs; intro A2 c2 w hs) | refine LW_pure TOK rfl ?_) | (refine isLidx ?_; first | (refine LW_indexRdN (hs.rd 2 rfl) (i := 0) TOK rfl rfl rfl rfl rfl (by omega) (by omega) (by omega) ?_; intro _ _ _)) | (refine isLbin ?_; first | refine LW_i64 rfl (by omega) (by omega) ?_ | (refine LW_cmp rfl (fun _ => ?_) (fun _ => ?_) <;> try (exfalso; omega))) | refine LW_pure TOK rfl ?_ | (refine LW_box hs rfl rfl ?_; clear hs; intro _ w hs) | (refine LW_alloc TOK hs rfl rfl ?_; clear hs; intro _ w hs) | (refine LW_buildSlice TOK hs rfl rfl rfl rfl rfl rfl rfl ?_; clear hs; intro _ w hs)) | (refine isDP ?_; first | (refine isDnil ?_; first | refine DP_end ?_ ?_) | (refine isDe rfl ?_; first | refine DP_eff rfl rfl ?_ ?_) | (refine isDload rfl ?_; first | refine DP_loadCA 0 [.bool false, .slice none 0 0, .slice A2 ([RV.mk 2 v [] none 0 [] none 0 []] : List RV).length c2, sv [], .int .i64 0] hs TOK rfl rfl trivial rfl rfl rfl rfl (Nat.le_of_ble_eq_true rfl) rfl ?_ ?_ | refine DP_loadC 2 hs TOK rfl rfl (by first | exact trivial | rfl) rfl rfl rfl rfl rfl ?_ ?_) | (refine isDidx rfl ?_; first | (refine DP_indexRd (hs.rd 3 rfl) TOK rfl rfl (by first | exact trivial | rfl) rfl rfl rfl rfl rfl (by omega) (by omega) ?_; intro _ _ _)) | (refine isDbin rfl ?_; first | refine DP_i64 rfl rfl (by first | exact trivial | rfl) rfl (by omega) (by omega) ?_) | refine DP_pure TOK rfl rfl (by first | exact trivial | rfl) rfl ?_) | (refine isI0 ?_; exact Inv.nil) | (refine isI1 ?_; first | refine Inv.keepC 2 hs rfl rfl ?_) | (with_reducible first | refine then_n ?_ | refine CW_seq ?_ | refine CW_region ?_ | refine CW_skip ?_) | refine CW_false rfl ?_ | (refine CW_drawP (id := 10) [8] [0, 1, 2, 3, 4, 5, 6, 7, 8] mixed (by kernel_rfl) hs ?_; clear hs; intro hs) | refine RET0 Tryd.results90 ?_))
  exact ⟨.mk A2 c2 [.mk 2 v [] none 0 [] none 0 []], _, hs.drop1.drop1⟩
end
end Go.Proofs.YtbmeafeojcgndaaDoor

/- Walks of the reference's reader: a value begun, a step. -/
set_option linter.unusedVariables false
set_option linter.unusedSimpArgs false
namespace Go.Proofs.YtbmeafeojcgndaaDoor
open Go Go.Sl Go.RowKit
set_option maxRecDepth 100000
attribute [local irreducible] CW LW DW FR DP Calls Res Ret
def NumC (x : UInt8) : Prop := x.toNat = 45 ∨ 48 ≤ x.toNat ∧ x.toNat ≤ 57
section
variable {W : World} {L : List HProp} {b : List UInt8} {p st n c br pl : Nat} {S : Option Addr}
set_option maxHeartbeats 2000000 in
theorem begin_err (w : World) (x : UInt8) (v e : Int) (q : Nat) (hx : NumC x) (hN : NumS b p v e q) (he : e ≠ 0) (hs : Sat W w (Cl br (eQ b p st S n c 0 pl) 93 :: L)) (hp : p ≤ b.length) (hb : b.length ≤ 16777216) :
    Calls Tryd.prog 80 [Value.pointer (some ⟨br, 0, none⟩), .int .u8 (x.toNat : Int)].toArray w (Ret fun _ w' => Sat W w' (Cl br (eQ b q st S n c e p) 93 :: L)) := by
  refine Calls_of Tryd.func80 rfl 72 Tryd.ntmps80 rfl ?_
  rcases hx with hx | hx
  · (repeat' (first | (refine isLW ?_; first | refine LW_nil ?_ | (refine isLg ?_; first | refine LW_pass rfl rfl ?_) | (refine isLload ?_; first | refine LW_loadC 0 TOK hs rfl rfl rfl rfl rfl ?_) | (refine isLcall ?_; first | (refine LW_call (cap := []) rfl rfl ent95 (rnumber_call _ v e q hN hs hp hb) ?_; clear hs; rintro _ w2 ⟨rfl, hs⟩; rw [if_neg he] at hs; unfold eQ at hs)) | (refine isLbin ?_; first | (refine LW_cmp rfl (fun _ => ?_) (fun _ => ?_) <;> try (exfalso; omega))) | refine LW_pure TOK rfl ?_) | (with_reducible first | refine then_n ?_ | refine CW_seq ?_ | refine CW_region ?_ | refine CW_block ?_ | refine CW_skip ?_ | refine blk_n ?_) | refine CW_true rfl ?_ | refine CW_false rfl ?_ | refine RET0 Tryd.results80 ?_))
    exact hs
  · (repeat' (first | (refine isLW ?_; first | refine LW_nil ?_ | (refine isLg ?_; first | refine LW_take rfl ?_) | (refine isLload ?_; first | refine LW_loadC 0 TOK hs rfl rfl rfl rfl rfl ?_) | (refine isLcall ?_; first | (refine LW_call (cap := []) rfl rfl ent94 (in_call _ x.toNat 48 57) ?_; rintro _ w2 ⟨rfl, rfl⟩; rw [decide_eq_true hx]) | (refine LW_call (cap := []) rfl rfl ent95 (rnumber_call _ v e q hN hs hp hb) ?_; clear hs; rintro _ w2 ⟨rfl, hs⟩; rw [if_neg he] at hs; unfold eQ at hs)) | (refine isLbin ?_; first | (refine LW_cmp rfl (fun _ => ?_) (fun _ => ?_) <;> try (exfalso; omega))) | refine LW_pure TOK rfl ?_) | (with_reducible first | refine then_n ?_ | refine CW_seq ?_ | refine CW_region ?_ | refine CW_block ?_ | refine CW_skip ?_ | refine blk_n ?_) | refine CW_true rfl ?_ | refine CW_false rfl ?_ | refine RET0 Tryd.results80 ?_))
    exact hs
set_option maxHeartbeats 2000000 in
theorem begin_put (w : World) (x : UInt8) (v : Int) (q : Nat) (hx : 48 ≤ x.toNat ∧ x.toNat ≤ 57) (hN : NumS b p v 0 q) (hs : Sat W w (Cl br (eQ b p 1 S 1 c 0 pl) 93 :: RowOf eO 121 5 S c [.mk none 0 []] :: L)) (hp : p ≤ b.length) (hb : b.length ≤ 16777216) :
    Calls Tryd.prog 80 [Value.pointer (some ⟨br, 0, none⟩), .int .u8 (x.toNat : Int)].toArray w (Ret fun _ w' => ∃ o r, Sat W w' (Cl br (eQ b q 5 S 1 c 0 pl) 93 :: RowOf eO 121 5 S c [o] :: r :: L)) := by
  refine Calls_of Tryd.func80 rfl 72 Tryd.ntmps80 rfl ?_
  (repeat' (first | (refine isLW ?_; first | refine LW_nil ?_ | (refine isLg ?_; first | refine LW_take rfl ?_) | (refine isLload ?_; first | refine LW_loadC 0 TOK hs rfl rfl rfl rfl rfl ?_) | (refine isLcall ?_; first | (refine LW_call (cap := []) rfl rfl ent94 (in_call _ x.toNat 48 57) ?_; rintro _ w2 ⟨rfl, rfl⟩; rw [decide_eq_true hx]) | (refine LW_call (cap := []) rfl rfl ent95 (rnumber_call _ v 0 q hN hs hp hb) ?_; clear hs; rintro _ w2 ⟨rfl, hs⟩; rw [if_pos rfl] at hs; unfold eQ at hs) | (refine LW_call (cap := []) rfl rfl ent90 (put_call _ v hs) ?_; clear hs; rintro _ w2 ⟨o, r, hs⟩)) | (refine isLbin ?_; first | (refine LW_cmp rfl (fun _ => ?_) (fun _ => ?_) <;> try (exfalso; omega))) | refine LW_pure TOK rfl ?_ | refine LW_build TOK rfl rfl rfl rfl rfl rfl ?_) | (with_reducible first | refine then_n ?_ | refine CW_seq ?_ | refine CW_region ?_ | refine CW_block ?_ | refine blk_n ?_) | refine CW_true rfl ?_ | refine CW_false rfl ?_ | refine RET0 Tryd.results80 ?_))
  exact ⟨o, r, hs⟩
set_option maxHeartbeats 2000000 in
theorem begin_list (w : World) (hs : Sat W w (Cl br (eQ b p 0 none 0 0 0 pl) 93 :: L)) (hp : p ≤ 16777216) :
    Calls Tryd.prog 80 [Value.pointer (some ⟨br, 0, none⟩), .int .u8 91].toArray w (Ret fun v w' => ∃ S c, Sat W w' (Cl br (eQ b (p + 1) 1 S 1 c 0 pl) 93 :: RowOf eO 121 5 S c [.mk none 0 []] :: L)) := by
  refine Calls_of Tryd.func80 rfl 72 Tryd.ntmps80 rfl ?_
  (repeat' (first | (refine isLW ?_; first | refine LW_nil ?_ | (refine isLcall ?_; first | (refine LW_call (cap := []) rfl rfl ent92 (opened_call _ hs hp) ?_; clear hs; rintro _ w2 ⟨S, c, hs⟩)) | (refine isLbin ?_; first | (refine LW_cmp rfl (fun _ => ?_) (fun _ => ?_) <;> try (exfalso; omega))) | refine LW_pure TOK rfl ?_) | (with_reducible first | refine then_n ?_ | refine CW_seq ?_ | refine CW_region ?_ | refine CW_block ?_ | refine blk_n ?_) | refine CW_true rfl ?_ | refine RET0 Tryd.results80 ?_))
  exact ⟨S, c, hs⟩
set_option maxHeartbeats 2000000 in
/-- A step at the begin of a value. -/
theorem step_begin (w : World) (x : UInt8) (R : World → Prop) (hst : st = 0 ∨ st = 1) (hx : b[p]? = some x) (h93 : x.toNat ≠ 93) (hs : Sat W w (Cl br (eQ b p st S n c 0 pl) 93 :: L)) (hb : b.length ≤ 16777216)
    (hc : ∀ w, Sat W w (Cl br (eQ b p st S n c 0 pl) 93 :: L) → Calls Tryd.prog 80 [Value.pointer (some ⟨br, 0, none⟩), .int .u8 (x.toNat : Int)].toArray w (Ret fun _ w' => R w')) :
    Calls Tryd.prog 63 [Value.pointer (some ⟨br, 0, none⟩)].toArray w (Ret fun _ w' => R w') := by
  refine Calls_of Tryd.func63 rfl 117 Tryd.ntmps63 rfl ?_
  have hlt : p < b.length := by
    rcases Nat.lt_or_ge p b.length with h1 | h1
    · exact h1
    · rw [List.getElem?_eq_none h1] at hx; cases hx
  have e1 := get_rd hlt
  rw [hx] at e1
  injection e1 with e1
  unfold eQ at hs
  rcases hst with rfl | rfl
  · (repeat' (first | (refine isLW ?_; first | refine LW_nil ?_ | (refine isLg ?_; first | refine LW_take rfl ?_ | refine LW_pass rfl rfl ?_) | (refine isLload ?_; first | refine LW_loadC 0 TOK hs rfl rfl rfl rfl rfl ?_) | (refine isLcall ?_; first | (refine LW_call (cap := []) rfl rfl ent80 (hc _ hs) ?_; clear hs; rintro _ w2 hR)) | (refine isLbin ?_; first | (refine LW_cmp rfl (fun _ => ?_) (fun _ => ?_) <;> try (exfalso; omega))) | refine LW_pure TOK rfl ?_) | (refine isDP ?_; first | (refine isDnil ?_; first | refine DP_end ?_ ?_) | (refine isDload rfl ?_; first | refine DP_loadC 0 hs TOK rfl rfl (by first | exact trivial | rfl) rfl rfl rfl rfl rfl ?_ ?_) | (refine DP_strIdx (a := b) TOK rfl rfl trivial rfl rfl rfl rfl rfl (by omega) (by omega) ?_; rw [← e1]) | refine DP_pure TOK rfl rfl (by first | exact trivial | rfl) rfl ?_) | (refine isI0 ?_; exact Inv.nil) | (refine isI1 ?_; first | refine Inv.keepC 0 hs rfl rfl ?_) | (with_reducible first | refine then_n ?_ | refine CW_seq ?_ | refine CW_region ?_ | refine CW_block ?_ | refine blk_n ?_) | refine CW_true rfl ?_ | refine CW_false rfl ?_ | (refine CW_drawP (id := 0) [] [0, 1, 2, 3, 4, 5, 6, 7, 8, 9] mixed (by kernel_rfl) hs ?_; clear hs; intro hs) | refine RET0 Tryd.results63 ?_))
    exact hR
  · (repeat' (first | (refine isLW ?_; first | refine LW_nil ?_ | (refine isLg ?_; first | refine LW_take rfl ?_ | refine LW_pass rfl rfl ?_) | (refine isLload ?_; first | refine LW_loadC 0 TOK hs rfl rfl rfl rfl rfl ?_) | (refine isLcall ?_; first | (refine LW_call (cap := []) rfl rfl ent80 (hc _ hs) ?_; clear hs; rintro _ w2 hR)) | (refine isLbin ?_; first | (refine LW_cmp rfl (fun _ => ?_) (fun _ => ?_) <;> try (exfalso; omega))) | refine LW_pure TOK rfl ?_) | (refine isDP ?_; first | (refine isDnil ?_; first | refine DP_end ?_ ?_) | (refine isDload rfl ?_; first | refine DP_loadC 0 hs TOK rfl rfl (by first | exact trivial | rfl) rfl rfl rfl rfl rfl ?_ ?_) | (refine DP_strIdx (a := b) TOK rfl rfl trivial rfl rfl rfl rfl rfl (by omega) (by omega) ?_; rw [← e1]) | refine DP_pure TOK rfl rfl (by first | exact trivial | rfl) rfl ?_) | (refine isI0 ?_; exact Inv.nil) | (refine isI1 ?_; first | refine Inv.keepC 0 hs rfl rfl ?_) | (with_reducible first | refine then_n ?_ | refine CW_seq ?_ | refine CW_region ?_ | refine CW_block ?_ | refine blk_n ?_) | refine CW_true rfl ?_ | refine CW_false rfl ?_ | (refine CW_drawP (id := 0) [] [0, 1, 2, 3, 4, 5, 6, 7, 8, 9] mixed (by kernel_rfl) hs ?_; clear hs; intro hs) | refine RET0 Tryd.results63 ?_))
    exact hR
set_option maxHeartbeats 2000000 in
theorem step_comma (w : World) (o : OV) (hx : b[p]? = some 44) (hs : Sat W w (Cl br (eQ b p 5 S 1 c 0 pl) 93 :: RowOf eO 121 5 S c [o] :: L)) (hb : b.length ≤ 16777216) :
    Calls Tryd.prog 63 [Value.pointer (some ⟨br, 0, none⟩)].toArray w (Ret fun _ w' => Sat W w' (Cl br (eQ b (p + 1) 0 S 1 c 0 pl) 93 :: RowOf eO 121 5 S c [o] :: L)) := by
  refine Calls_of Tryd.func63 rfl 117 Tryd.ntmps63 rfl ?_
  have hlt : p < b.length := by
    rcases Nat.lt_or_ge p b.length with h1 | h1
    · exact h1
    · rw [List.getElem?_eq_none h1] at hx; cases hx
  have e1 := get_rd hlt
  rw [hx] at e1
  injection e1 with e1
  unfold eQ at hs
  (repeat' (first | (refine isLW ?_; first | refine LW_nil ?_ | (refine isLload ?_; first | refine LW_loadC 0 TOK hs rfl rfl rfl rfl rfl ?_) | (refine isLcall ?_; first | (refine LW_call (cap := []) rfl rfl ent77 (after_call _ o hs (by omega)) ?_; clear hs; rintro _ w2 hs)) | (refine isLbin ?_; first | (refine LW_cmp rfl (fun _ => ?_) (fun _ => ?_) <;> try (exfalso; omega))) | refine LW_pure TOK rfl ?_) | (refine isDP ?_; first | (refine isDnil ?_; first | refine DP_end ?_ ?_) | (refine isDload rfl ?_; first | refine DP_loadC 0 hs TOK rfl rfl (by first | exact trivial | rfl) rfl rfl rfl rfl rfl ?_ ?_) | (refine DP_strIdx (a := b) TOK rfl rfl trivial rfl rfl rfl rfl rfl (by omega) (by omega) ?_; rw [← e1]) | refine DP_pure TOK rfl rfl (by first | exact trivial | rfl) rfl ?_) | (refine isI0 ?_; exact Inv.nil) | (refine isI1 ?_; first | refine Inv.keepC 0 hs rfl rfl ?_) | (with_reducible first | refine then_n ?_ | refine CW_seq ?_ | refine CW_region ?_ | refine CW_block ?_ | refine blk_n ?_) | refine CW_true rfl ?_ | refine CW_false rfl ?_ | (refine CW_drawP (id := 0) [] [0, 1, 2, 3, 4, 5, 6, 7, 8, 9] mixed (by kernel_rfl) hs ?_; clear hs; intro hs) | refine RET0 Tryd.results63 ?_))
  exact hs
end
end Go.Proofs.YtbmeafeojcgndaaDoor
