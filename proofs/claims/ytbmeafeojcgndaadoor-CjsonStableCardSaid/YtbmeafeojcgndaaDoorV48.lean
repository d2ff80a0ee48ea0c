/- Walks of the reference's reader: texts that it refuses for their numbers. -/
import Derived.Test.YtbmeafeojcgndaaDoorV47
import Derived.Test.YtbmeafeojcgndaaDoorV39
set_option linter.unusedVariables false
set_option linter.unusedSimpArgs false
namespace Go.Proofs.YtbmeafeojcgndaaDoor
open Go Go.Sl Go.RowKit
set_option maxRecDepth 100000
attribute [local irreducible] CW LW DW FR DP Calls Res Ret
/-- How the reader comes to a number that it refuses: at once; or in a list, behind a number and a comma. -/
structure Ref1 (b : List UInt8) (e : Int) (p : Nat) where
  (x : UInt8) (v : Int) (q : Nat)
  hx : b[p]? = some x
  hc : NumC x
  hN : NumS b p v e q
  he : e ≠ 0
structure RefN (b : List UInt8) (e : Int) (p : Nat) where
  (x : UInt8) (v : Int) (q : Nat)
  h0 : b[0]? = some 91
  h1 : b[1]? = some x
  hx : 48 ≤ x.toNat ∧ x.toNat ≤ 57
  hN : NumS b 1 v 0 q
  hq : b[q]? = some 44
  hp : blanksM b (q + 1) = p
  hl : Ref1 b e p
theorem lt_of_some {b : List UInt8} {p : Nat} {x : UInt8} (hx : b[p]? = some x) : p < b.length := by
  rcases Nat.lt_or_ge p b.length with h1 | h1
  · exact h1
  · rw [List.getElem?_eq_none h1] at hx; cases hx
theorem blanks_at {b : List UInt8} {p : Nat} {x : UInt8} (hx : b[p]? = some x) (hb : blank x = false) : blanksM b p = p := blanks_no (by rw [hx]; exact hb)
theorem blank_num {x : UInt8} (h : NumC x) : blank x = false := by
  have : blank x = true → x.toNat = 32 ∨ x.toNat = 9 ∨ x.toNat = 10 ∨ x.toNat = 13 := by
    unfold blank
    simp only [Bool.or_eq_true, beq_iff_eq, ← UInt8.toNat_inj]
    rintro (((h | h) | h) | h)
    · exact .inl h
    · exact .inr (.inl h)
    · exact .inr (.inr (.inl h))
    · exact .inr (.inr (.inr h))
  rw [Bool.eq_false_iff]
  intro hb
  have := this hb
  unfold NumC at h
  omega
section
variable {W : World} {b : List UInt8} {B : Option Addr} {c : Nat}
theorem num_ne {x : UInt8} (h : NumC x) : x.toNat ≠ 93 := by unfold NumC at h; omega
set_option maxHeartbeats 4000000 in
theorem rloose1_call (e : Int) (hR : Ref1 b e 0) (rb : Rd eB W B b) (hb : b.length ≤ 16777216) :
    Calls Tryd.prog 44 [Value.slice B b.length c].toArray W (Ret fun v w' => v = .tuple #[.agg #[.int .i64 0, .int .i64 0, sv [], .slice none 0 0, .slice none 0 0], .int .i64 e, .int .i64 (0 : Nat)] ∧ Sat W w' []) := by
  obtain ⟨x, v, q, hx, hc, hN, he⟩ := hR
  have hlt := lt_of_some hx
  have hbl := blanks_at hx (blank_num hc)
  have hb2 : b.length ≤ 140737488355328 := by omega
  have hs := Sat.start W
  refine Calls_of Tryd.func44 rfl 66 Tryd.ntmps44 rfl ?_
  (repeat' (first | (refine isLW ?_; first | refine LW_nil ?_ | (refine isLcall ?_; first | refine LW_pure TOK rfl ?_) | (refine isLbin ?_; first | (refine LW_cmp rfl (fun _ => ?_) (fun _ => ?_) <;> try (exfalso; omega))) | refine LW_strRd (xs := b) TOK (rb.of hs) rfl rfl rfl rfl rfl rfl rfl rfl ?_ | refine LW_pure TOK rfl ?_ | (refine LW_box hs rfl rfl ?_; clear hs; intro _ w hs) | (refine LW_alloc TOK hs rfl rfl ?_; clear hs; intro _ w hs) | refine LW_build TOK rfl rfl rfl rfl rfl rfl ?_) | (with_reducible first | refine then_n ?_ | refine CW_seq ?_ | refine CW_region ?_ | refine CW_block ?_ | refine CW_skip ?_) | refine CW_false rfl ?_))
  rename_i b2 _ _ br
  refine CW_loop (γ := Unit) (fun g => [(0, .slice B b.length c), (2, .pointer (some ⟨b2, 0, none⟩)), (5, .pointer (some ⟨br, 0, none⟩))]) (fun g w' => Sat W w' (Cl br (eQ b 0 0 none 0 0 0 0) 93 :: Cl b2 [.int .i64 0, .int .i64 0, sv [], .slice none 0 0, .slice none 0 0] 31 :: [])) (fun g => 0) () ⟨rfl, rfl, rfl, trivial⟩ hs ?_
  clear hs
  rintro g τ w' hs
  (repeat' (first | refine DP_lenN (a := b) TOK rfl rfl (by first | exact trivial | rfl) rfl rfl rfl rfl rfl ?_ | refine DP_build TOK rfl rfl trivial rfl rfl rfl rfl rfl rfl ?_ | (refine isLW ?_; first | refine LW_nil ?_ | (refine isLload ?_; first | refine LW_loadC 0 TOK hs rfl rfl rfl rfl rfl ?_) | (refine isLstore ?_; first | (refine LW_storeCA 1 TOK hs rfl rfl rfl rfl rfl (oneV _ _ _ _ _ _ _ _ _) rfl (Nat.le_of_ble_eq_true rfl) ?_; clear hs; intro w hs)) | (refine isLcall ?_; first | (refine LW_call (cap := []) rfl rfl ent62 (rblanks_call _ hs (by omega) hb2) ?_; clear hs; rintro _ w2 hs; rw [hbl] at hs; unfold eQ at hs) | (refine LW_call (cap := []) rfl rfl ent63 (step_begin _ x _ (.inl rfl) hx (num_ne hc) hs hb (fun w hs => begin_err w x v e q hc hN he hs (by omega) hb)) ?_; clear hs; rintro _ w2 hs; unfold eQ at hs)) | (refine isLbin ?_; first | (refine LW_cmp rfl (fun _ => ?_) (fun _ => ?_) <;> try (exfalso; omega))) | refine LW_pure TOK rfl ?_) | (refine isDP ?_; first | (refine isDnil ?_; first | refine DP_end ?_ ?_) | (refine isDe rfl ?_; first | refine DP_eff rfl rfl ?_ ?_) | (refine isDg rfl ?_; first | refine DP_pass rfl rfl rfl rfl ?_) | (refine isDload rfl ?_; first | refine DP_loadC 0 hs TOK rfl rfl (by first | exact trivial | rfl) rfl rfl rfl rfl rfl ?_ ?_) | (refine isDbin rfl ?_; first | (refine DP_cmp rfl rfl (by first | exact trivial | rfl) rfl (fun _ => ?_) (fun _ => ?_) <;> try (exfalso; omega))) | refine DP_pure TOK rfl rfl (by first | exact trivial | rfl) rfl ?_) | (refine isI0 ?_; exact Inv.nil) | (refine isI1 ?_; first | refine Inv.keepC 0 hs rfl rfl ?_) | (with_reducible first | refine then_n ?_ | refine CW_seq ?_ | refine CW_region ?_ | refine CW_block ?_ | refine CW_skip ?_ | refine CW_ret ?_ | refine then_r ?_ | refine blk_r ?_) | refine RETA3 1 hs TOK Tryd.results44 rfl rfl rfl rfl rfl rfl rfl ?_ | refine CW_true rfl ?_ | refine CW_false rfl ?_ | (refine CW_drawP (id := 5) [] [0, 1, 2, 3, 4, 5, 6, 7, 8, 9, 10, 11, 12, 13, 14, 15, 16] mixed (by kernel_rfl) hs ?_; clear hs; intro hs) | (refine CW_drawP (id := 7) [] [0, 1, 2, 3, 4, 5, 6, 7, 8, 9] mixed (by kernel_rfl) hs ?_; clear hs; intro hs) | (refine CW_drawP (id := 11) [9] [0, 1, 2, 3, 4, 5, 6, 7, 8, 9, 10, 11] mixed (by kernel_rfl) hs ?_; clear hs; intro hs)))
  exact ⟨rfl, hs.firsts 0⟩
/-- What lies ahead of a round. -/
def Rnd (W : World) (b : List UInt8) (br q : Nat) (T : List HProp) (w : World) : Nat → Prop
  | 0 => Sat W w (Cl br (eQ b 0 0 none 0 0 0 0) 93 :: T)
  | 1 => ∃ S c, Sat W w (Cl br (eQ b 1 1 S 1 c 0 0) 93 :: RowOf eO 121 5 S c [.mk none 0 []] :: T)
  | 2 => ∃ S c o r, Sat W w (Cl br (eQ b q 5 S 1 c 0 0) 93 :: RowOf eO 121 5 S c [o] :: r :: T)
  | _ => ∃ S c o r, Sat W w (Cl br (eQ b (q + 1) 0 S 1 c 0 0) 93 :: RowOf eO 121 5 S c [o] :: r :: T)
set_option maxHeartbeats 4000000 in
theorem rloose4_call (e : Int) (p : Nat) (hR : RefN b e p) (rb : Rd eB W B b) (hb : b.length ≤ 16777216) :
    Calls Tryd.prog 44 [Value.slice B b.length c].toArray W (Ret fun v w' => v = .tuple #[.agg #[.int .i64 0, .int .i64 0, sv [], .slice none 0 0, .slice none 0 0], .int .i64 e, .int .i64 (p : Nat)] ∧ Sat W w' []) := by
  obtain ⟨x1, v1, q, h0, h1, hx1, hN1, hq, hpp, x, v, q2, hx, hc, hN, he⟩ := hR
  have hl0 := lt_of_some h0
  have hl1 := lt_of_some h1
  have hlq := lt_of_some hq
  have hlp := lt_of_some hx
  have hb0 := blanks_at h0 rfl
  have hb1 := blanks_at h1 (blank_num (.inr hx1))
  have hbq := blanks_at hq rfl
  have hb2 : b.length ≤ 140737488355328 := by omega
  have hs := Sat.start W
  refine Calls_of Tryd.func44 rfl 66 Tryd.ntmps44 rfl ?_
  (repeat' (first | (refine isLW ?_; first | refine LW_nil ?_ | (refine isLcall ?_; first | refine LW_pure TOK rfl ?_) | (refine isLbin ?_; first | (refine LW_cmp rfl (fun _ => ?_) (fun _ => ?_) <;> try (exfalso; omega))) | refine LW_strRd (xs := b) TOK (rb.of hs) rfl rfl rfl rfl rfl rfl rfl rfl ?_ | refine LW_pure TOK rfl ?_ | (refine LW_box hs rfl rfl ?_; clear hs; intro _ w hs) | (refine LW_alloc TOK hs rfl rfl ?_; clear hs; intro _ w hs) | refine LW_build TOK rfl rfl rfl rfl rfl rfl ?_) | (with_reducible first | refine then_n ?_ | refine CW_seq ?_ | refine CW_region ?_ | refine CW_block ?_ | refine CW_skip ?_) | refine CW_false rfl ?_))
  rename_i b2 _ _ br
  refine CW_loop (γ := Nat) (fun g => [(0, .slice B b.length c), (2, .pointer (some ⟨b2, 0, none⟩)), (5, .pointer (some ⟨br, 0, none⟩))]) (fun g w' => Rnd W b br q (Cl b2 [.int .i64 0, .int .i64 0, sv [], .slice none 0 0, .slice none 0 0] 31 :: []) w' g ∧ g ≤ 3) (fun g => 4 - g) 0 ⟨rfl, rfl, rfl, trivial⟩ ⟨hs, by omega⟩ ?_
  clear hs
  rintro g τ w' ⟨hs, hg⟩
  try dsimp only
  match g, hg, hs with
  | 0, _, hs =>
    replace hs : Sat W w' (Cl br (eQ b 0 0 none 0 0 0 0) 93 :: Cl b2 [.int .i64 0, .int .i64 0, sv [], .slice none 0 0, .slice none 0 0] 31 :: []) := hs
    (repeat' (first | refine DP_lenN (a := b) TOK rfl rfl (by first | exact trivial | rfl) rfl rfl rfl rfl rfl ?_ | (refine isLW ?_; first | refine LW_nil ?_ | (refine isLload ?_; first | refine LW_loadC 0 TOK hs rfl rfl rfl rfl rfl ?_) | (refine isLcall ?_; first | (refine LW_call (cap := []) rfl rfl ent62 (rblanks_call _ hs (by omega) hb2) ?_; clear hs; rintro _ w2 hs; rw [hb0] at hs; unfold eQ at hs) | (refine LW_call (cap := []) rfl rfl ent63 (step_begin _ 91 _ (.inl rfl) h0 (by decide) hs hb (fun w hs => begin_list w hs (by omega))) ?_; clear hs; rintro _ w2 ⟨S, cs, hs⟩; unfold eQ at hs)) | (refine isLbin ?_; first | (refine LW_cmp rfl (fun _ => ?_) (fun _ => ?_) <;> try (exfalso; omega))) | refine LW_pure TOK rfl ?_) | (refine isDP ?_; first | (refine isDnil ?_; first | refine DP_end ?_ ?_) | (refine isDg rfl ?_; first | refine DP_pass rfl rfl rfl rfl ?_) | (refine isDload rfl ?_; first | refine DP_loadC 0 hs TOK rfl rfl (by first | exact trivial | rfl) rfl rfl rfl rfl rfl ?_ ?_) | (refine isDbin rfl ?_; first | (refine DP_cmp rfl rfl (by first | exact trivial | rfl) rfl (fun _ => ?_) (fun _ => ?_) <;> try (exfalso; omega))) | refine DP_pure TOK rfl rfl (by first | exact trivial | rfl) rfl ?_) | (refine isI0 ?_; exact Inv.nil) | (refine isI1 ?_; first | refine Inv.keepC 0 hs rfl rfl ?_) | (with_reducible first | refine then_n ?_ | refine CW_seq ?_ | refine CW_region ?_ | refine CW_block ?_ | refine CW_skip ?_ | refine blk_n ?_) | refine CW_false rfl ?_ | (refine CW_drawP (id := 5) [] [0, 1, 2, 3, 4, 5, 6, 7, 8, 9, 10, 11, 12, 13, 14, 15, 16] mixed (by kernel_rfl) hs ?_; clear hs; intro hs) | (refine CW_drawP (id := 7) [] [0, 1, 2, 3, 4, 5, 6, 7, 8, 9] mixed (by kernel_rfl) hs ?_; clear hs; intro hs)))

    exact ⟨1, _, FR_forget _ ⟨rfl, rfl, rfl, trivial⟩, ⟨⟨S, cs, hs⟩, by omega⟩, by omega⟩
  | 1, _, ⟨S, cs, hs⟩ =>
    (repeat' (first | refine DP_lenN (a := b) TOK rfl rfl (by first | exact trivial | rfl) rfl rfl rfl rfl rfl ?_ | (refine isLW ?_; first | refine LW_nil ?_ | (refine isLload ?_; first | refine LW_loadC 0 TOK hs rfl rfl rfl rfl rfl ?_) | (refine isLcall ?_; first | (refine LW_call (cap := []) rfl rfl ent62 (rblanks_call _ hs (by omega) hb2) ?_; clear hs; rintro _ w2 hs; rw [hb1] at hs; unfold eQ at hs) | (refine LW_call (cap := []) rfl rfl ent63 (step_begin _ x1 _ (.inr rfl) h1 (num_ne (.inr hx1)) hs hb (fun w hs => begin_put w x1 v1 q hx1 hN1 hs (by omega) hb)) ?_; clear hs; rintro _ w2 ⟨o, r, hs⟩; unfold eQ at hs)) | (refine isLbin ?_; first | (refine LW_cmp rfl (fun _ => ?_) (fun _ => ?_) <;> try (exfalso; omega))) | refine LW_pure TOK rfl ?_) | (refine isDP ?_; first | (refine isDnil ?_; first | refine DP_end ?_ ?_) | (refine isDg rfl ?_; first | refine DP_pass rfl rfl rfl rfl ?_) | (refine isDload rfl ?_; first | refine DP_loadC 0 hs TOK rfl rfl (by first | exact trivial | rfl) rfl rfl rfl rfl rfl ?_ ?_) | (refine isDbin rfl ?_; first | (refine DP_cmp rfl rfl (by first | exact trivial | rfl) rfl (fun _ => ?_) (fun _ => ?_) <;> try (exfalso; omega))) | refine DP_pure TOK rfl rfl (by first | exact trivial | rfl) rfl ?_) | (refine isI0 ?_; exact Inv.nil) | (refine isI1 ?_; first | refine Inv.keepC 0 hs rfl rfl ?_) | (with_reducible first | refine then_n ?_ | refine CW_seq ?_ | refine CW_region ?_ | refine CW_block ?_ | refine CW_skip ?_ | refine blk_n ?_) | refine CW_false rfl ?_ | (refine CW_drawP (id := 5) [] [0, 1, 2, 3, 4, 5, 6, 7, 8, 9, 10, 11, 12, 13, 14, 15, 16] mixed (by kernel_rfl) hs ?_; clear hs; intro hs) | (refine CW_drawP (id := 7) [] [0, 1, 2, 3, 4, 5, 6, 7, 8, 9] mixed (by kernel_rfl) hs ?_; clear hs; intro hs)))

    exact ⟨2, _, FR_forget _ ⟨rfl, rfl, rfl, trivial⟩, ⟨⟨S, cs, o, r, hs⟩, by omega⟩, by omega⟩
  | 2, _, ⟨S, cs, o, r, hs⟩ =>
    (repeat' (first | refine DP_lenN (a := b) TOK rfl rfl (by first | exact trivial | rfl) rfl rfl rfl rfl rfl ?_ | (refine isLW ?_; first | refine LW_nil ?_ | (refine isLload ?_; first | refine LW_loadC 0 TOK hs rfl rfl rfl rfl rfl ?_) | (refine isLcall ?_; first | (refine LW_call (cap := []) rfl rfl ent62 (rblanks_call _ hs (by omega) hb2) ?_; clear hs; rintro _ w2 hs; rw [hbq] at hs; unfold eQ at hs) | (refine LW_call (cap := []) rfl rfl ent63 (step_comma _ o hq hs hb) ?_; clear hs; rintro _ w2 hs; unfold eQ at hs)) | (refine isLbin ?_; first | (refine LW_cmp rfl (fun _ => ?_) (fun _ => ?_) <;> try (exfalso; omega))) | refine LW_pure TOK rfl ?_) | (refine isDP ?_; first | (refine isDnil ?_; first | refine DP_end ?_ ?_) | (refine isDg rfl ?_; first | refine DP_pass rfl rfl rfl rfl ?_) | (refine isDload rfl ?_; first | refine DP_loadC 0 hs TOK rfl rfl (by first | exact trivial | rfl) rfl rfl rfl rfl rfl ?_ ?_) | (refine isDbin rfl ?_; first | (refine DP_cmp rfl rfl (by first | exact trivial | rfl) rfl (fun _ => ?_) (fun _ => ?_) <;> try (exfalso; omega))) | refine DP_pure TOK rfl rfl (by first | exact trivial | rfl) rfl ?_) | (refine isI0 ?_; exact Inv.nil) | (refine isI1 ?_; first | refine Inv.keepC 0 hs rfl rfl ?_) | (with_reducible first | refine then_n ?_ | refine CW_seq ?_ | refine CW_region ?_ | refine CW_block ?_ | refine CW_skip ?_ | refine blk_n ?_) | refine CW_false rfl ?_ | (refine CW_drawP (id := 5) [] [0, 1, 2, 3, 4, 5, 6, 7, 8, 9, 10, 11, 12, 13, 14, 15, 16] mixed (by kernel_rfl) hs ?_; clear hs; intro hs) | (refine CW_drawP (id := 7) [] [0, 1, 2, 3, 4, 5, 6, 7, 8, 9] mixed (by kernel_rfl) hs ?_; clear hs; intro hs)))

    exact ⟨3, _, FR_forget _ ⟨rfl, rfl, rfl, trivial⟩, ⟨⟨S, cs, o, r, hs⟩, by omega⟩, by omega⟩
  | 3, _, ⟨S, cs, o, r, hs⟩ =>
    (repeat' (first | refine DP_lenN (a := b) TOK rfl rfl (by first | exact trivial | rfl) rfl rfl rfl rfl rfl ?_ | refine DP_build TOK rfl rfl trivial rfl rfl rfl rfl rfl rfl ?_ | (refine isLW ?_; first | refine LW_nil ?_ | (refine isLload ?_; first | refine LW_loadC 0 TOK hs rfl rfl rfl rfl rfl ?_) | (refine isLstore ?_; first | (refine LW_storeCA 3 TOK hs rfl rfl rfl rfl rfl (oneV _ _ _ _ _ _ _ _ _) rfl (Nat.le_of_ble_eq_true rfl) ?_; clear hs; intro w hs)) | (refine isLcall ?_; first | (refine LW_call (cap := []) rfl rfl ent62 (rblanks_call _ hs (by omega) hb2) ?_; clear hs; rintro _ w2 hs; rw [hpp] at hs; unfold eQ at hs) | (refine LW_call (cap := []) rfl rfl ent63 (step_begin _ x _ (.inl rfl) hx (num_ne hc) hs hb (fun w hs => begin_err w x v e q2 hc hN he hs (by omega) hb)) ?_; clear hs; rintro _ w2 hs; unfold eQ at hs)) | (refine isLbin ?_; first | (refine LW_cmp rfl (fun _ => ?_) (fun _ => ?_) <;> try (exfalso; omega))) | refine LW_pure TOK rfl ?_) | (refine isDP ?_; first | (refine isDnil ?_; first | refine DP_end ?_ ?_) | (refine isDe rfl ?_; first | refine DP_eff rfl rfl ?_ ?_) | (refine isDg rfl ?_; first | refine DP_pass rfl rfl rfl rfl ?_) | (refine isDload rfl ?_; first | refine DP_loadC 0 hs TOK rfl rfl (by first | exact trivial | rfl) rfl rfl rfl rfl rfl ?_ ?_) | (refine isDbin rfl ?_; first | (refine DP_cmp rfl rfl (by first | exact trivial | rfl) rfl (fun _ => ?_) (fun _ => ?_) <;> try (exfalso; omega))) | refine DP_pure TOK rfl rfl (by first | exact trivial | rfl) rfl ?_) | (refine isI0 ?_; exact Inv.nil) | (refine isI1 ?_; first | refine Inv.keepC 0 hs rfl rfl ?_) | (with_reducible first | refine then_n ?_ | refine CW_seq ?_ | refine CW_region ?_ | refine CW_block ?_ | refine CW_skip ?_ | refine CW_ret ?_ | refine then_r ?_ | refine blk_r ?_) | refine RETA3 3 hs TOK Tryd.results44 rfl rfl rfl rfl rfl rfl rfl ?_ | refine CW_true rfl ?_ | refine CW_false rfl ?_ | (refine CW_drawP (id := 5) [] [0, 1, 2, 3, 4, 5, 6, 7, 8, 9, 10, 11, 12, 13, 14, 15, 16] mixed (by kernel_rfl) hs ?_; clear hs; intro hs) | (refine CW_drawP (id := 7) [] [0, 1, 2, 3, 4, 5, 6, 7, 8, 9] mixed (by kernel_rfl) hs ?_; clear hs; intro hs) | (refine CW_drawP (id := 11) [9] [0, 1, 2, 3, 4, 5, 6, 7, 8, 9, 10, 11] mixed (by kernel_rfl) hs ?_; clear hs; intro hs)))

    exact ⟨rfl, hs.firsts 0⟩
  | g + 4, hg, _ => omega
end
end Go.Proofs.YtbmeafeojcgndaaDoor
