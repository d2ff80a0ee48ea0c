/- Walks of the reference's reader: what it stands at. -/
import Derived.Test.YtbmeafeojcgndaaDoorV42
import Derived.Test.YtbmeafeojcgndaaDoorSlText5
set_option linter.unusedVariables false
set_option linter.unusedSimpArgs false
namespace Go.Proofs.YtbmeafeojcgndaaDoor
open Go Go.Sl Go.RowKit
set_option maxRecDepth 100000
attribute [local irreducible] CW LW DW FR DP Calls Res Ret
/-- The reference's reader, so far without a value. -/
def eQ (b : List UInt8) (p st : Nat) (S : Option Addr) (n c : Nat) (e : Int) (pl : Nat) : List Value :=
  [sv b, .int .i64 p, .int .i64 st, .slice S n c, .int .i64 0, .int .i64 0, sv [], .slice none 0 0, .slice none 0 0, .int .i64 e, .int .i64 pl]
theorem in_call (w : World) (c lo hi : Nat) :
    Calls Tryd.prog 94 [Value.int .u8 (c : Int), .int .u8 (lo : Int), .int .u8 (hi : Int)].toArray w (Ret fun v w' => v = .bool (decide (lo ≤ c ∧ c ≤ hi)) ∧ w' = w) := by
  refine Calls_of Tryd.func94 rfl 15 Tryd.ntmps94 rfl ?_
  obtain ⟨d, hd⟩ : ∃ d, decide (lo ≤ c ∧ c ≤ hi) = d := ⟨_, rfl⟩
  rw [hd]
  (repeat' (first | (refine isLW ?_; first | refine LW_nil ?_ | (refine isLg ?_; first | refine LW_take rfl ?_ | refine LW_pass rfl rfl ?_) | (refine isLbin ?_; first | (refine LW_cmp rfl (fun _ => ?_) (fun _ => ?_) <;> try (exfalso; omega))) | refine LW_pure TOK rfl ?_) | (with_reducible first | refine then_n ?_ | refine CW_seq ?_ | refine CW_region ?_ | refine CW_ret ?_) | refine RET1 Tryd.results94 rfl ?_))
  all_goals first
    | exact ⟨by rw [← hd, decide_eq_true (by omega)], rfl⟩
    | exact ⟨by rw [← hd, decide_eq_false (by omega)], rfl⟩
section
variable {W : World} {L : List HProp} {b : List UInt8} {p st n c br pl : Nat} {S : Option Addr}
theorem rfail_call (w : World) (e : Int) (at' : Nat) (hs : Sat W w (Cl br (eQ b p st S n c 0 pl) 93 :: L)) :
    Calls Tryd.prog 76 [Value.pointer (some ⟨br, 0, none⟩), .int .i64 e, .int .i64 (at' : Int)].toArray w (Ret fun v w' => Sat W w' (Cl br (eQ b p st S n c e at') 93 :: L)) := by
  refine Calls_of Tryd.func76 rfl 19 Tryd.ntmps76 rfl ?_
  unfold eQ at hs ⊢
  (repeat' (first | (refine isLW ?_; first | refine LW_nil ?_ | (refine isLload ?_; first | refine LW_loadC 0 TOK hs rfl rfl rfl rfl rfl ?_) | (refine isLstore ?_; first | (refine LW_storeC 0 TOK hs rfl rfl rfl rfl rfl rfl rfl ?_; clear hs; intro w hs)) | (refine isLbin ?_; first | (refine LW_cmp rfl (fun _ => ?_) (fun _ => ?_) <;> try (exfalso; omega))) | refine LW_pure TOK rfl ?_) | (with_reducible first | refine then_n ?_ | refine CW_seq ?_ | refine CW_region ?_) | refine CW_true rfl ?_ | refine RET0 Tryd.results76 ?_))
  exact hs
theorem rnext_call (w : World) (x : UInt8) (hs : Sat W w (Cl br (eQ b p st S n c 0 pl) 93 :: L)) (hp : p ≤ b.length) (hb : b.length ≤ 140737488355328) :
    Calls Tryd.prog 103 [Value.pointer (some ⟨br, 0, none⟩), .int .u8 (x.toNat : Int)].toArray w (Ret fun v w' => v = .bool (b[p]? == some x) ∧ Sat W w' (Cl br (eQ b (p + (b[p]? == some x).toNat) st S n c 0 pl) 93 :: L)) := by
  refine Calls_of Tryd.func103 rfl 35 Tryd.ntmps103 rfl ?_
  unfold eQ at hs ⊢
  by_cases hlt : p < b.length
  · have e1 := get_rd hlt
    by_cases hx : ((Go.Sl.rd b (p : Int)).toNat : Int) = (x.toNat : Int)
    · (repeat' (first | refine DP_lenN (a := b) TOK rfl rfl (by first | exact trivial | rfl) rfl rfl rfl rfl rfl ?_ | (refine isLW ?_; first | refine LW_nil ?_ | (refine isLload ?_; first | refine LW_loadC 0 TOK hs rfl rfl rfl rfl rfl ?_) | (refine isLstore ?_; first | (refine LW_storeC 0 TOK hs rfl rfl rfl rfl rfl rfl rfl ?_; clear hs; intro w hs)) | (refine isLbin ?_; first | refine LW_i64 rfl (by omega) (by omega) ?_) | refine LW_pure TOK rfl ?_) | (refine isDP ?_; first | (refine isDnil ?_; first | refine DP_end ?_ ?_) | (refine isDload rfl ?_; first | refine DP_loadC 0 hs TOK rfl rfl (by first | exact trivial | rfl) rfl rfl rfl rfl rfl ?_ ?_) | (refine isDbin rfl ?_; first | (refine DP_cmp rfl rfl (by first | exact trivial | rfl) rfl (fun _ => ?_) (fun _ => ?_) <;> try (exfalso; omega))) | refine DP_strIdx (a := b) TOK rfl rfl (by first | exact trivial | rfl) rfl rfl rfl rfl rfl (by omega) (by omega) ?_ | refine DP_pure TOK rfl rfl (by first | exact trivial | rfl) rfl ?_) | (refine isI0 ?_; exact Inv.nil) | (refine isI1 ?_; first | refine Inv.keepC 0 hs rfl rfl ?_) | (with_reducible first | refine then_n ?_ | refine CW_seq ?_ | refine CW_region ?_ | refine CW_ret ?_ | refine then_r ?_) | refine CW_true rfl ?_ | (refine CW_drawP (id := 1) [] [0, 1, 2, 3, 4, 5, 6, 7, 8, 9, 10, 11, 12, 13, 14, 15, 16, 17, 18, 19, 20, 21, 22] mixed (by kernel_rfl) hs ?_; clear hs; intro hs) | refine RET1 Tryd.results103 rfl ?_))
      rw [e1]
      have : Go.Sl.rd b (p : Int) = x := UInt8.toNat_inj.1 (by omega)
      rw [this, show (some x == some x) = true from by simp]
      exact ⟨rfl, hs⟩
    · (repeat' (first | refine DP_lenN (a := b) TOK rfl rfl (by first | exact trivial | rfl) rfl rfl rfl rfl rfl ?_ | (refine isLW ?_; first | refine LW_nil ?_ | refine LW_pure TOK rfl ?_) | (refine isDP ?_; first | (refine isDnil ?_; first | refine DP_end ?_ ?_) | (refine isDload rfl ?_; first | refine DP_loadC 0 hs TOK rfl rfl (by first | exact trivial | rfl) rfl rfl rfl rfl rfl ?_ ?_) | (refine isDbin rfl ?_; first | (refine DP_cmp rfl rfl (by first | exact trivial | rfl) rfl (fun _ => ?_) (fun _ => ?_) <;> try (exfalso; omega))) | refine DP_strIdx (a := b) TOK rfl rfl (by first | exact trivial | rfl) rfl rfl rfl rfl rfl (by omega) (by omega) ?_ | refine DP_pure TOK rfl rfl (by first | exact trivial | rfl) rfl ?_) | (refine isI0 ?_; exact Inv.nil) | (refine isI1 ?_; first | refine Inv.keepC 0 hs rfl rfl ?_) | (with_reducible first | refine then_n ?_ | refine CW_seq ?_ | refine CW_region ?_ | refine CW_skip ?_ | refine CW_ret ?_) | refine CW_false rfl ?_ | (refine CW_drawP (id := 1) [] [0, 1, 2, 3, 4, 5, 6, 7, 8, 9, 10, 11, 12, 13, 14, 15, 16, 17, 18, 19, 20, 21, 22] mixed (by kernel_rfl) hs ?_; clear hs; intro hs) | refine RET1 Tryd.results103 rfl ?_))
      rw [e1]
      have : (some (Go.Sl.rd b (p : Int)) == some x) = false := by
        have : ¬ Go.Sl.rd b (p : Int) = x := fun h => hx (by rw [h])
        simp [this]
      rw [this]
      exact ⟨rfl, hs⟩
  · (repeat' (first | refine DP_lenN (a := b) TOK rfl rfl (by first | exact trivial | rfl) rfl rfl rfl rfl rfl ?_ | (refine isLW ?_; first | refine LW_nil ?_ | refine LW_pure TOK rfl ?_) | (refine isDP ?_; first | (refine isDnil ?_; first | refine DP_end ?_ ?_) | (refine isDg rfl ?_; first | refine DP_pass rfl rfl rfl rfl ?_) | (refine isDload rfl ?_; first | refine DP_loadC 0 hs TOK rfl rfl (by first | exact trivial | rfl) rfl rfl rfl rfl rfl ?_ ?_) | (refine isDbin rfl ?_; first | (refine DP_cmp rfl rfl (by first | exact trivial | rfl) rfl (fun _ => ?_) (fun _ => ?_) <;> try (exfalso; omega))) | refine DP_pure TOK rfl rfl (by first | exact trivial | rfl) rfl ?_) | (refine isI0 ?_; exact Inv.nil) | (refine isI1 ?_; first | refine Inv.keepC 0 hs rfl rfl ?_) | (with_reducible first | refine then_n ?_ | refine CW_seq ?_ | refine CW_region ?_ | refine CW_skip ?_ | refine CW_ret ?_) | refine CW_false rfl ?_ | (refine CW_drawP (id := 1) [] [0, 1, 2, 3, 4, 5, 6, 7, 8, 9, 10, 11, 12, 13, 14, 15, 16, 17, 18, 19, 20, 21, 22] mixed (by kernel_rfl) hs ?_; clear hs; intro hs) | refine RET1 Tryd.results103 rfl ?_))
    rw [List.getElem?_eq_none (by omega)]
    exact ⟨rfl, hs⟩
set_option maxHeartbeats 1000000 in
theorem rblanks_call (w : World) (hs : Sat W w (Cl br (eQ b p st S n c 0 pl) 93 :: L)) (hp : p ≤ b.length) (hb : b.length ≤ 140737488355328) :
    Calls Tryd.prog 62 [Value.pointer (some ⟨br, 0, none⟩)].toArray w (Ret fun v w' => Sat W w' (Cl br (eQ b (blanksM b p) st S n c 0 pl) 93 :: L)) := by
  refine Calls_of Tryd.func62 rfl 67 Tryd.ntmps62 rfl ?_
  unfold eQ at hs ⊢
  (repeat' (first | (with_reducible first | refine CW_block ?_)))
  refine CW_loop (γ := Nat) (fun g => [(0, .pointer (some ⟨br, 0, none⟩))]) (fun g w' => Sat W w' (Cl br (eQ b g st S n c 0 pl) 93 :: L) ∧ g ≤ b.length ∧ blanksM b g = blanksM b p) (fun g => b.length - g) p ⟨rfl, trivial⟩ ⟨hs, hp, rfl⟩ ?_
  clear hs
  rintro g τ w' ⟨hs, h1, h2⟩
  try dsimp only
  unfold eQ at hs
  by_cases hlt : g < b.length
  · have e1 := get_rd hlt
    obtain ⟨x, hx⟩ : ∃ x, Go.Sl.rd b (g : Int) = x := ⟨_, rfl⟩
    rw [hx] at e1
    have hbl : blank x = true ↔ x.toNat = 32 ∨ x.toNat = 9 ∨ x.toNat = 10 ∨ x.toNat = 13 := by
      unfold blank
      simp only [Bool.or_eq_true, beq_iff_eq, ← UInt8.toNat_inj]
      show (((x.toNat = 32 ∨ x.toNat = 9) ∨ x.toNat = 10) ∨ x.toNat = 13) ↔ _
      simp only [or_assoc]
    (repeat' (first | refine DP_lenN (a := b) TOK rfl rfl (by first | exact trivial | rfl) rfl rfl rfl rfl rfl ?_ | (refine isLW ?_; first | refine LW_nil ?_ | (refine isLload ?_; first | refine LW_loadC 0 TOK hs rfl rfl rfl rfl rfl ?_) | (refine isLstore ?_; first | (refine LW_storeC 0 TOK hs rfl rfl rfl rfl rfl rfl rfl ?_; clear hs; intro w hs)) | (refine isLbin ?_; first | refine LW_i64 rfl (by omega) (by omega) ?_) | refine LW_pure TOK rfl ?_) | (refine isDP ?_; first | (refine isDnil ?_; first | refine DP_end ?_ ?_) | (refine isDg rfl ?_; first | refine DP_pass rfl rfl rfl rfl ?_) | (refine isDload rfl ?_; first | refine DP_loadC 0 hs TOK rfl rfl (by first | exact trivial | rfl) rfl rfl rfl rfl rfl ?_ ?_) | (refine isDbin rfl ?_; first | (refine DP_cmp rfl rfl (by first | exact trivial | rfl) rfl (fun _ => ?_) (fun _ => ?_) <;> try (exfalso; omega))) | (refine DP_strIdx (a := b) TOK rfl rfl (by first | exact trivial | rfl) rfl rfl rfl rfl rfl (by omega) (by omega) ?_; rw [hx]) | refine DP_pure TOK rfl rfl (by first | exact trivial | rfl) rfl ?_) | (refine isI0 ?_; exact Inv.nil) | (refine isI1 ?_; first | refine Inv.keepC 0 hs rfl rfl ?_) | (with_reducible first | refine then_n ?_ | refine CW_seq ?_ | refine CW_region ?_ | refine CW_block ?_ | refine CW_skip ?_ | refine CW_exit ?_ | refine then_e ?_ | refine blk_n ?_ | refine blk_same ?_) | refine CW_true rfl ?_ | refine CW_false rfl ?_ | (refine CW_drawP (id := 0) [] [0, 1, 2, 3, 4, 5, 6, 7, 8, 9, 10, 11, 12, 13, 14, 15, 16, 17, 18, 19, 20, 21, 22, 23, 24, 25, 26, 27, 28, 29, 30, 31, 32, 33, 34, 35, 36, 37, 38, 39, 40, 41, 42, 43, 44, 45, 46, 47, 48, 49, 50, 51, 52, 53, 54, 55, 56, 57] mixed (by kernel_rfl) hs ?_; clear hs; intro hs) | refine RET0 Tryd.results62 ?_))
    all_goals first
      | exact ⟨g + 1, _, FR_forget _ ⟨rfl, trivial⟩, ⟨hs, by omega, by rw [← h2]; exact (blanks_yes e1 (hbl.2 (by omega))).symm⟩, by omega⟩
      | (rw [← h2, blanks_no (by rw [e1]; exact Bool.eq_false_iff.2 fun h => by have := hbl.1 h; omega)]
         exact hs)
  · (repeat' (first | refine DP_lenN (a := b) TOK rfl rfl (by first | exact trivial | rfl) rfl rfl rfl rfl rfl ?_ | (refine isDP ?_; first | (refine isDnil ?_; first | refine DP_end ?_ ?_) | (refine isDg rfl ?_; first | refine DP_pass rfl rfl rfl rfl ?_ | refine DP_passU (j' := 0) rfl rfl rfl rfl rfl ?_) | (refine isDload rfl ?_; first | refine DP_loadC 0 hs TOK rfl rfl (by first | exact trivial | rfl) rfl rfl rfl rfl rfl ?_ ?_) | (refine isDbin rfl ?_; first | (refine DP_cmp rfl rfl (by first | exact trivial | rfl) rfl (fun _ => ?_) (fun _ => ?_) <;> try (exfalso; omega))) | refine DP_pure TOK rfl rfl (by first | exact trivial | rfl) rfl ?_) | (refine isI0 ?_; exact Inv.nil) | (refine isI1 ?_; first | refine Inv.keepC 0 hs rfl rfl ?_) | (with_reducible first | refine then_n ?_ | refine CW_seq ?_ | refine CW_exit ?_ | refine then_e ?_ | refine blk_same ?_) | refine CW_false rfl ?_ | (refine CW_drawP (id := 0) [] [0, 1, 2, 3, 4, 5, 6, 7, 8, 9, 10, 11, 12, 13, 14, 15, 16, 17, 18, 19, 20, 21, 22, 23, 24, 25, 26, 27, 28, 29, 30, 31, 32, 33, 34, 35, 36, 37, 38, 39, 40, 41, 42, 43, 44, 45, 46, 47, 48, 49, 50, 51, 52, 53, 54, 55, 56, 57] mixed (by kernel_rfl) hs ?_; clear hs; intro hs) | refine RET0 Tryd.results62 ?_))
    rw [← h2, blanks_no (by rw [List.getElem?_eq_none (by omega)]; rfl)]
    exact hs
/-- How many digits a text begins with. -/
def digN : List UInt8 → Nat
  | [] => 0
  | c :: l => if 48 ≤ c.toNat ∧ c.toNat ≤ 57 then digN l + 1 else 0
theorem digN_le : ∀ l : List UInt8, digN l ≤ l.length
  | [] => Nat.le_refl _
  | c :: l => by unfold digN; split <;> simp [digN_le l]
theorem digN_step {b : List UInt8} {g : Nat} (h : g < b.length) : digN (b.drop g) = if 48 ≤ (Go.Sl.rd b (g : Int)).toNat ∧ (Go.Sl.rd b (g : Int)).toNat ≤ 57 then digN (b.drop (g + 1)) + 1 else 0 := by
  have e1 := get_rd h
  rw [List.drop_eq_getElem_cons h]
  rw [List.getElem?_eq_getElem h] at e1
  injection e1 with e1
  rw [e1, digN]
set_option maxHeartbeats 2000000 in
theorem digits_call (w : World) (k : Nat) (hs : Sat W w (Cl br (eQ b p st S n c 0 pl) 93 :: L)) (hp : p ≤ b.length) (hb : b.length ≤ 140737488355328) (hk : digN (b.drop p) = k) (hk0 : 0 < k) :
    Calls Tryd.prog 104 [Value.pointer (some ⟨br, 0, none⟩)].toArray w (Ret fun v w' => v = sv ((b.take (p + k)).drop p) ∧ Sat W w' (Cl br (eQ b (p + k) st S n c 0 pl) 93 :: L)) := by
  have hk2 := digN_le (b.drop p)
  rw [hk, List.length_drop] at hk2
  refine Calls_of Tryd.func104 rfl 81 Tryd.ntmps104 rfl ?_
  unfold eQ at hs ⊢
  (repeat' (first | (refine isLW ?_; first | refine LW_nil ?_ | (refine isLload ?_; first | refine LW_loadC 0 TOK hs rfl rfl rfl rfl rfl ?_) | refine LW_pure TOK rfl ?_) | (with_reducible first | refine then_n ?_ | refine CW_seq ?_ | refine CW_region ?_ | refine CW_block ?_)))
  refine CW_loop (γ := Nat) (fun g => [(0, .pointer (some ⟨br, 0, none⟩)), (3, .int .i64 (p : Int))]) (fun g w' => Sat W w' (Cl br (eQ b g st S n c 0 pl) 93 :: L) ∧ p ≤ g ∧ g ≤ b.length ∧ g + digN (b.drop g) = p + k) (fun g => b.length - g) p ⟨rfl, rfl, trivial⟩ ⟨hs, Nat.le_refl _, hp, by rw [hk]⟩ ?_
  clear hs
  rintro g τ w' ⟨hs, h0, h1, h2⟩
  try dsimp only
  unfold eQ at hs
  by_cases hlt : g < b.length
  · have e1 := digN_step hlt
    obtain ⟨x, hx⟩ : ∃ x, Go.Sl.rd b (g : Int) = x := ⟨_, rfl⟩
    rw [hx] at e1
    by_cases hd : 48 ≤ x.toNat ∧ x.toNat ≤ 57
    · rw [if_pos hd] at e1
      (repeat' (first | refine DP_lenN (a := b) TOK rfl rfl (by first | exact trivial | rfl) rfl rfl rfl rfl rfl ?_ | (refine isLW ?_; first | refine LW_nil ?_ | (refine isLg ?_; first | refine LW_take rfl ?_) | (refine isLload ?_; first | refine LW_loadC 0 TOK hs rfl rfl rfl rfl rfl ?_) | (refine isLstore ?_; first | (refine LW_storeC 0 TOK hs rfl rfl rfl rfl rfl rfl rfl ?_; clear hs; intro w hs)) | (refine isLcall ?_; first | (refine LW_call (cap := []) rfl rfl ent94 (in_call _ x.toNat 48 57) ?_; rintro _ w2 ⟨rfl, rfl⟩; rw [decide_eq_true hd])) | (refine isLbin ?_; first | refine LW_i64 rfl (by omega) (by omega) ?_) | refine LW_pure TOK rfl ?_) | (refine isDP ?_; first | (refine isDnil ?_; first | refine DP_end ?_ ?_) | (refine isDe rfl ?_; first | refine DP_eff rfl rfl ?_ ?_) | (refine isDload rfl ?_; first | refine DP_loadC 0 hs TOK rfl rfl (by first | exact trivial | rfl) rfl rfl rfl rfl rfl ?_ ?_) | (refine isDbin rfl ?_; first | (refine DP_cmp rfl rfl (by first | exact trivial | rfl) rfl (fun _ => ?_) (fun _ => ?_) <;> try (exfalso; omega))) | (refine DP_strIdx (a := b) TOK rfl rfl (by first | exact trivial | rfl) rfl rfl rfl rfl rfl (by omega) (by omega) ?_; rw [hx]) | refine DP_pure TOK rfl rfl (by first | exact trivial | rfl) rfl ?_) | (refine isI0 ?_; exact Inv.nil) | (refine isI1 ?_; first | refine Inv.keepC 0 hs rfl rfl ?_) | (with_reducible first | refine then_n ?_ | refine CW_seq ?_ | refine CW_region ?_ | refine CW_block ?_ | refine CW_skip ?_ | refine blk_n ?_) | refine CW_true rfl ?_ | (refine CW_drawP (id := 2) [20] [0, 1, 2, 3, 4, 5, 6, 7, 8, 9, 10, 11, 12, 13, 14, 15, 16, 17, 18, 19, 20, 21] mixed (by kernel_rfl) hs ?_; clear hs; intro hs)))
      exact ⟨g + 1, _, FR_forget _ ⟨rfl, rfl, trivial⟩, ⟨hs, by omega, by omega, by omega⟩, by omega⟩
    · rw [if_neg hd] at e1
      have e : g = p + k := by omega
      subst e
      (repeat' (first | refine DP_lenN (a := b) TOK rfl rfl (by first | exact trivial | rfl) rfl rfl rfl rfl rfl ?_ | (refine isLW ?_; first | refine LW_nil ?_ | (refine isLg ?_; first | refine LW_take rfl ?_ | refine LW_pass rfl rfl ?_) | (refine isLload ?_; first | refine LW_loadC 0 TOK hs rfl rfl rfl rfl rfl ?_) | (refine isLcall ?_; first | (refine LW_call (cap := []) rfl rfl ent94 (in_call _ x.toNat 48 57) ?_; rintro _ w2 ⟨rfl, rfl⟩; rw [decide_eq_false hd])) | (refine isLbin ?_; first | (refine LW_cmp rfl (fun _ => ?_) (fun _ => ?_) <;> try (exfalso; omega))) | refine LW_pure TOK rfl ?_) | (refine isDP ?_; first | (refine isDnil ?_; first | refine DP_end ?_ ?_) | (refine isDe rfl ?_; first | refine DP_eff rfl rfl ?_ ?_) | (refine isDload rfl ?_; first | refine DP_loadC 0 hs TOK rfl rfl (by first | exact trivial | rfl) rfl rfl rfl rfl rfl ?_ ?_) | (refine isDbin rfl ?_; first | (refine DP_cmp rfl rfl (by first | exact trivial | rfl) rfl (fun _ => ?_) (fun _ => ?_) <;> try (exfalso; omega))) | (refine DP_strIdx (a := b) TOK rfl rfl (by first | exact trivial | rfl) rfl rfl rfl rfl rfl (by omega) (by omega) ?_; rw [hx]) | refine DP_strLH (a := b) ((b.take (p + k)).drop p) TOK rfl rfl (by first | exact trivial | rfl) rfl rfl rfl rfl rfl (by omega) (by omega) (by omega) rfl ?_ | refine DP_pure TOK rfl rfl (by first | exact trivial | rfl) rfl ?_) | (refine isI0 ?_; exact Inv.nil) | (refine isI1 ?_; first | refine Inv.keepC 0 hs rfl rfl ?_) | (with_reducible first | refine then_n ?_ | refine CW_seq ?_ | refine CW_region ?_ | refine CW_skip ?_ | refine CW_exit ?_ | refine CW_ret ?_ | refine then_e ?_ | refine blk_same ?_) | refine CW_false rfl ?_ | (refine CW_drawP (id := 2) [20] [0, 1, 2, 3, 4, 5, 6, 7, 8, 9, 10, 11, 12, 13, 14, 15, 16, 17, 18, 19, 20, 21] mixed (by kernel_rfl) hs ?_; clear hs; intro hs) | (refine CW_drawP (id := 8) [] [0, 1, 2, 3, 4, 5, 6, 7, 8, 9, 10] mixed (by kernel_rfl) hs ?_; clear hs; intro hs) | refine RET1 Tryd.results104 rfl ?_))
      exact ⟨rfl, hs⟩
  · have e : g = p + k := by
      have := digN_le (b.drop g)
      rw [List.length_drop] at this
      omega
    subst e
    (repeat' (first | refine DP_lenN (a := b) TOK rfl rfl (by first | exact trivial | rfl) rfl rfl rfl rfl rfl ?_ | (refine isLW ?_; first | refine LW_nil ?_ | (refine isLg ?_; first | refine LW_pass rfl rfl ?_) | (refine isLload ?_; first | refine LW_loadC 0 TOK hs rfl rfl rfl rfl rfl ?_) | (refine isLbin ?_; first | (refine LW_cmp rfl (fun _ => ?_) (fun _ => ?_) <;> try (exfalso; omega))) | refine LW_pure TOK rfl ?_) | (refine isDP ?_; first | (refine isDnil ?_; first | refine DP_end ?_ ?_) | (refine isDe rfl ?_; first | refine DP_eff rfl rfl ?_ ?_) | (refine isDg rfl ?_; first | refine DP_pass rfl rfl rfl rfl ?_) | (refine isDload rfl ?_; first | refine DP_loadC 0 hs TOK rfl rfl (by first | exact trivial | rfl) rfl rfl rfl rfl rfl ?_ ?_) | (refine isDbin rfl ?_; first | (refine DP_cmp rfl rfl (by first | exact trivial | rfl) rfl (fun _ => ?_) (fun _ => ?_) <;> try (exfalso; omega))) | refine DP_strLH (a := b) ((b.take (p + k)).drop p) TOK rfl rfl (by first | exact trivial | rfl) rfl rfl rfl rfl rfl (by omega) (by omega) (by omega) rfl ?_ | refine DP_pure TOK rfl rfl (by first | exact trivial | rfl) rfl ?_) | (refine isI0 ?_; exact Inv.nil) | (refine isI1 ?_; first | refine Inv.keepC 0 hs rfl rfl ?_) | (with_reducible first | refine then_n ?_ | refine CW_seq ?_ | refine CW_region ?_ | refine CW_skip ?_ | refine CW_exit ?_ | refine CW_ret ?_ | refine then_e ?_ | refine blk_same ?_) | refine CW_false rfl ?_ | (refine CW_drawP (id := 2) [20] [0, 1, 2, 3, 4, 5, 6, 7, 8, 9, 10, 11, 12, 13, 14, 15, 16, 17, 18, 19, 20, 21] mixed (by kernel_rfl) hs ?_; clear hs; intro hs) | (refine CW_drawP (id := 8) [] [0, 1, 2, 3, 4, 5, 6, 7, 8, 9, 10] mixed (by kernel_rfl) hs ?_; clear hs; intro hs) | refine RET1 Tryd.results104 rfl ?_))
    exact ⟨rfl, hs⟩
/-- A great number, held below a bound. -/
def greatL : List UInt8 → Nat → Nat
  | [], a => a
  | c :: l, a => greatL l (min (10 * a + (c.toNat - 48)) 1099511627776)
theorem great_call (w : World) (t : List UInt8) (ht : t.length ≤ 140737488355328) (hd : ∀ c ∈ t, 48 ≤ c.toNat ∧ c.toNat ≤ 57) :
    Calls Tryd.prog 105 [sv t].toArray w (Ret fun v w' => v = .int .i64 (greatL t 0 : Int) ∧ Sat w w' []) := by
  refine Calls_of Tryd.func105 rfl 22 Tryd.ntmps105 rfl ?_
  have hs := Sat.start w
  (repeat' (first | (refine isLW ?_; first | refine LW_nil ?_ | refine LW_pure TOK rfl ?_) | (with_reducible first | refine then_n ?_ | refine CW_seq ?_ | refine CW_region ?_ | refine CW_block ?_)))
  refine CW_loop (γ := Nat × Nat) (fun g => [(0, sv t), (3, .int .i64 (g.2 : Int)), (4, .int .i64 (g.1 : Int))]) (fun g w' => Sat w w' [] ∧ g.1 ≤ t.length ∧ g.2 ≤ 1099511627776 ∧ greatL (t.drop g.1) g.2 = greatL t 0) (fun g => t.length - g.1) (0, 0) ⟨rfl, rfl, rfl, trivial⟩ ⟨hs, Nat.zero_le _, Nat.zero_le _, rfl⟩ ?_
  clear hs
  rintro ⟨g, a⟩ τ w' ⟨hs, h0, h1, h2⟩
  dsimp only at hs h0 h1 h2 ⊢
  by_cases hlt : g < t.length
  · have e1 := get_rd hlt
    obtain ⟨x, hx⟩ : ∃ x, Go.Sl.rd t (g : Int) = x := ⟨_, rfl⟩
    rw [hx, List.getElem?_eq_getElem hlt] at e1
    injection e1 with e1
    have hxd := hd x (by rw [← e1]; exact List.getElem_mem _)
    rw [List.drop_eq_getElem_cons hlt, e1, greatL] at h2
    (repeat' (first | refine LW_lenN (a := t) TOK rfl rfl rfl rfl rfl ?_ | (refine isLW ?_; first | refine LW_nil ?_ | (refine isLbin ?_; first | refine LW_arithE (10 * (a : Int)) rfl (wrap_i64 (by omega) (by omega)) ?_ | refine LW_arithE ((x.toNat : Int) - 48) rfl (wrap_u8 (by omega) (by omega)) ?_ | refine LW_i64 rfl (by omega) (by omega) ?_ | (refine LW_cmp rfl (fun _ => ?_) (fun _ => ?_) <;> try (exfalso; omega))) | (refine LW_strIdx (a := t) TOK rfl rfl rfl rfl rfl (by omega) (by omega) ?_; rw [hx]) | refine LW_convE ((x.toNat : Int) - 48) TOK rfl rfl rfl rfl (wrap_i64 (by omega) (by omega)) ?_ | refine LW_pure TOK rfl ?_) | (with_reducible first | refine then_n ?_ | refine CW_seq ?_ | refine CW_region ?_ | refine CW_block ?_ | refine CW_skip ?_ | refine blk_n ?_) | refine CW_true rfl ?_ | refine CW_false rfl ?_))
    · exact ⟨((g + 1, 1099511627776) : Nat × Nat), _, FR_forget _ ⟨rfl, rfl, rfl, trivial⟩, ⟨hs, by dsimp only; omega, by dsimp only; omega, by rw [← h2]; congr 1; dsimp only; omega⟩, by dsimp only; omega⟩
    · exact ⟨((g + 1, 10 * a + (x.toNat - 48)) : Nat × Nat), _, FR_forget _ ⟨rfl, by show some (Value.int .i64 (10 * (a : Int) + ((x.toNat : Int) - 48))) = some (Value.int .i64 ((10 * a + (x.toNat - 48) : Nat) : Int)); congr 2; omega, rfl, trivial⟩, ⟨hs, by dsimp only; omega, by dsimp only; omega, by rw [← h2]; congr 1; dsimp only; omega⟩, by dsimp only; omega⟩
  · (repeat' (first | refine LW_lenN (a := t) TOK rfl rfl rfl rfl rfl ?_ | (refine isLW ?_; first | refine LW_nil ?_ | (refine isLbin ?_; first | (refine LW_cmp rfl (fun _ => ?_) (fun _ => ?_) <;> try (exfalso; omega))) | refine LW_pure TOK rfl ?_) | (with_reducible first | refine then_n ?_ | refine CW_seq ?_ | refine CW_region ?_ | refine CW_exit ?_ | refine CW_ret ?_ | refine then_e ?_ | refine blk_same ?_) | refine CW_false rfl ?_ | refine RET1 Tryd.results105 rfl ?_))
    rw [List.drop_eq_nil_of_le (by omega), greatL] at h2
    rw [← h2]
    exact ⟨rfl, hs⟩
end
end Go.Proofs.YtbmeafeojcgndaaDoor
