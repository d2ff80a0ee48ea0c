/- Drawn regions: texts compared, one more way. -/
import Derived.Test.YtbmeafeojcgndaaDoorSlText2
import Derived.Test.YtbmeafeojcgndaaDoorV6
set_option linter.unusedVariables false
set_option linter.unusedSimpArgs false
namespace Go.Sl
open Go.RowKit
section
variable {r : Option Nat} {P : Program} {T : List (Nat × TI)} {l : List Oper} {eff : List Nat} {K : Act → World → Prop} {Cs : List (Nat × (World → Prop))} {plan : List Nat} {listed : Array Bool} {w : World} {n : Nat} {s : List (Nat × Value)} {τ : Nat → Value} {ds : List Deferred}
  {ty : TypeId} {ps : String} {af : Array Edge} {d i : Nat} {gd : Option (Nat × Bool)} {t yt : TypeId} {x y : Operand} {p q : ByteArray} {a b : List UInt8}
theorem DP_strGe (heff : eff.contains i = false) (hi : getA l i = some ⟨some d, .binOp .geq t x y yt, ty, ps, af, gd⟩) (hg : gdOK s n l gd) (hx : EVO n s x = some (.string p)) (hy : EVO n s y = some (.string q)) (hp : p.data.toList = a) (hq : q.data.toList = b) (ht : ¬ a < b → DP r P l eff K Cs plan (listed.setIfInBounds i true) (FR n ((d, .bool true) :: s) τ ds) w)
    (hf : a < b → DP r P l eff K Cs plan (listed.setIfInBounds i true) (FR n ((d, .bool false) :: s) τ ds) w) : DP r P l eff K Cs (i :: plan) listed (FR n s τ ds) w := by
  refine DP_plain (v := .bool (decide (¬ a < b))) heff hi (YC.mkD hg fun w _ => ?_) ?_
  · have e1 : (FR n s τ ds).eval x = .string p := eval_of hx
    have e2 : (FR n s τ ds).eval y = .string q := eval_of hy
    have e3 : (!Op.bytesLess p.toList q.toList) = decide (¬ a < b) := by
      rw [bytesLess_eq, ByteArray.toList_eq, ByteArray.toList_eq, hp, hq, decide_not]
    rw [← e3]
    generalize (FR n s τ ds).eval = ρ at e1 e2
    simp [execOp, e1, e2, binOp, Op.stringOp, eqGuard, go_sem]
  · rw [put_FR]
    by_cases hp : a < b
    · simp only [hp, not_true_eq_false, decide_false]; exact hf hp
    · simp only [hp, not_false_eq_true, decide_true]; exact ht hp
end
end Go.Sl

/- Walks of the library's stable sort, at the places of names: two names side by side; two stretches for one another. -/
set_option linter.unusedVariables false
set_option linter.unusedSimpArgs false
namespace Go.Proofs.YtbmeafeojcgndaaDoor
open Go Go.Sl Go.RowKit
set_option maxRecDepth 100000
theorem gt_of (a b : List UInt8) : (!decide (a < b) && !a == b) = decide (b < a) := by
  by_cases h1 : a < b
  · have h2 : ¬ b < a := List.lt_asymm h1
    simp [h1, h2]
  · by_cases h2 : a = b
    · subst h2; simp [h1]
    · have h3 : b < a := by
        by_cases h3 : b < a
        · exact h3
        · exact absurd (List.le_antisymm (List.not_lt.1 h3) (List.not_lt.1 h1)) h2
      simp [h1, h2, h3]
section
variable {r : Option Nat} {P : Program} {T : List (Nat × TI)} {l : List Oper} {eff : List Nat} {K : Act → World → Prop} {Cs : List (Nat × (World → Prop))} {plan : List Nat} {listed : Array Bool} {w : World} {n : Nat} {s : List (Nat × Value)} {τ : Nat → Value} {ds : List Deferred}
  {ty : TypeId} {ps : String} {af : Array Edge} {d i : Nat} {gd : Option (Nat × Bool)} {t yt : TypeId} {x y : Operand} {p q : ByteArray} {a b : List UInt8}
theorem DP_strGt (heff : eff.contains i = false) (hi : getA l i = some ⟨some d, .binOp .gtr t x y yt, ty, ps, af, gd⟩) (hg : gdOK s n l gd) (hx : EVO n s x = some (.string p)) (hy : EVO n s y = some (.string q)) (hp : p.data.toList = a) (hq : q.data.toList = b) (ht : b < a → DP r P l eff K Cs plan (listed.setIfInBounds i true) (FR n ((d, .bool true) :: s) τ ds) w)
    (hf : ¬ b < a → DP r P l eff K Cs plan (listed.setIfInBounds i true) (FR n ((d, .bool false) :: s) τ ds) w) : DP r P l eff K Cs (i :: plan) listed (FR n s τ ds) w := by
  refine DP_plain (v := .bool (decide (b < a))) heff hi (YC.mkD hg fun w _ => ?_) ?_
  · have e1 : (FR n s τ ds).eval x = .string p := eval_of hx
    have e2 : (FR n s τ ds).eval y = .string q := eval_of hy
    have e3 : (!Op.bytesLess p.toList q.toList && !p.toList == q.toList) = decide (b < a) := by
      rw [bytesLess_eq, ByteArray.toList_eq, ByteArray.toList_eq, hp, hq]
      exact gt_of a b
    rw [← e3]
    generalize (FR n s τ ds).eval = ρ at e1 e2
    simp [execOp, e1, e2, binOp, Op.stringOp, eqGuard, go_sem]
  · rw [put_FR]
    by_cases hp : b < a
    · simp only [hp, decide_true]; exact ht hp
    · simp only [hp, decide_false]; exact hf hp
end
attribute [local irreducible] CW LW DW FR DP Calls Res Ret
/-- The name at a place. -/
def nmA (ns : List (List UInt8)) (a : Int) : List UInt8 := Go.Sl.rd ns a
def cmpN (ns : List (List UInt8)) (a b : Int) : Int := if nmA ns a < nmA ns b then -1 else if nmA ns b < nmA ns a then 1 else 0
/-- Places of names. -/
def PlOK (ns : List (List UInt8)) (S : List Int) : Prop := ∀ x ∈ S, 0 ≤ x ∧ x < ns.length
def swapL (S : List Int) (i j : Nat) : List Int := (S.set i (Go.Sl.rd S (j : Int))).set j (Go.Sl.rd S (i : Int))
def swapR (S : List Int) (a b : Nat) : Nat → List Int
  | 0 => S
  | i + 1 => swapL (swapR S a b i) (a + i) (b + i)
theorem swapL_len (S : List Int) (i j : Nat) : (swapL S i j).length = S.length := by simp [swapL]
theorem swapR_len (S : List Int) (a b : Nat) : ∀ n, (swapR S a b n).length = S.length
  | 0 => rfl
  | n + 1 => by show (swapL _ _ _).length = _; rw [swapL_len, swapR_len S a b n]
section
variable {W : World} {ns : List (List UInt8)} {NA : Option Addr} {nc bx : Nat} {L : List HProp}
set_option maxHeartbeats 1000000 in
theorem cmp_call (w : World) (a b : Int) (hs : Sat W w (Cl bx [.slice NA ns.length nc] 28 :: L)) (rn : Rd eN W NA ns) (ha : 0 ≤ a ∧ a < ns.length) (hb : 0 ≤ b ∧ b < ns.length) (hl : ns.length ≤ 140737488355328) :
    Calls Tryd.prog 68 [.int .i64 a, .int .i64 b, Value.pointer (some ⟨bx, 0, none⟩)].toArray w (Ret fun v w' => v = .int .i64 (cmpN ns a b) ∧ Sat W w' (Cl bx [.slice NA ns.length nc] 28 :: L)) := by
  refine Calls_of Tryd.func68 rfl 24 Tryd.ntmps68 rfl ?_
  unfold cmpN nmA
  by_cases h1 : Go.Sl.rd ns a < Go.Sl.rd ns b
  · rw [if_pos h1]
    (repeat' (first | refine DP_strLt (a := Go.Sl.rd ns a) (b := Go.Sl.rd ns b) rfl rfl (by first | exact trivial | rfl) rfl rfl rfl rfl (fun _ => ?_) (fun h => absurd h1 h) | (refine isLW ?_; first | refine LW_nil ?_ | refine LW_pure TOK rfl ?_) | (refine isDP ?_; first | (refine isDnil ?_; first | refine DP_end ?_ ?_) | (refine isDload rfl ?_; first | refine DP_loadC 0 hs TOK rfl rfl (by first | exact trivial | rfl) rfl rfl rfl rfl rfl ?_ ?_ | refine DP_loadRd0 rn (fun _ => rfl) hs TOK rfl rfl (by first | exact trivial | rfl) rfl (by assumption) rfl rfl (by omega) (by omega) rfl ?_ ?_) | (refine isDidx rfl ?_; first | (refine DP_indexRd (rn.of hs) TOK rfl rfl (by first | exact trivial | rfl) rfl rfl rfl rfl rfl (by omega) (by omega) ?_; intro _ _ _)) | refine DP_pure TOK rfl rfl (by first | exact trivial | rfl) rfl ?_) | (refine isI0 ?_; exact Inv.nil) | (refine isI1 ?_; first | refine Inv.keepB hs ?_ | refine Inv.keepC 0 hs rfl rfl ?_) | (with_reducible first | refine then_n ?_ | refine CW_seq ?_ | refine CW_region ?_ | refine CW_ret ?_ | refine then_r ?_) | refine CW_true rfl ?_ | (refine CW_drawP (id := 1) [] [0, 1, 2, 3, 4, 5, 6, 7, 8] mixed (by kernel_rfl) hs ?_; clear hs; intro hs) | refine RET1 Tryd.results68 rfl ?_))
    all_goals exact ⟨rfl, hs⟩
  rw [if_neg h1]
  by_cases h2 : Go.Sl.rd ns b < Go.Sl.rd ns a
  · rw [if_pos h2]
    (repeat' (first | refine DP_strLt (a := Go.Sl.rd ns a) (b := Go.Sl.rd ns b) rfl rfl (by first | exact trivial | rfl) rfl rfl rfl rfl (fun h => absurd h h1) (fun _ => ?_) | refine DP_strGt (a := Go.Sl.rd ns a) (b := Go.Sl.rd ns b) rfl rfl (by first | exact trivial | rfl) rfl rfl rfl rfl (fun _ => ?_) (fun h => absurd h2 h) | (refine isLW ?_; first | refine LW_nil ?_ | refine LW_pure TOK rfl ?_) | (refine isDP ?_; first | (refine isDnil ?_; first | refine DP_end ?_ ?_) | (refine isDload rfl ?_; first | refine DP_loadC 0 hs TOK rfl rfl (by first | exact trivial | rfl) rfl rfl rfl rfl rfl ?_ ?_ | refine DP_loadRd0 rn (fun _ => rfl) hs TOK rfl rfl (by first | exact trivial | rfl) rfl (by assumption) rfl rfl (by omega) (by omega) rfl ?_ ?_) | (refine isDidx rfl ?_; first | (refine DP_indexRd (rn.of hs) TOK rfl rfl (by first | exact trivial | rfl) rfl rfl rfl rfl rfl (by omega) (by omega) ?_; intro _ _ _)) | refine DP_pure TOK rfl rfl (by first | exact trivial | rfl) rfl ?_) | (refine isI0 ?_; exact Inv.nil) | (refine isI1 ?_; first | refine Inv.keepB hs ?_ | refine Inv.keepC 0 hs rfl rfl ?_) | (with_reducible first | refine then_n ?_ | refine CW_seq ?_ | refine CW_region ?_ | refine CW_skip ?_ | refine CW_ret ?_ | refine then_r ?_) | refine CW_true rfl ?_ | refine CW_false rfl ?_ | (refine CW_drawP (id := 1) [] [0, 1, 2, 3, 4, 5, 6, 7, 8] mixed (by kernel_rfl) hs ?_; clear hs; intro hs) | (refine CW_drawP (id := 3) [] [0, 1, 2, 3, 4, 5, 6, 7, 8] mixed (by kernel_rfl) hs ?_; clear hs; intro hs) | refine RET1 Tryd.results68 rfl ?_))
    all_goals exact ⟨rfl, hs⟩
  · rw [if_neg h2]
    (repeat' (first | refine DP_strLt (a := Go.Sl.rd ns a) (b := Go.Sl.rd ns b) rfl rfl (by first | exact trivial | rfl) rfl rfl rfl rfl (fun h => absurd h h1) (fun _ => ?_) | refine DP_strGt (a := Go.Sl.rd ns a) (b := Go.Sl.rd ns b) rfl rfl (by first | exact trivial | rfl) rfl rfl rfl rfl (fun h => absurd h h2) (fun _ => ?_) | (refine isLW ?_; first | refine LW_nil ?_ | refine LW_pure TOK rfl ?_) | (refine isDP ?_; first | (refine isDnil ?_; first | refine DP_end ?_ ?_) | (refine isDload rfl ?_; first | refine DP_loadC 0 hs TOK rfl rfl (by first | exact trivial | rfl) rfl rfl rfl rfl rfl ?_ ?_ | refine DP_loadRd0 rn (fun _ => rfl) hs TOK rfl rfl (by first | exact trivial | rfl) rfl (by assumption) rfl rfl (by omega) (by omega) rfl ?_ ?_) | (refine isDidx rfl ?_; first | (refine DP_indexRd (rn.of hs) TOK rfl rfl (by first | exact trivial | rfl) rfl rfl rfl rfl rfl (by omega) (by omega) ?_; intro _ _ _)) | refine DP_pure TOK rfl rfl (by first | exact trivial | rfl) rfl ?_) | (refine isI0 ?_; exact Inv.nil) | (refine isI1 ?_; first | refine Inv.keepB hs ?_ | refine Inv.keepC 0 hs rfl rfl ?_) | (with_reducible first | refine then_n ?_ | refine CW_seq ?_ | refine CW_region ?_ | refine CW_skip ?_ | refine CW_ret ?_) | refine CW_false rfl ?_ | (refine CW_drawP (id := 1) [] [0, 1, 2, 3, 4, 5, 6, 7, 8] mixed (by kernel_rfl) hs ?_; clear hs; intro hs) | (refine CW_drawP (id := 3) [] [0, 1, 2, 3, 4, 5, 6, 7, 8] mixed (by kernel_rfl) hs ?_; clear hs; intro hs) | refine RET1 Tryd.results68 rfl ?_))
    all_goals exact ⟨rfl, hs⟩
set_option maxHeartbeats 1000000 in
theorem swapRange_call (w : World) (S : List Int) (A : Option Addr) (c a b n : Nat) (f : Value) (hs : Sat W w (RowOf eI 3 1 A c S :: L)) (ha : a + n ≤ S.length) (hb : b + n ≤ S.length) (hl : S.length ≤ 140737488355328) :
    Calls Tryd.prog 110 [Value.slice A S.length c, .int .i64 (a : Int), .int .i64 (b : Int), .int .i64 (n : Int), f].toArray w (Ret fun v w' => v = .tuple #[] ∧ Sat W w' (RowOf eI 3 1 A c (swapR S a b n) :: L)) := by
  refine Calls_of Tryd.func110 rfl 38 Tryd.ntmps110 rfl ?_
  (repeat' (first | (refine isLW ?_; first | refine LW_nil ?_ | refine LW_pure TOK rfl ?_) | (with_reducible first | refine then_n ?_ | refine CW_seq ?_ | refine CW_region ?_ | refine CW_block ?_)))
  refine CW_loop (γ := Nat) (fun g => [(0, .slice A S.length c), (1, .int .i64 (a : Int)), (2, .int .i64 (b : Int)), (3, .int .i64 (n : Int)), (10, .int .i64 (g : Int))]) (fun g w' => Sat W w' (RowOf eI 3 1 A c (swapR S a b g) :: L) ∧ g ≤ n) (fun g => n - g) 0 ⟨rfl, rfl, rfl, rfl, rfl, trivial⟩ ⟨hs, Nat.zero_le _⟩ ?_
  clear hs
  rintro g τ w' ⟨hs, h1⟩
  try dsimp only
  by_cases hg : g < n
  · have hT := swapR_len S a b g
    obtain ⟨T1, hT1⟩ : ∃ T1, swapR S a b g = T1 := ⟨_, rfl⟩
    have hst : swapR S a b (g + 1) = swapL T1 (a + g) (b + g) := by rw [← hT1]; rfl
    rw [hT1] at hs hT
    rw [← hT] at ha hb hl ⊢
    (repeat' (first | (refine isLW ?_; first | refine LW_nil ?_ | (refine isLstore ?_; first | (refine LW_storeRow 0 eI_ok (z := Go.Sl.rd T1 ((b : Int) + (g : Int))) hs TOK rfl (by assumption) rfl rfl rfl rfl rfl (by omega) (by omega) ?_; clear hs; intro w hs) | (refine LW_storeRow 0 eI_ok (z := Go.Sl.rd T1 ((a : Int) + (g : Int))) hs TOK rfl (by assumption) rfl rfl rfl rfl rfl (by omega) (by rw [List.length_set]; omega) ?_; clear hs; intro w hs)) | (refine isLbin ?_; first | refine LW_i64 rfl (by omega) (by omega) ?_ | (refine LW_cmp rfl (fun _ => ?_) (fun _ => ?_) <;> try (exfalso; omega))) | refine LW_pure TOK rfl ?_) | (refine isDP ?_; first | (refine isDnil ?_; first | refine DP_end ?_ ?_) | (refine isDe rfl ?_; first | refine DP_eff rfl rfl ?_ ?_) | (refine isDload rfl ?_; first | refine DP_loadRow0 (hs.rd 0 rfl) (fun _ => rfl) TOK rfl rfl (by first | exact trivial | rfl) rfl (by assumption) rfl rfl (by omega) (by omega) rfl ?_ ?_) | (refine isDidx rfl ?_; first | (refine DP_indexRdN (hs.rd 0 rfl) TOK rfl rfl (by first | exact trivial | rfl) rfl rfl rfl rfl rfl (by omega) (by omega) (by first | omega | (rw [List.length_set]; omega)) ?_; intro _ _ _)) | (refine isDbin rfl ?_; first | refine DP_i64 rfl rfl (by first | exact trivial | rfl) rfl (by omega) (by omega) ?_) | refine DP_pure TOK rfl rfl (by first | exact trivial | rfl) rfl ?_) | (refine isI0 ?_; exact Inv.nil) | (refine isI1 ?_; first | refine Inv.keepR0 (hs.rd 0 rfl) (fun _ => rfl) (by assumption) (by omega) (by omega) rfl ?_ | refine Inv.gone (by kernel_rfl) ?_) | (with_reducible first | refine then_n ?_ | refine CW_seq ?_ | refine CW_region ?_ | refine CW_block ?_ | refine CW_skip ?_ | refine blk_n ?_) | refine CW_true rfl ?_ | (refine CW_drawP (id := 3) [21, 23] [0, 1, 2, 3, 4, 5, 6, 7, 8, 9, 10, 11, 12, 13, 14, 15, 16, 17, 18, 19, 20, 21, 22, 23] mixed (by kernel_rfl) hs ?_; clear hs; intro hs)))
    exact ⟨g + 1, _, FR_forget _ ⟨rfl, rfl, rfl, rfl, rfl, trivial⟩, ⟨by rw [hst]; exact hs, by omega⟩, by omega⟩
  · (repeat' (first | (refine isLW ?_; first | refine LW_nil ?_ | (refine isLbin ?_; first | (refine LW_cmp rfl (fun _ => ?_) (fun _ => ?_) <;> try (exfalso; omega))) | refine LW_pure TOK rfl ?_) | (with_reducible first | refine then_n ?_ | refine CW_seq ?_ | refine CW_region ?_ | refine CW_exit ?_ | refine then_e ?_ | refine blk_same ?_) | refine CW_false rfl ?_ | refine RET0 Tryd.results110 ?_))
    have e : g = n := by omega
    subst e
    exact ⟨rfl, hs⟩
end
end Go.Proofs.YtbmeafeojcgndaaDoor

/- Walks of the library's stable sort: two neighbouring stretches turned about. -/
set_option linter.unusedVariables false
set_option linter.unusedSimpArgs false
namespace Go.Proofs.YtbmeafeojcgndaaDoor
open Go Go.Sl Go.RowKit
set_option maxRecDepth 100000
attribute [local irreducible] CW LW DW FR DP Calls Res Ret
theorem swapL_at (A B C : List Int) (x y : Int) {i j : Nat} (hi : i = A.length) (hj : j = A.length + 1 + B.length) : swapL (A ++ x :: (B ++ y :: C)) i j = A ++ y :: (B ++ x :: C) := by
  subst hi hj
  unfold swapL
  have e1 : Go.Sl.rd (A ++ x :: (B ++ y :: C)) ((A.length + 1 + B.length : Nat) : Int) = y := by
    show (A ++ x :: (B ++ y :: C)).getD ((A.length + 1 + B.length : Nat) : Int).toNat default = y
    have : ((A.length + 1 + B.length : Nat) : Int).toNat = A.length + (1 + B.length) := by omega
    rw [this]
    simp [List.getD, List.getElem?_append_right, Nat.add_comm 1 B.length]
  have e2 : Go.Sl.rd (A ++ x :: (B ++ y :: C)) (A.length : Int) = x := by
    show (A ++ x :: (B ++ y :: C)).getD (A.length : Int).toNat default = x
    have : (A.length : Int).toNat = A.length := by omega
    rw [this]
    simp [List.getD]
  rw [e1, e2]
  have e3 : (A ++ x :: (B ++ y :: C)).set A.length y = A ++ y :: (B ++ y :: C) := by
    rw [List.set_append_right _ _ (Nat.le_refl _)]; simp
  rw [e3, List.set_append_right _ _ (by omega)]
  have e4 : A.length + 1 + B.length - A.length = B.length + 1 := by omega
  rw [e4, List.set_cons_succ, List.set_append_right _ _ (Nat.le_refl _)]
  simp
theorem swapR_at : ∀ (n : Nat) (P X M Y Q : List Int), X.length = n → Y.length = n → swapR (P ++ (X ++ (M ++ (Y ++ Q)))) P.length (P.length + X.length + M.length) n = P ++ (Y ++ (M ++ (X ++ Q)))
  | 0, P, X, M, Y, Q, hx, hy => by
    have := List.length_eq_zero_iff.1 hx
    have := List.length_eq_zero_iff.1 hy
    subst X Y; rfl
  | n + 1, P, X, M, Y, Q, hx, hy => by
    rcases List.eq_nil_or_concat X with rfl | ⟨X0, x, rfl⟩
    · cases hx
    rcases List.eq_nil_or_concat Y with rfl | ⟨Y0, y, rfl⟩
    · cases hy
    rw [List.concat_eq_append, List.length_append, List.length_singleton] at hx hy
    have ih := swapR_at n P X0 (x :: M) Y0 (y :: Q) (by omega) (by omega)
    have e0 : P ++ (X0.concat x ++ (M ++ (Y0.concat y ++ Q))) = P ++ (X0 ++ (x :: M ++ (Y0 ++ y :: Q))) := by simp
    have e1 : P.length + (X0.concat x).length + M.length = P.length + X0.length + (x :: M).length := by simp; omega
    show swapL (swapR _ _ _ n) _ _ = _
    rw [e0, e1, ih]
    have e2 : P ++ (Y0 ++ (x :: M ++ (X0 ++ y :: Q))) = (P ++ Y0) ++ x :: ((M ++ X0) ++ y :: Q) := by simp
    rw [e2, swapL_at (P ++ Y0) (M ++ X0) Q x y (by rw [List.length_append]; omega) (by simp; omega)]
    simp
section
variable {W : World} {L : List HProp}
theorem swapRange_at (w : World) (P X M Y Q : List Int) (A : Option Addr) (c n : Nat) (a b i : Int) (f : Value) (hn : n = P.length + (X.length + (M.length + (Y.length + Q.length)))) (ha : a = P.length) (hb : b = (P.length : Int) + X.length + M.length) (hi : i = X.length) (hXY : X.length = Y.length) (hs : Sat W w (RowOf eI 3 1 A c (P ++ (X ++ (M ++ (Y ++ Q)))) :: L)) (hl : n ≤ 140737488355328) :
    Calls Tryd.prog 110 [Value.slice A n c, .int .i64 a, .int .i64 b, .int .i64 i, f].toArray w (Ret fun v w' => v = .tuple #[] ∧ Sat W w' (RowOf eI 3 1 A c (P ++ (Y ++ (M ++ (X ++ Q)))) :: L)) := by
  have hlen : (P ++ (X ++ (M ++ (Y ++ Q)))).length = n := by rw [hn]; simp
  have hb2 : b = ((P.length + X.length + M.length : Nat) : Int) := by rw [hb]; simp
  subst ha hi hb2
  have := swapRange_call w (P ++ (X ++ (M ++ (Y ++ Q)))) A c P.length (P.length + X.length + M.length) X.length f hs (by rw [hlen]; omega) (by rw [hlen]; omega) (by rw [hlen]; omega)
  rw [swapR_at X.length P X M Y Q rfl hXY.symm, hlen] at this
  exact this
set_option maxHeartbeats 1000000 in
theorem rotate_call (w : World) (P X Y Q : List Int) (A : Option Addr) (c n : Nat) (a m b : Int) (f : Value) (hn : n = P.length + (X.length + (Y.length + Q.length))) (ha : a = P.length) (hm : m = (P.length : Int) + X.length) (hb : b = (P.length : Int) + X.length + Y.length) (hX1 : 0 < X.length) (hY1 : 0 < Y.length) (hs : Sat W w (RowOf eI 3 1 A c (P ++ (X ++ (Y ++ Q))) :: L)) (hl : n ≤ 140737488355328) :
    Calls Tryd.prog 107 [Value.slice A n c, .int .i64 a, .int .i64 m, .int .i64 b, f].toArray w (Ret fun v w' => v = .tuple #[] ∧ Sat W w' (RowOf eI 3 1 A c (P ++ (Y ++ (X ++ Q))) :: L)) := by
  refine Calls_of Tryd.func107 rfl 58 Tryd.ntmps107 rfl ?_
  (repeat' (first | (refine isLW ?_; first | refine LW_nil ?_ | (refine isLbin ?_; first | refine LW_i64 rfl (by omega) (by omega) ?_) | refine LW_pure TOK rfl ?_) | (with_reducible first | refine then_n ?_ | refine CW_seq ?_ | refine CW_region ?_ | refine CW_block ?_)))
  refine CW_loop (γ := (List Int × List Int) × (List Int × List Int)) (fun g => [(0, .slice A n c), (2, .int .i64 m), (4, f), (10, .int .i64 (g.1.2.length : Int)), (11, .int .i64 (g.2.1.length : Int))]) (fun g w' => Sat W w' (RowOf eI 3 1 A c (g.1.1 ++ (g.1.2 ++ (g.2.1 ++ g.2.2))) :: L) ∧ (g.1.1.length : Int) + g.1.2.length = m ∧ 0 < g.1.2.length ∧ 0 < g.2.1.length ∧ g.1.1 ++ (g.2.1 ++ (g.1.2 ++ g.2.2)) = P ++ (Y ++ (X ++ Q)) ∧ g.1.1.length + (g.1.2.length + (g.2.1.length + g.2.2.length)) = n) (fun g => g.1.2.length + g.2.1.length) ((P, X), (Y, Q)) ⟨rfl, rfl, rfl, by show some (Value.int .i64 (m - a)) = some (Value.int .i64 (X.length : Int)); congr 2; omega, by show some (Value.int .i64 (b - m)) = some (Value.int .i64 (Y.length : Int)); congr 2; omega, trivial⟩ ⟨hs, hm.symm, hX1, hY1, rfl, hn.symm⟩ ?_
  clear hs
  rintro ⟨⟨P1, X1⟩, ⟨Y1, Q1⟩⟩ τ w' ⟨hs, h1, h2, h3, h4, h5⟩
  dsimp only at hs h1 h2 h3 h4 h5 ⊢
  rcases Nat.lt_trichotomy X1.length Y1.length with he | he | he
  · obtain ⟨U, hU⟩ : ∃ U, Y1.take (Y1.length - X1.length) = U := ⟨_, rfl⟩
    obtain ⟨V, hV⟩ : ∃ V, Y1.drop (Y1.length - X1.length) = V := ⟨_, rfl⟩
    have hUV : Y1 = U ++ V := by rw [← hU, ← hV, List.take_append_drop]
    have hUl : U.length = Y1.length - X1.length := by rw [← hU, List.length_take]; omega
    have hVl : V.length = X1.length := by rw [← hV, List.length_drop]; omega
    have hs2 : Sat W w' (RowOf eI 3 1 A c (P1 ++ (X1 ++ (U ++ (V ++ Q1)))) :: L) := by rw [← List.append_assoc U, ← hUV]; exact hs
    (repeat' (first | (refine isLW ?_; first | refine LW_nil ?_ | (refine isLcall ?_; first | (refine LW_call (cap := []) rfl rfl ent110 (swapRange_at _ P1 X1 U V Q1 A c n _ _ _ f (by omega) (by omega) (by omega) (by omega) (by omega) hs2 hl) ?_; clear hs hs2; rintro _ w2 ⟨rfl, hs⟩)) | (refine isLbin ?_; first | refine LW_i64 rfl (by omega) (by omega) ?_ | (refine LW_cmp rfl (fun _ => ?_) (fun _ => ?_) <;> try (exfalso; omega))) | refine LW_pure TOK rfl ?_) | (with_reducible first | refine then_n ?_ | refine CW_seq ?_ | refine CW_region ?_ | refine CW_block ?_ | refine CW_skip ?_ | refine blk_n ?_) | refine CW_true rfl ?_ | refine CW_false rfl ?_))
    all_goals exact ⟨((P1, V), (U, X1 ++ Q1)), _, FR_forget _ ⟨rfl, rfl, rfl, by show some (Value.int .i64 (X1.length : Int)) = some (Value.int .i64 (V.length : Int)); rw [hVl], by show some (Value.int .i64 ((Y1.length : Int) - (X1.length : Int))) = some (Value.int .i64 (U.length : Int)); congr 2; omega, trivial⟩, ⟨hs, by dsimp only; omega, by dsimp only; omega, by dsimp only; omega, by dsimp only; rw [← h4, hUV]; simp, by dsimp only; rw [List.length_append]; omega⟩, by dsimp only; omega⟩
  · (repeat' (first | (refine isLW ?_; first | refine LW_nil ?_ | (refine isLcall ?_; first | (refine LW_call (cap := []) rfl rfl ent110 (swapRange_at _ P1 X1 [] Y1 Q1 A c n _ _ _ f (by simp only [List.length_nil]; omega) (by omega) (by simp only [List.length_nil]; omega) (by omega) he hs hl) ?_; clear hs; rintro _ w2 ⟨rfl, hs⟩)) | (refine isLbin ?_; first | refine LW_i64 rfl (by omega) (by omega) ?_ | (refine LW_cmp rfl (fun _ => ?_) (fun _ => ?_) <;> try (exfalso; omega))) | refine LW_pure TOK rfl ?_) | (with_reducible first | refine then_n ?_ | refine CW_seq ?_ | refine CW_region ?_ | refine CW_exit ?_ | refine then_e ?_ | refine blk_same ?_) | refine CW_false rfl ?_ | refine RET0 Tryd.results107 ?_))
    all_goals exact ⟨rfl, by rw [← h4]; exact hs⟩
  · obtain ⟨U, hU⟩ : ∃ U, X1.take Y1.length = U := ⟨_, rfl⟩
    obtain ⟨V, hV⟩ : ∃ V, X1.drop Y1.length = V := ⟨_, rfl⟩
    have hUV : X1 = U ++ V := by rw [← hU, ← hV, List.take_append_drop]
    have hUl : U.length = Y1.length := by rw [← hU, List.length_take]; omega
    have hVl : V.length = X1.length - Y1.length := by rw [← hV, List.length_drop]
    have hs2 : Sat W w' (RowOf eI 3 1 A c (P1 ++ (U ++ (V ++ (Y1 ++ Q1)))) :: L) := by rw [← List.append_assoc U, ← hUV]; exact hs
    (repeat' (first | (refine isLW ?_; first | refine LW_nil ?_ | (refine isLcall ?_; first | (refine LW_call (cap := []) rfl rfl ent110 (swapRange_at _ P1 U V Y1 Q1 A c n _ _ _ f (by omega) (by omega) (by omega) (by omega) (by omega) hs2 hl) ?_; clear hs hs2; rintro _ w2 ⟨rfl, hs⟩)) | (refine isLbin ?_; first | refine LW_i64 rfl (by omega) (by omega) ?_ | (refine LW_cmp rfl (fun _ => ?_) (fun _ => ?_) <;> try (exfalso; omega))) | refine LW_pure TOK rfl ?_) | (with_reducible first | refine then_n ?_ | refine CW_seq ?_ | refine CW_region ?_ | refine CW_block ?_ | refine CW_skip ?_ | refine blk_n ?_) | refine CW_true rfl ?_))
    all_goals exact ⟨((P1 ++ Y1, V), (U, Q1)), _, FR_forget _ ⟨rfl, rfl, rfl, by show some (Value.int .i64 ((X1.length : Int) - (Y1.length : Int))) = some (Value.int .i64 (V.length : Int)); congr 2; omega, by show some (Value.int .i64 (Y1.length : Int)) = some (Value.int .i64 (U.length : Int)); rw [hUl], trivial⟩, ⟨by dsimp only; rw [List.append_assoc]; exact hs, by dsimp only; rw [List.length_append]; omega, by dsimp only; omega, by dsimp only; omega, by dsimp only; rw [← h4, hUV]; simp, by dsimp only; rw [List.length_append]; omega⟩, by dsimp only; omega⟩
end
end Go.Proofs.YtbmeafeojcgndaaDoor
