/- Drawn regions: a byte of a text. -/
import Derived.Test.YtbmeafeojcgndaaDoorSlText2
import Derived.Test.YtbmeafeojcgndaaDoorV4
import Derived.Test.YtbmeafeojcgndaaDoorSlApS
set_option linter.unusedVariables false
set_option linter.unusedSimpArgs false
namespace Go.Sl
open Go.RowKit
section
variable {r : Option Nat} {P : Program} {T : List (Nat × TI)} {l : List Oper} {eff : List Nat} {K : Act → World → Prop} {Cs : List (Nat × (World → Prop))} {plan : List Nat} {listed : Array Bool} {w : World} {n : Nat} {s : List (Nat × Value)} {τ : Nat → Value} {ds : List Deferred}
  {ty : TypeId} {ps : String} {af : Array Edge} {d : Nat} {gd : Option (Nat × Bool)} {t : TypeId} {x y : Operand} {p : ByteArray} {a : List UInt8}
theorem DP_strIdx {j : Nat} {k : IntKind} {ti : TI} {i : Int} (hT : TyOK P T) (heff : eff.contains j = false) (hi : getA l j = some ⟨some d, .index t x y, ty, ps, af, gd⟩) (hg : gdOK s n l gd) (hx : EVO n s x = some (.string p)) (hy : EVO n s y = some (.int k i)) (ht : lookT T t = some ti) (hu : ti.u = .string) (hp : p.data.toList = a) (h0 : 0 ≤ i) (h1 : i < a.length)
    (c : DP r P l eff K Cs plan (listed.setIfInBounds j true) (FR n ((d, .int .u8 ((rd a i).toNat : Int)) :: s) τ ds) w) : DP r P l eff K Cs (j :: plan) listed (FR n s τ ds) w := by
  rw [toList_of hp] at hx
  refine DP_plain (v := .int .u8 ((rd a i).toNat : Int)) heff hi (YC.mkD hg fun w _ => ?_) (by rw [put_FR]; exact c)
  show Sem.run P (do let v ← Instr.index t ((FR n s τ ds).eval x) ((FR n s τ ds).eval y); pure (Next.value v)) w = _
  have h2 := (ty_info (hT _ _ ht)).1
  rw [hu] at h2
  rw [eval_of hx, eval_of hy, Sem.run_bind, run_index_string w t _ k i h2]
  have hs : (⟨a.toArray⟩ : ByteArray).size = a.length := rfl
  rw [dif_pos ⟨h0, by rw [hs]; exact h1⟩]
  simp only [Result.andThen, Sem.run_pure]
  congr 3
  have hi : i.toNat < a.length := by omega
  unfold rd
  show ((a.toArray[i.toNat]'(by simpa using hi)).toNat : Int) = _
  simp [List.getD, hi]
end
end Go.Sl

/- Walks: a string's canonical text. -/
set_option linter.unusedVariables false
set_option linter.unusedSimpArgs false
namespace Go.Proofs.YtbmeafeojcgndaaDoor
open Go Go.Sl Go.RowKit
set_option maxRecDepth 100000
attribute [local irreducible] CW LW DW FR DP Calls Res Ret
def hexs : List UInt8 := [48, 49, 50, 51, 52, 53, 54, 55, 56, 57, 97, 98, 99, 100, 101, 102]
def escB (c : UInt8) : List UInt8 :=
  if c.toNat = 34 ∨ c.toNat = 92 then [92, c] else if c.toNat = 8 then [92, 98] else if c.toNat = 9 then [92, 116] else if c.toNat = 10 then [92, 110]
  else if c.toNat = 12 then [92, 102] else if c.toNat = 13 then [92, 114]
  else if c.toNat < 32 then [92, 117, 48, 48, Go.Sl.rd hexs ((c.toNat / 16 : Nat) : Int), Go.Sl.rd hexs ((c.toNat % 16 : Nat) : Int)] else [c]
/-- A string's text. -/
def quoteB (s : List UInt8) : List UInt8 := 34 :: (s.flatMap escB ++ [34])
theorem escB_len (c : UInt8) : (escB c).length ≤ 6 := by
  unfold escB
  split
  · simp
  split
  · simp
  split
  · simp
  split
  · simp
  split
  · simp
  split
  · simp
  split <;> simp
theorem flat_len6 : ∀ s : List UInt8, (s.flatMap escB).length ≤ 6 * s.length
  | [] => by simp
  | c :: s => by
    have := flat_len6 s
    have := escB_len c
    rw [List.flatMap_cons, List.length_append, List.length_cons]
    omega
theorem and15_all : ∀ n : Fin 256, bitV .and .u8 ((n.val : Nat) : Int) 15 = some ((n.val % 16 : Nat) : Int) := by decide
theorem and15 {a y : Int} (n : Nat) (h : n < 256) (ha : a = (n : Int)) (hy : y = 15) : bitV .and .u8 a y = some ((n % 16 : Nat) : Int) := by
  subst ha hy; exact and15_all ⟨n, h⟩
theorem shr4 {a y : Int} (n : Nat) (ha : a = (n : Int)) (hy : y = 4) : shV .shr .u8 a y = some ((n / 16 : Nat) : Int) := by
  subst ha hy; exact congrArg some (shr_nat n 4)
section
variable {W : World} {L : List HProp}
set_option maxHeartbeats 2000000 in
theorem textW_call (w : World) (out s : List UInt8) (A : Option Addr) (c : Nat) (hs : Sat W w (RowOf eB 5 1 A c out :: L)) (ho : out.length ≤ 17592186044416) (hsl : s.length ≤ 4398046511104) :
    Calls Tryd.prog 50 [Value.slice A out.length c, sv s].toArray w (Ret fun v w' => ∃ A' c', v = .slice A' (out ++ quoteB s).length c' ∧ Sat W w' (RowOf eB 5 1 A' c' (out ++ quoteB s) :: L)) := by
  refine Calls_of Tryd.func50 rfl 65 Tryd.ntmps50 rfl ?_
  (repeat' (first | (refine isLW ?_; first | refine LW_nil ?_ | (refine isLcall ?_; first | (refine LW_append1 0 (xs := out) (z := (34 : UInt8)) eB_ok hs TOK rfl rfl rfl rfl rfl rfl rfl rfl rfl rfl (by unfold maxLen; omega) (by simp only []; omega) ?_; clear hs; intro A c w hs)) | refine LW_pure TOK rfl ?_ | (refine LW_buildSlice TOK hs rfl rfl rfl rfl rfl rfl rfl ?_; clear hs; intro _ w hs)) | (with_reducible first | refine then_n ?_ | refine CW_seq ?_ | refine CW_region ?_ | refine CW_block ?_)))
  refine CW_loop (γ := Nat × Option Addr × Nat) (fun g => [(0, .slice g.2.1 (out ++ [34] ++ (s.take g.1).flatMap escB).length g.2.2), (1, sv s), (5, .int .i64 (g.1 : Int))]) (fun g w' => Sat W w' (RowOf eB 5 1 g.2.1 g.2.2 (out ++ [34] ++ (s.take g.1).flatMap escB) :: L) ∧ g.1 ≤ s.length) (fun g => s.length - g.1) (0, A, c) ⟨by simp only [List.take_zero, List.flatMap_nil, List.append_nil]; rfl, rfl, rfl, trivial⟩ ⟨by simpa using hs, Nat.zero_le _⟩ ?_
  clear hs
  rintro ⟨g, A, c⟩ τ w' ⟨hs, h1⟩
  dsimp only at hs h1 ⊢
  have hbl := flat_len6 (s.take g)
  have htl : (s.take g).length = g := by rw [List.length_take]; omega
  obtain ⟨cur, hcur⟩ : ∃ cur, out ++ [34] ++ (s.take g).flatMap escB = cur := ⟨_, rfl⟩
  have hcl : cur.length ≤ 70368744177664 := by rw [← hcur]; simp only [List.length_append, List.length_singleton]; omega
  by_cases hg : g < s.length
  · obtain ⟨x, hx⟩ : ∃ x, Go.Sl.rd s (g : Int) = x := ⟨_, rfl⟩
    have hx2 : s[g] = x := by rw [← hx]; simp [Go.Sl.rd, hg]
    have hnext : out ++ [34] ++ (s.take (g + 1)).flatMap escB = cur ++ escB x := by
      rw [List.take_succ_eq_append_getElem hg, hx2, ← hcur]; simp
    have hx256 := x.toNat_lt
    rw [hcur] at hs ⊢
    have fin : ∀ (w : World) (sl : List (Nat × Value)) (τ : Nat → Value) (A2 : Option Addr) (c2 : Nat), Sat W w (RowOf eB 5 1 A2 c2 (cur ++ escB x) :: L) → Agr sl [(0, .slice A2 (cur ++ escB x).length c2), (1, sv s), (5, .int .i64 ((g : Int) + 1))] →
        ∃ (g' : Nat × Option Addr × Nat) (τ' : Nat → Value), FR 65 sl τ [] = FR 65 [(0, .slice g'.2.1 (out ++ [34] ++ (s.take g'.1).flatMap escB).length g'.2.2), (1, sv s), (5, .int .i64 (g'.1 : Int))] τ' [] ∧ (Sat W w (RowOf eB 5 1 g'.2.1 g'.2.2 (out ++ [34] ++ (s.take g'.1).flatMap escB) :: L) ∧ g'.1 ≤ s.length) ∧ s.length - g'.1 < s.length - g := fun w sl τ A2 c2 h ha =>
      ⟨((g + 1, A2, c2) : Nat × Option Addr × Nat), _, FR_forget _ (by rw [hnext]; exact ha), ⟨by dsimp only; rw [hnext]; exact h, by dsimp only; omega⟩, by dsimp only; omega⟩
    clear hnext
    unfold escB at fin
    by_cases c0 : x.toNat = 34 ∨ x.toNat = 92
    · rw [if_pos c0] at fin
      (repeat' (first | refine LW_lenN (a := s) TOK rfl rfl rfl rfl rfl ?_ | (refine isLW ?_; first | refine LW_nil ?_ | (refine isLcall ?_; first | (refine LW_append 1 (xs := cur) (ys := [92, x]) eB_ok.1 hs TOK rfl rfl (hs.rdC 0 rfl) eB_ok.2 rfl rfl rfl rfl rfl rfl rfl (by unfold maxLen; simp only [List.length_cons, List.length_nil]; omega) (by simp only [List.length_cons, List.length_nil]; omega) ?_; clear hs; intro A2 c2 w hs)) | (refine isLbin ?_; first | refine LW_i64 rfl (by omega) (by omega) ?_ | (refine LW_cmp rfl (fun _ => ?_) (fun _ => ?_) <;> try (exfalso; omega))) | (refine LW_strIdx (a := s) TOK rfl rfl rfl rfl rfl (by omega) (by omega) ?_; rw [hx]) | refine LW_pure TOK rfl ?_ | (refine LW_buildSlice TOK hs rfl rfl rfl rfl rfl rfl rfl ?_; clear hs; intro _ w hs)) | (with_reducible first | refine then_n ?_ | refine CW_seq ?_ | refine CW_region ?_ | refine CW_block ?_ | refine CW_skip ?_ | refine blk_n ?_) | refine CW_true rfl ?_ | refine CW_false rfl ?_))
      all_goals exact fin _ _ _ A2 c2 hs.drop1 ⟨rfl, rfl, rfl, trivial⟩
    rw [if_neg c0] at fin
    by_cases c8 : x.toNat = 8
    · rw [if_pos c8] at fin
      (repeat' (first | refine LW_lenN (a := s) TOK rfl rfl rfl rfl rfl ?_ | (refine isLW ?_; first | refine LW_nil ?_ | (refine isLcall ?_; first | (refine LW_appendS 0 (xs := cur) (ys := [92, 98]) hs TOK rfl rfl rfl rfl rfl rfl rfl rfl rfl rfl rfl rfl (by simp only [List.length_cons, List.length_nil]; omega) ?_; clear hs; intro A2 c2 w hs)) | (refine isLbin ?_; first | refine LW_i64 rfl (by omega) (by omega) ?_ | (refine LW_cmp rfl (fun _ => ?_) (fun _ => ?_) <;> try (exfalso; omega))) | (refine LW_strIdx (a := s) TOK rfl rfl rfl rfl rfl (by omega) (by omega) ?_; rw [hx]) | refine LW_pure TOK rfl ?_) | (with_reducible first | refine then_n ?_ | refine CW_seq ?_ | refine CW_region ?_ | refine CW_block ?_ | refine CW_skip ?_ | refine blk_n ?_) | refine CW_true rfl ?_ | refine CW_false rfl ?_))
      all_goals exact fin _ _ _ A2 c2 hs ⟨rfl, rfl, rfl, trivial⟩
    rw [if_neg c8] at fin
    by_cases c9 : x.toNat = 9
    · rw [if_pos c9] at fin
      (repeat' (first | refine LW_lenN (a := s) TOK rfl rfl rfl rfl rfl ?_ | (refine isLW ?_; first | refine LW_nil ?_ | (refine isLcall ?_; first | (refine LW_appendS 0 (xs := cur) (ys := [92, 116]) hs TOK rfl rfl rfl rfl rfl rfl rfl rfl rfl rfl rfl rfl (by simp only [List.length_cons, List.length_nil]; omega) ?_; clear hs; intro A2 c2 w hs)) | (refine isLbin ?_; first | refine LW_i64 rfl (by omega) (by omega) ?_ | (refine LW_cmp rfl (fun _ => ?_) (fun _ => ?_) <;> try (exfalso; omega))) | (refine LW_strIdx (a := s) TOK rfl rfl rfl rfl rfl (by omega) (by omega) ?_; rw [hx]) | refine LW_pure TOK rfl ?_) | (with_reducible first | refine then_n ?_ | refine CW_seq ?_ | refine CW_region ?_ | refine CW_block ?_ | refine CW_skip ?_ | refine blk_n ?_) | refine CW_true rfl ?_ | refine CW_false rfl ?_))
      all_goals exact fin _ _ _ A2 c2 hs ⟨rfl, rfl, rfl, trivial⟩
    rw [if_neg c9] at fin
    by_cases c10 : x.toNat = 10
    · rw [if_pos c10] at fin
      (repeat' (first | refine LW_lenN (a := s) TOK rfl rfl rfl rfl rfl ?_ | (refine isLW ?_; first | refine LW_nil ?_ | (refine isLcall ?_; first | (refine LW_appendS 0 (xs := cur) (ys := [92, 110]) hs TOK rfl rfl rfl rfl rfl rfl rfl rfl rfl rfl rfl rfl (by simp only [List.length_cons, List.length_nil]; omega) ?_; clear hs; intro A2 c2 w hs)) | (refine isLbin ?_; first | refine LW_i64 rfl (by omega) (by omega) ?_ | (refine LW_cmp rfl (fun _ => ?_) (fun _ => ?_) <;> try (exfalso; omega))) | (refine LW_strIdx (a := s) TOK rfl rfl rfl rfl rfl (by omega) (by omega) ?_; rw [hx]) | refine LW_pure TOK rfl ?_) | (with_reducible first | refine then_n ?_ | refine CW_seq ?_ | refine CW_region ?_ | refine CW_block ?_ | refine CW_skip ?_ | refine blk_n ?_) | refine CW_true rfl ?_ | refine CW_false rfl ?_))
      all_goals exact fin _ _ _ A2 c2 hs ⟨rfl, rfl, rfl, trivial⟩
    rw [if_neg c10] at fin
    by_cases c12 : x.toNat = 12
    · rw [if_pos c12] at fin
      (repeat' (first | refine LW_lenN (a := s) TOK rfl rfl rfl rfl rfl ?_ | (refine isLW ?_; first | refine LW_nil ?_ | (refine isLcall ?_; first | (refine LW_appendS 0 (xs := cur) (ys := [92, 102]) hs TOK rfl rfl rfl rfl rfl rfl rfl rfl rfl rfl rfl rfl (by simp only [List.length_cons, List.length_nil]; omega) ?_; clear hs; intro A2 c2 w hs)) | (refine isLbin ?_; first | refine LW_i64 rfl (by omega) (by omega) ?_ | (refine LW_cmp rfl (fun _ => ?_) (fun _ => ?_) <;> try (exfalso; omega))) | (refine LW_strIdx (a := s) TOK rfl rfl rfl rfl rfl (by omega) (by omega) ?_; rw [hx]) | refine LW_pure TOK rfl ?_) | (with_reducible first | refine then_n ?_ | refine CW_seq ?_ | refine CW_region ?_ | refine CW_block ?_ | refine CW_skip ?_ | refine blk_n ?_) | refine CW_true rfl ?_ | refine CW_false rfl ?_))
      all_goals exact fin _ _ _ A2 c2 hs ⟨rfl, rfl, rfl, trivial⟩
    rw [if_neg c12] at fin
    by_cases c13 : x.toNat = 13
    · rw [if_pos c13] at fin
      (repeat' (first | refine LW_lenN (a := s) TOK rfl rfl rfl rfl rfl ?_ | (refine isLW ?_; first | refine LW_nil ?_ | (refine isLcall ?_; first | (refine LW_appendS 0 (xs := cur) (ys := [92, 114]) hs TOK rfl rfl rfl rfl rfl rfl rfl rfl rfl rfl rfl rfl (by simp only [List.length_cons, List.length_nil]; omega) ?_; clear hs; intro A2 c2 w hs)) | (refine isLbin ?_; first | refine LW_i64 rfl (by omega) (by omega) ?_ | (refine LW_cmp rfl (fun _ => ?_) (fun _ => ?_) <;> try (exfalso; omega))) | (refine LW_strIdx (a := s) TOK rfl rfl rfl rfl rfl (by omega) (by omega) ?_; rw [hx]) | refine LW_pure TOK rfl ?_) | (with_reducible first | refine then_n ?_ | refine CW_seq ?_ | refine CW_region ?_ | refine CW_block ?_ | refine CW_skip ?_ | refine blk_n ?_) | refine CW_true rfl ?_ | refine CW_false rfl ?_))
      all_goals exact fin _ _ _ A2 c2 hs ⟨rfl, rfl, rfl, trivial⟩
    rw [if_neg c13] at fin
    by_cases c32 : x.toNat < 32
    · rw [if_pos c32] at fin
      obtain ⟨y1, hy1⟩ : ∃ y, Go.Sl.rd hexs ((x.toNat / 16 : Nat) : Int) = y := ⟨_, rfl⟩
      obtain ⟨y2, hy2⟩ : ∃ y, Go.Sl.rd hexs ((x.toNat % 16 : Nat) : Int) = y := ⟨_, rfl⟩
      rw [hy1, hy2] at fin
      have hh : hexs.length = 16 := rfl
      obtain ⟨k1, hk1⟩ : ∃ k, x.toNat / 16 = k := ⟨_, rfl⟩
      obtain ⟨k2, hk2⟩ : ∃ k, x.toNat % 16 = k := ⟨_, rfl⟩
      rw [hk1] at hy1
      rw [hk2] at hy2
      have hs4 : shV .shr .u8 (x.toNat : Int) 4 = some (k1 : Int) := (shr4 x.toNat rfl rfl).trans (by rw [hk1])
      have ha15 : bitV .and .u8 (x.toNat : Int) 15 = some (k2 : Int) := (and15 x.toNat (by omega) rfl rfl).trans (by rw [hk2])
      have hk1b : k1 < 16 := by omega
      have hk2b : k2 < 16 := by omega
      (repeat' (first | refine LW_lenN (a := s) TOK rfl rfl rfl rfl rfl ?_ | (refine isLW ?_; first | refine LW_nil ?_ | (refine isLcall ?_; first | (refine LW_append 1 (xs := cur) (ys := [92, 117, 48, 48, y1, y2]) eB_ok.1 hs TOK rfl rfl (hs.rdC 0 rfl) eB_ok.2 rfl rfl rfl rfl rfl rfl rfl (by unfold maxLen; simp only [List.length_cons, List.length_nil]; omega) (by simp only [List.length_cons, List.length_nil]; omega) ?_; clear hs; intro A2 c2 w hs)) | (refine isLbin ?_; first | refine LW_i64 rfl (by omega) (by omega) ?_ | (refine LW_cmp rfl (fun _ => ?_) (fun _ => ?_) <;> try (exfalso; omega))) | (refine LW_strIdx (a := s) TOK rfl rfl rfl rfl rfl (by omega) (by omega) ?_; rw [hx]) | refine LW_pure TOK rfl ?_ | (refine LW_buildSlice TOK hs rfl rfl rfl rfl rfl rfl rfl ?_; clear hs; intro _ w hs)) | (refine isDP ?_; first | (refine isDnil ?_; first | refine DP_end ?_ ?_) | (refine isDe rfl ?_; first | refine DP_eff rfl rfl ?_ ?_) | (refine isDbin rfl ?_; first | refine DP_shiftE _ rfl rfl (by first | exact trivial | rfl) rfl rfl (by omega) hs4 rfl ?_ | refine DP_bitsE _ rfl rfl (by first | exact trivial | rfl) rfl rfl ha15 rfl ?_) | (refine DP_strIdx (a := hexs) (i := (k1 : Int)) TOK rfl rfl (by first | exact trivial | rfl) rfl rfl rfl rfl rfl (by omega) (by rw [hh]; omega) ?_; rw [hy1]) | (refine DP_strIdx (a := hexs) (i := (k2 : Int)) TOK rfl rfl (by first | exact trivial | rfl) rfl rfl rfl rfl rfl (by omega) (by rw [hh]; omega) ?_; rw [hy2]) | refine DP_pure TOK rfl rfl (by first | exact trivial | rfl) rfl ?_) | (refine isI0 ?_; exact Inv.nil) | (with_reducible first | refine then_n ?_ | refine CW_seq ?_ | refine CW_region ?_ | refine CW_block ?_ | refine CW_skip ?_ | refine blk_n ?_) | refine CW_true rfl ?_ | refine CW_false rfl ?_ | (refine CW_drawP (id := 8) [7, 8] [0, 1, 2, 3, 4, 5, 6, 7, 8, 9] mixed (by kernel_rfl) hs ?_; clear hs; intro hs)))
      all_goals exact fin _ _ _ A2 c2 hs.drop1 ⟨rfl, rfl, rfl, trivial⟩
    rw [if_neg c32] at fin
    (repeat' (first | refine LW_lenN (a := s) TOK rfl rfl rfl rfl rfl ?_ | (refine isLW ?_; first | refine LW_nil ?_ | (refine isLcall ?_; first | (refine LW_append1 0 (xs := cur) (z := x) eB_ok hs TOK rfl rfl rfl rfl rfl rfl rfl rfl rfl rfl (by unfold maxLen; omega) (by simp only []; omega) ?_; clear hs; intro A2 c2 w hs)) | (refine isLbin ?_; first | refine LW_i64 rfl (by omega) (by omega) ?_ | (refine LW_cmp rfl (fun _ => ?_) (fun _ => ?_) <;> try (exfalso; omega))) | (refine LW_strIdx (a := s) TOK rfl rfl rfl rfl rfl (by omega) (by omega) ?_; rw [hx]) | refine LW_pure TOK rfl ?_ | (refine LW_buildSlice TOK hs rfl rfl rfl rfl rfl rfl rfl ?_; clear hs; intro _ w hs)) | (with_reducible first | refine then_n ?_ | refine CW_seq ?_ | refine CW_region ?_ | refine CW_block ?_ | refine CW_skip ?_ | refine blk_n ?_) | refine CW_true rfl ?_ | refine CW_false rfl ?_))
    all_goals exact fin _ _ _ A2 c2 hs ⟨rfl, rfl, rfl, trivial⟩
  · have hge : g = s.length := by omega
    subst hge
    rw [List.take_length] at hcur
    have hq : out ++ quoteB s = cur ++ [34] := by rw [← hcur]; unfold quoteB; simp
    rw [List.take_length, hcur] at hs ⊢
    rw [hq]
    (repeat' (first | refine LW_lenN (a := s) TOK rfl rfl rfl rfl rfl ?_ | (refine isLW ?_; first | refine LW_nil ?_ | (refine isLcall ?_; first | (refine LW_append1 0 (xs := cur) (z := (34 : UInt8)) eB_ok hs TOK rfl rfl rfl rfl rfl rfl rfl rfl rfl rfl (by unfold maxLen; omega) (by simp only []; omega) ?_; clear hs; intro A2 c2 w hs)) | (refine isLbin ?_; first | (refine LW_cmp rfl (fun _ => ?_) (fun _ => ?_) <;> try (exfalso; omega))) | refine LW_pure TOK rfl ?_ | (refine LW_buildSlice TOK hs rfl rfl rfl rfl rfl rfl rfl ?_; clear hs; intro _ w hs)) | (with_reducible first | refine then_n ?_ | refine CW_seq ?_ | refine CW_region ?_ | refine CW_exit ?_ | refine CW_ret ?_ | refine then_e ?_ | refine blk_same ?_) | refine CW_false rfl ?_ | refine RET1 Tryd.results50 rfl ?_))
    all_goals exact ⟨A2, c2, rfl, hs⟩
end
end Go.Proofs.YtbmeafeojcgndaaDoor
