/- Walks: a code point as UTF-8, behind a row of bytes. -/
import Derived.Test.YtbmeafeojcgndaaDoorV2
set_option linter.unusedVariables false
set_option linter.unusedSimpArgs false
namespace Go.Proofs.YtbmeafeojcgndaaDoor
open Go Go.Sl Go.RowKit
set_option maxRecDepth 100000
attribute [local irreducible] CW LW DW FR DP Calls Res Ret
/-- A code point as UTF-8. -/
def utf8 (r : Nat) : List UInt8 :=
  if r < 128 then [UInt8.ofNat r] else if r < 2048 then [UInt8.ofNat (192 + r / 64), UInt8.ofNat (128 + r % 64)]
  else if r < 65536 then [UInt8.ofNat (224 + r / 4096), UInt8.ofNat (128 + r / 64 % 64), UInt8.ofNat (128 + r % 64)]
  else [UInt8.ofNat (240 + r / 262144), UInt8.ofNat (128 + r / 4096 % 64), UInt8.ofNat (128 + r / 64 % 64), UInt8.ofNat (128 + r % 64)]
/-- A code point that UTF-8 writes. -/
def okR (r : Nat) : Prop := r ≤ 1114111 ∧ (r < 55296 ∨ 57343 < r)
theorem shr_nat (r k : Nat) : (r : Int).fdiv (2 ^ k) = ((r / 2 ^ k : Nat) : Int) := by
  have : ((2 : Int) ^ k) = ((2 ^ k : Nat) : Int) := by norm_cast
  rw [this, Int.fdiv_eq_ediv_of_nonneg _ (Int.natCast_nonneg _)]
  norm_cast
theorem shrE6 {r d : Nat} {y : Int} (hy : y = 6) (hd : r / 64 = d) : shV .shr .i32 (r : Int) y = some (d : Int) := by
  subst hy hd; exact congrArg some (shr_nat r 6)
theorem shrE12 {r d : Nat} {y : Int} (hy : y = 12) (hd : r / 4096 = d) : shV .shr .i32 (r : Int) y = some (d : Int) := by
  subst hy hd; exact congrArg some (shr_nat r 12)
theorem shrE18 {r d : Nat} {y : Int} (hy : y = 18) (hd : r / 262144 = d) : shV .shr .i32 (r : Int) y = some (d : Int) := by
  subst hy hd; exact congrArg some (shr_nat r 18)
theorem cv8 (n : Nat) : IntKind.u8.wrap (n : Int) = ((n % 256 : Nat) : Int) := by
  unfold IntKind.wrap
  have : (2 ^ IntKind.u8.bits : Int) = 256 := rfl
  simp only [this]
  simp [IntKind.signed]
theorem cv32 {n : Nat} (h : n < 4294967296) : IntKind.u32.wrap (n : Int) = (n : Int) := by
  unfold IntKind.wrap
  have : (2 ^ IntKind.u32.bits : Int) = 4294967296 := rfl
  simp only [this]
  simp [IntKind.signed]
  omega
theorem and63_all : ∀ n : Fin 256, bitV .and .u8 ((n.val : Nat) : Int) 63 = some ((n.val % 64 : Nat) : Int) := by decide
theorem and63 {a y : Int} (n : Nat) (h : a = ((n % 256 : Nat) : Int)) (hy : y = 63) : bitV .and .u8 a y = some ((n % 64 : Nat) : Int) := by
  subst h hy
  have := and63_all ⟨n % 256, by omega⟩
  rw [this]
  congr 2
  show n % 256 % 64 = n % 64
  omega
theorem or192 : ∀ n : Fin 32, bitV .or .u8 192 ((n.val : Nat) : Int) = some ((UInt8.ofNat (192 + n.val)).toNat : Int) := by decide
theorem or224 : ∀ n : Fin 16, bitV .or .u8 224 ((n.val : Nat) : Int) = some ((UInt8.ofNat (224 + n.val)).toNat : Int) := by decide
theorem or240 : ∀ n : Fin 8, bitV .or .u8 240 ((n.val : Nat) : Int) = some ((UInt8.ofNat (240 + n.val)).toNat : Int) := by decide
theorem or128 : ∀ n : Fin 64, bitV .or .u8 128 ((n.val : Nat) : Int) = some ((UInt8.ofNat (128 + n.val)).toNat : Int) := by decide
theorem or192' {a y : Int} {q : UInt8} (n : Nat) (h : n < 32) (ha : a = ((n % 256 : Nat) : Int)) (hy : y = 192) (hq : q = UInt8.ofNat (192 + n)) : bitV .or .u8 y a = some (q.toNat : Int) := by
  subst ha hy hq; rw [Nat.mod_eq_of_lt (by omega)]; exact or192 ⟨n, h⟩
theorem or224' {a y : Int} {q : UInt8} (n : Nat) (h : n < 16) (ha : a = ((n % 256 : Nat) : Int)) (hy : y = 224) (hq : q = UInt8.ofNat (224 + n)) : bitV .or .u8 y a = some (q.toNat : Int) := by
  subst ha hy hq; rw [Nat.mod_eq_of_lt (by omega)]; exact or224 ⟨n, h⟩
theorem or240' {a y : Int} {q : UInt8} (n : Nat) (h : n < 8) (ha : a = ((n % 256 : Nat) : Int)) (hy : y = 240) (hq : q = UInt8.ofNat (240 + n)) : bitV .or .u8 y a = some (q.toNat : Int) := by
  subst ha hy hq; rw [Nat.mod_eq_of_lt (by omega)]; exact or240 ⟨n, h⟩
theorem or128' {a y : Int} {q : UInt8} (n : Nat) (ha : a = ((n % 64 : Nat) : Int)) (hy : y = 128) (hq : q = UInt8.ofNat (128 + n % 64)) : bitV .or .u8 y a = some (q.toNat : Int) := by
  subst ha hy hq; exact or128 ⟨n % 64, Nat.mod_lt _ (by omega)⟩
section
variable {W : World} {L : List HProp}
set_option maxHeartbeats 2000000 in
theorem appendHigh_call (w : World) (xs : List UInt8) (A : Option Addr) (c r : Nat) (hs : Sat W w (RowOf eB 5 1 A c xs :: L)) (hr : okR r) (h128 : 128 ≤ r) (hx : xs.length ≤ 70368744177664) :
    Calls Tryd.prog 73 [Value.slice A xs.length c, .int .i32 (r : Int)].toArray w (Ret fun v w' => ∃ A' c', v = .slice A' (xs ++ utf8 r).length c' ∧ Sat W w' (RowOf eB 5 1 A' c' (xs ++ utf8 r) :: L)) := by
  refine Calls_of Tryd.func73 rfl 78 Tryd.ntmps73 rfl ?_
  obtain ⟨hr1, hr2⟩ := hr
  unfold utf8
  rw [if_neg (by omega)]
  obtain ⟨d6, hd6⟩ : ∃ d, r / 64 = d := ⟨_, rfl⟩
  obtain ⟨d12, hd12⟩ : ∃ d, r / 4096 = d := ⟨_, rfl⟩
  obtain ⟨d18, hd18⟩ : ∃ d, r / 262144 = d := ⟨_, rfl⟩
  rw [hd6, hd12, hd18]
  by_cases h1 : r < 2048
  · rw [if_pos h1]
    obtain ⟨q1, hq1⟩ : ∃ q, q = UInt8.ofNat (192 + d6) := ⟨_, rfl⟩
    obtain ⟨q2, hq2⟩ : ∃ q, q = UInt8.ofNat (128 + r % 64) := ⟨_, rfl⟩
    rw [← hq1, ← hq2]
    (repeat' (first | (refine isLW ?_; first | refine LW_nil ?_ | (refine isLcall ?_; first | (refine LW_append 1 (xs := xs) (ys := [q1, q2]) eB_ok.1 hs TOK rfl rfl (hs.rdC 0 rfl) eB_ok.2 rfl rfl rfl rfl rfl rfl rfl (by unfold maxLen; simp only [List.length_cons, List.length_nil]; omega) (by simp only [List.length_cons, List.length_nil]; omega) ?_; clear hs; intro A2 c2 w hs)) | (refine isLbin ?_; first | refine LW_shift rfl rfl (by omega) (shrE6 (by omega) hd6) ?_ | refine LW_bits rfl rfl (and63 r (by omega) (by omega)) ?_ | refine LW_bits rfl rfl (or192' d6 (by omega) (by omega) (by omega) hq1) ?_ | refine LW_bits rfl rfl (or128' r (by omega) (by omega) hq2) ?_ | (refine LW_cmp rfl (fun _ => ?_) (fun _ => ?_) <;> try (exfalso; omega))) | refine LW_convE (r : Int) TOK rfl rfl rfl rfl (cv32 (by omega)) ?_ | refine LW_convE _ TOK rfl rfl rfl rfl (cv8 _) ?_ | refine LW_pure TOK rfl ?_ | (refine LW_buildSlice TOK hs rfl rfl rfl rfl rfl rfl rfl ?_; clear hs; intro _ w hs)) | (with_reducible first | refine then_n ?_ | refine CW_seq ?_ | refine CW_region ?_ | refine CW_block ?_ | refine CW_ret ?_ | refine blk_r ?_) | refine CW_true rfl ?_ | refine RET1 Tryd.results73 rfl ?_))
    all_goals exact ⟨A2, c2, rfl, hs.drop1⟩
  rw [if_neg h1]
  by_cases h2 : r < 65536
  · rw [if_pos h2]
    obtain ⟨q1, hq1⟩ : ∃ q, q = UInt8.ofNat (224 + d12) := ⟨_, rfl⟩
    obtain ⟨q2, hq2⟩ : ∃ q, q = UInt8.ofNat (128 + d6 % 64) := ⟨_, rfl⟩
    obtain ⟨q3, hq3⟩ : ∃ q, q = UInt8.ofNat (128 + r % 64) := ⟨_, rfl⟩
    rw [← hq1, ← hq2, ← hq3]
    (repeat' (first | (refine isLW ?_; first | refine LW_nil ?_ | (refine isLg ?_; first | refine LW_take rfl ?_) | (refine isLcall ?_; first | (refine LW_append 1 (xs := xs) (ys := [q1, q2, q3]) eB_ok.1 hs TOK rfl rfl (hs.rdC 0 rfl) eB_ok.2 rfl rfl rfl rfl rfl rfl rfl (by unfold maxLen; simp only [List.length_cons, List.length_nil]; omega) (by simp only [List.length_cons, List.length_nil]; omega) ?_; clear hs; intro A2 c2 w hs)) | (refine isLbin ?_; first | refine LW_shift rfl rfl (by omega) (shrE6 (by omega) hd6) ?_ | refine LW_shift rfl rfl (by omega) (shrE12 (by omega) hd12) ?_ | refine LW_bits rfl rfl (and63 d6 (by omega) (by omega)) ?_ | refine LW_bits rfl rfl (and63 r (by omega) (by omega)) ?_ | refine LW_bits rfl rfl (or224' d12 (by omega) (by omega) (by omega) hq1) ?_ | refine LW_bits rfl rfl (or128' d6 (by omega) (by omega) hq2) ?_ | refine LW_bits rfl rfl (or128' r (by omega) (by omega) hq3) ?_ | (refine LW_cmp rfl (fun _ => ?_) (fun _ => ?_) <;> try (exfalso; omega))) | refine LW_convE (r : Int) TOK rfl rfl rfl rfl (cv32 (by omega)) ?_ | refine LW_convE _ TOK rfl rfl rfl rfl (cv8 _) ?_ | refine LW_pure TOK rfl ?_ | (refine LW_buildSlice TOK hs rfl rfl rfl rfl rfl rfl rfl ?_; clear hs; intro _ w hs)) | (with_reducible first | refine then_n ?_ | refine CW_seq ?_ | refine CW_region ?_ | refine CW_block ?_ | refine CW_skip ?_ | refine CW_ret ?_ | refine blk_r ?_) | refine CW_true rfl ?_ | refine CW_false rfl ?_ | refine RET1 Tryd.results73 rfl ?_))
    all_goals exact ⟨A2, c2, rfl, hs.drop1⟩
  · rw [if_neg h2]
    obtain ⟨q1, hq1⟩ : ∃ q, q = UInt8.ofNat (240 + d18) := ⟨_, rfl⟩
    obtain ⟨q2, hq2⟩ : ∃ q, q = UInt8.ofNat (128 + d12 % 64) := ⟨_, rfl⟩
    obtain ⟨q3, hq3⟩ : ∃ q, q = UInt8.ofNat (128 + d6 % 64) := ⟨_, rfl⟩
    obtain ⟨q4, hq4⟩ : ∃ q, q = UInt8.ofNat (128 + r % 64) := ⟨_, rfl⟩
    rw [← hq1, ← hq2, ← hq3, ← hq4]
    (repeat' (first | (refine isLW ?_; first | refine LW_nil ?_ | (refine isLg ?_; first | refine LW_take rfl ?_) | (refine isLcall ?_; first | (refine LW_append 1 (xs := xs) (ys := [q1, q2, q3, q4]) eB_ok.1 hs TOK rfl rfl (hs.rdC 0 rfl) eB_ok.2 rfl rfl rfl rfl rfl rfl rfl (by unfold maxLen; simp only [List.length_cons, List.length_nil]; omega) (by simp only [List.length_cons, List.length_nil]; omega) ?_; clear hs; intro A2 c2 w hs)) | (refine isLbin ?_; first | refine LW_shift rfl rfl (by omega) (shrE6 (by omega) hd6) ?_ | refine LW_shift rfl rfl (by omega) (shrE12 (by omega) hd12) ?_ | refine LW_shift rfl rfl (by omega) (shrE18 (by omega) hd18) ?_ | refine LW_bits rfl rfl (and63 d12 (by omega) (by omega)) ?_ | refine LW_bits rfl rfl (and63 d6 (by omega) (by omega)) ?_ | refine LW_bits rfl rfl (and63 r (by omega) (by omega)) ?_ | refine LW_bits rfl rfl (or240' d18 (by omega) (by omega) (by omega) hq1) ?_ | refine LW_bits rfl rfl (or128' d12 (by omega) (by omega) hq2) ?_ | refine LW_bits rfl rfl (or128' d6 (by omega) (by omega) hq3) ?_ | refine LW_bits rfl rfl (or128' r (by omega) (by omega) hq4) ?_ | (refine LW_cmp rfl (fun _ => ?_) (fun _ => ?_) <;> try (exfalso; omega))) | refine LW_convE (r : Int) TOK rfl rfl rfl rfl (cv32 (by omega)) ?_ | refine LW_convE _ TOK rfl rfl rfl rfl (cv8 _) ?_ | refine LW_pure TOK rfl ?_ | (refine LW_buildSlice TOK hs rfl rfl rfl rfl rfl rfl rfl ?_; clear hs; intro _ w hs)) | (with_reducible first | refine then_n ?_ | refine CW_seq ?_ | refine CW_region ?_ | refine CW_block ?_ | refine CW_ret ?_ | refine blk_r ?_) | refine CW_true rfl ?_ | refine CW_false rfl ?_ | refine RET1 Tryd.results73 rfl ?_))
    all_goals exact ⟨A2, c2, rfl, hs.drop1⟩
set_option maxHeartbeats 1000000 in
theorem appendRune_call (w : World) (xs : List UInt8) (A : Option Addr) (c r : Nat) (hs : Sat W w (RowOf eB 5 1 A c xs :: L)) (hr : okR r) (hx : xs.length ≤ 70368744177664) :
    Calls Tryd.prog 53 [Value.slice A xs.length c, .int .i32 (r : Int)].toArray w (Ret fun v w' => ∃ A' c', v = .slice A' (xs ++ utf8 r).length c' ∧ Sat W w' (RowOf eB 5 1 A' c' (xs ++ utf8 r) :: L)) := by
  refine Calls_of Tryd.func53 rfl 16 Tryd.ntmps53 rfl ?_
  have hr0 := hr
  obtain ⟨hr1, hr2⟩ := hr
  by_cases h1 : r < 128
  · have e : utf8 r = [UInt8.ofNat r] := by unfold utf8; rw [if_pos h1]
    obtain ⟨q1, hq1⟩ : ∃ q, q = UInt8.ofNat r := ⟨_, rfl⟩
    have e8 : IntKind.u8.wrap (r : Int) = (q1.toNat : Int) := by rw [cv8, hq1]; simp
    rw [e, ← hq1]
    (repeat' (first | (refine isLW ?_; first | refine LW_nil ?_ | (refine isLcall ?_; first | (refine LW_append1 0 (xs := xs) (z := q1) eB_ok hs TOK rfl rfl rfl rfl rfl rfl rfl rfl rfl rfl (by unfold maxLen; omega) (by simp only []; omega) ?_; clear hs; intro A2 c2 w hs)) | (refine isLbin ?_; first | (refine LW_cmp rfl (fun _ => ?_) (fun _ => ?_) <;> try (exfalso; omega))) | refine LW_convE (r : Int) TOK rfl rfl rfl rfl (cv32 (by omega)) ?_ | refine LW_convE _ TOK rfl rfl rfl rfl e8 ?_ | refine LW_pure TOK rfl ?_ | (refine LW_buildSlice TOK hs rfl rfl rfl rfl rfl rfl rfl ?_; clear hs; intro _ w hs)) | (with_reducible first | refine then_n ?_ | refine CW_seq ?_ | refine CW_region ?_ | refine CW_ret ?_ | refine then_r ?_) | refine CW_true rfl ?_ | refine RET1 Tryd.results53 rfl ?_))
    all_goals exact ⟨A2, c2, rfl, hs⟩
  · (repeat' (first | (refine isLW ?_; first | refine LW_nil ?_ | (refine isLcall ?_; first | (refine LW_call (cap := []) rfl rfl ent73 (appendHigh_call _ xs A c r hs hr0 (by omega) hx) ?_; clear hs; rintro _ w2 ⟨A2, c2, rfl, hs⟩)) | (refine isLbin ?_; first | (refine LW_cmp rfl (fun _ => ?_) (fun _ => ?_) <;> try (exfalso; omega))) | refine LW_convE (r : Int) TOK rfl rfl rfl rfl (cv32 (by omega)) ?_ | refine LW_pure TOK rfl ?_) | (with_reducible first | refine then_n ?_ | refine CW_seq ?_ | refine CW_region ?_ | refine CW_skip ?_ | refine CW_ret ?_) | refine CW_false rfl ?_ | refine RET1 Tryd.results53 rfl ?_))
    all_goals exact ⟨A2, c2, rfl, hs⟩
end
end Go.Proofs.YtbmeafeojcgndaaDoor
