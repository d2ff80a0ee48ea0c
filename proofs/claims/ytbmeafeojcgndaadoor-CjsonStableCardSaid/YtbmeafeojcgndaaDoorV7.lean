/- Walks: what digits and a power of ten are worth. -/
import Derived.Test.YtbmeafeojcgndaaDoorV6
set_option linter.unusedVariables false
set_option linter.unusedSimpArgs false
namespace Go.Proofs.YtbmeafeojcgndaaDoor
open Go Go.Sl Go.RowKit
set_option maxRecDepth 100000
attribute [local irreducible] CW LW DW FR DP Calls Res Ret
def lz : List UInt8 → List UInt8
  | [] => []
  | c :: l => if c.toNat = 48 then lz l else c :: l
def rz (a : List UInt8) : List UInt8 := (lz a.reverse).reverse
theorem rz_snoc (l : List UInt8) (c : UInt8) : rz (l ++ [c]) = if c.toNat = 48 then rz l else l ++ [c] := by
  unfold rz
  rw [List.reverse_append]
  show (if c.toNat = 48 then lz l.reverse else c :: l.reverse).reverse = _
  split
  · rfl
  · simp
theorem rz_nil : rz [] = [] := rfl
def nV (a : List UInt8) : Nat → Nat
  | 0 => 0
  | i + 1 => 10 * nV a i + (if i < a.length then (Go.Sl.rd a (i : Int)).toNat - 48 else 0)
theorem nV_succ (a : List UInt8) (i : Nat) : nV a (i + 1) = 10 * nV a i + (if i < a.length then (Go.Sl.rd a (i : Int)).toNat - 48 else 0) := rfl
theorem nV_lt {a : List UInt8} (ha : ∀ x ∈ a, digit x = true) : ∀ i, nV a i < 10 ^ i
  | 0 => by simp [nV]
  | i + 1 => by
    have h := nV_lt ha i
    rw [nV_succ, Nat.pow_succ]
    split
    · rename_i hi
      have h2 := ha _ (List.getElem_mem hi)
      rw [← rd_at hi] at h2
      have h3 : (Go.Sl.rd a (i : Int)).toNat ≤ 57 := by unfold digit at h2; simp at h2; omega
      omega
    · omega
def worthN (a : List UInt8) (pw : Int) (minus : Bool) : Int × Int :=
  if a.length = 0 then (0, 0) else if pw < 0 then (0, 132) else if 19 < (a.length : Int) + pw then (0, 133)
  else if 9223372036854775808 < nV a (a.length + pw.toNat) ∨ (nV a (a.length + pw.toNat) = 9223372036854775808 ∧ minus = false) then (0, 133)
  else if minus then (-(nV a (a.length + pw.toNat) : Int), 0) else ((nV a (a.length + pw.toNat) : Int), 0)
/-- The integer that digits and a power of ten are, or why they are none. -/
def worthP (all : List UInt8) (power : Int) (minus : Bool) : Int × Int := worthN (rz (lz all)) (power + (((lz all).length : Int) - ((rz (lz all)).length : Int))) minus
theorem Rd_sliced {w : World} {A : Option Addr} {xs : List UInt8} {c k : Nat} (h : Rd eB w A xs) (hc : xs.length ≤ c) (hk : k ≤ xs.length) : Rd eB w (slicedA A k c (k * 1)) (xs.drop k) := by
  unfold slicedA
  split
  · rename_i e
    have : xs.drop k = [] := List.drop_of_length_le (by omega)
    rw [this]; exact .inl rfl
  · exact h.drop (sz := 1) (fun _ => rfl) k hk
theorem negc {n : Nat} (h : n ≤ 9223372036854775808) : IntKind.i64.wrap (IntKind.u64.wrap (0 - (n : Int))) = -(n : Int) := by
  unfold IntKind.wrap
  have e1 : (2 ^ IntKind.u64.bits : Int) = 18446744073709551616 := rfl
  have e2 : (2 ^ IntKind.i64.bits : Int) = 18446744073709551616 := rfl
  have e3 : (2 ^ (IntKind.i64.bits - 1) : Int) = 9223372036854775808 := rfl
  have e4 : IntKind.u64.signed = false := rfl
  have e5 : IntKind.i64.signed = true := rfl
  simp only [e1, e2, e3, e4, e5, Bool.false_and, Bool.true_and]
  simp only [Bool.false_eq_true, if_false]
  by_cases h0 : n = 0
  · subst h0; decide
  · have : (0 - (n : Int)) % 18446744073709551616 = 18446744073709551616 - n := by omega
    rw [this]
    have h2 : (18446744073709551616 - (n : Int)) % 18446744073709551616 = 18446744073709551616 - n := by omega
    rw [h2]
    rw [if_pos (by simp; omega)]
    omega
theorem lz_mem : ∀ {l : List UInt8} {x : UInt8}, x ∈ lz l → x ∈ l
  | [], _, h => by cases h
  | c :: l, x, h => by
    unfold lz at h
    split at h
    · exact List.mem_cons_of_mem _ (lz_mem h)
    · exact h
theorem rz_mem {l : List UInt8} {x : UInt8} (h : x ∈ rz l) : x ∈ l := by
  unfold rz at h
  exact List.mem_reverse.1 (lz_mem (List.mem_reverse.1 h))
theorem lz_len : ∀ l : List UInt8, (lz l).length ≤ l.length
  | [] => Nat.le_refl _
  | c :: l => by unfold lz; split <;> simp; have := lz_len l; omega
theorem LW_unE {r : Option Nat} {P : Program} {Q : Exit → Act → World → Prop} {ops : Array Oper} {n : Nat} {s : List (Nat × Value)} {τ : Nat → Value} {ds : List Deferred} {w : World} {rest : List Oper} {d : Nat} {ty : TypeId} {ps : String} {af : Array Edge} {op : Op} {k : IntKind} {e : Int} (e' : Int) (h : evalArith n s op = some (k, e)) (he : k.wrap e = e') (c : LW r P ops Q rest (FR n ((d, .int k e') :: s) τ ds) w) :
    LW r P ops Q (⟨some d, op, ty, ps, af, none⟩ :: rest) (FR n s τ ds) w := LW_arithE e' h he c
section
set_option maxHeartbeats 2000000 in
theorem worth_call (w : World) (all : List UInt8) (A : Option Addr) (c : Nat) (power : Int) (minus : Bool) (rb : Rd eB w A all) (hc : all.length ≤ c) (hd : ∀ x ∈ all, digit x = true) (hl : all.length ≤ 140737488355328) (hp0 : -4398046511104000 ≤ power) (hp1 : power ≤ 4398046511104000) :
    Calls Tryd.prog 61 [Value.slice A all.length c, .int .i64 power, .bool minus].toArray w (Ret fun v w' => v = .tuple #[.int .i64 (worthP all power minus).1, .int .i64 (worthP all power minus).2] ∧ Sat w w' []) := by
  refine Calls_of Tryd.func61 rfl 91 Tryd.ntmps61 rfl ?_
  have hs := Sat.start w
  (repeat' (first | refine CW_late2 (fun a w1 => ∃ (xs : List UInt8) (A1 : Option Addr) (c1 : Nat) (τ : Nat → Value), a = FR 91 [(0, .slice A1 xs.length c1), (1, .int .i64 power), (2, .bool minus)] τ [] ∧ Sat w w1 [] ∧ Rd eB w A1 xs ∧ xs.length ≤ c1 ∧ xs = lz all) ?_ ?_))
  · clear hs
    rintro _ w1 ⟨xs, A1, c1, τ, rfl, hs, r1, h1, hxs⟩
    unfold worthP
    rw [← hxs]
    have hdx : ∀ x ∈ xs, digit x = true := fun x hx => hd x (lz_mem (by rw [← hxs]; exact hx))
    have h3 : xs.length ≤ 140737488355328 := by have := lz_len all; rw [hxs]; omega
    clear hxs hd hl hc rb
    refine CW_late1 (fun a w1 => ∃ (k : Nat) (τ : Nat → Value), a = FR 91 [(0, .slice A1 k c1), (1, .int .i64 (power + ((xs.length : Int) - (k : Int)))), (2, .bool minus)] τ [] ∧ Sat w w1 [] ∧ k ≤ xs.length ∧ xs.take k = rz xs) ?_ ?_
    · clear hs
      rintro _ w1 ⟨k, τ, rfl, hs, h2, h4⟩
      have hkl : k = (rz xs).length := by rw [← h4, List.length_take]; omega
      have r2 : Rd eB w A1 (rz xs) := by rw [← h4]; exact r1.take k
      have hda : ∀ x ∈ rz xs, digit x = true := fun x hx => hdx x (rz_mem hx)
      have hal : (rz xs).length ≤ xs.length := by omega
      obtain ⟨pw, hpw⟩ : ∃ pw, power + ((xs.length : Int) - (k : Int)) = pw := ⟨_, rfl⟩
      rw [← hkl, hpw]
      have hpb : pw ≤ 281474976710656000 := by omega
      have hpb0 : -281474976710656000 ≤ pw := by omega
      obtain ⟨a, ha⟩ : ∃ a, rz xs = a := ⟨_, rfl⟩
      rw [ha] at r2 hda hal hkl ⊢
      subst hkl
      have hal2 : a.length ≤ 140737488355328 := by omega
      clear r1 h4 ha h2 hdx h1 hp0 hp1 hpw
      unfold worthN
      by_cases e1 : a.length = 0
      · rw [if_pos e1]
        (repeat' (first | (refine isLW ?_; first | refine LW_nil ?_ | (refine isLcall ?_; first | refine LW_pure TOK rfl ?_) | (refine isLbin ?_; first | (refine LW_cmp rfl (fun _ => ?_) (fun _ => ?_) <;> try (exfalso; omega))) | refine LW_pure TOK rfl ?_) | (with_reducible first | refine then_n ?_ | refine CW_seq ?_ | refine CW_region ?_ | refine CW_block ?_ | refine CW_ret ?_ | refine then_r ?_ | refine blk_r ?_) | refine CW_true rfl ?_ | refine RET2 Tryd.results61 rfl rfl ?_))
        all_goals exact ⟨rfl, hs⟩
      rw [if_neg e1]
      by_cases e2 : pw < 0
      · rw [if_pos e2]
        (repeat' (first | (refine isLW ?_; first | refine LW_nil ?_ | (refine isLcall ?_; first | refine LW_pure TOK rfl ?_) | (refine isLbin ?_; first | (refine LW_cmp rfl (fun _ => ?_) (fun _ => ?_) <;> try (exfalso; omega))) | refine LW_pure TOK rfl ?_) | (with_reducible first | refine then_n ?_ | refine CW_seq ?_ | refine CW_region ?_ | refine CW_block ?_ | refine CW_ret ?_ | refine then_r ?_ | refine blk_r ?_) | refine CW_true rfl ?_ | refine CW_false rfl ?_ | refine RET2 Tryd.results61 rfl rfl ?_))
        all_goals exact ⟨rfl, hs⟩
      rw [if_neg e2]
      by_cases e3 : 19 < (a.length : Int) + pw
      · rw [if_pos e3]
        (repeat' (first | (refine isLW ?_; first | refine LW_nil ?_ | (refine isLcall ?_; first | refine LW_pure TOK rfl ?_) | (refine isLbin ?_; first | refine LW_i64 rfl (by omega) (by omega) ?_ | (refine LW_cmp rfl (fun _ => ?_) (fun _ => ?_) <;> try (exfalso; omega))) | refine LW_pure TOK rfl ?_) | (with_reducible first | refine then_n ?_ | refine CW_seq ?_ | refine CW_region ?_ | refine CW_block ?_ | refine CW_ret ?_ | refine then_r ?_ | refine blk_r ?_) | refine CW_true rfl ?_ | refine CW_false rfl ?_ | refine RET2 Tryd.results61 rfl rfl ?_))
        all_goals exact ⟨rfl, hs⟩
      rw [if_neg e3]
      obtain ⟨pn, rfl⟩ : ∃ pn : Nat, pw = pn := ⟨pw.toNat, by omega⟩
      have hm : a.length + (pn : Int).toNat = a.length + pn := rfl
      rw [hm]
      (repeat' (first | (refine isLW ?_; first | refine LW_nil ?_ | (refine isLcall ?_; first | refine LW_pure TOK rfl ?_) | (refine isLbin ?_; first | refine LW_i64 rfl (by omega) (by omega) ?_ | (refine LW_cmp rfl (fun _ => ?_) (fun _ => ?_) <;> try (exfalso; omega))) | refine LW_pure TOK rfl ?_) | (with_reducible first | refine then_n ?_ | refine CW_seq ?_ | refine CW_region ?_ | refine CW_block ?_ | refine CW_skip ?_ | refine blk_n ?_) | refine CW_false rfl ?_))
      refine CW_loop (γ := Nat) (fun g => [(0, .slice A1 a.length c1), (2, .bool minus), (8, .int .u64 (nV a g : Int)), (56, .int .i64 ((a.length : Int) + (pn : Int))), (57, .int .i64 (g : Int))]) (fun g w' => Sat w w' [] ∧ g ≤ a.length + pn) (fun g => a.length + pn - g) 0 ⟨rfl, rfl, rfl, rfl, rfl, trivial⟩ ⟨hs, by omega⟩ ?_
      clear hs
      rintro g τ w' ⟨hs, g1⟩
      try dsimp only
      have hb19 : ∀ i, i ≤ 19 → nV a i < 10000000000000000000 := fun i hi => Nat.lt_of_lt_of_le (nV_lt hda i) (Nat.pow_le_pow_right (n := 10) (by omega) hi)
      by_cases hg : g < a.length + pn
      · have hb1 := hb19 (g + 1) (by omega)
        have hst := nV_succ a g
        obtain ⟨n0, hn0⟩ : ∃ n0, nV a g = n0 := ⟨_, rfl⟩
        rw [hn0] at hst ⊢
        by_cases hga : g < a.length
        · rw [if_pos hga] at hst
          have hx256 := (Go.Sl.rd a (g : Int)).toNat_lt
          have hdig := hda _ (List.getElem_mem hga)
          rw [← rd_at hga] at hdig
          have hd4 : 48 ≤ (Go.Sl.rd a (g : Int)).toNat ∧ (Go.Sl.rd a (g : Int)).toNat ≤ 57 := by unfold digit at hdig; simpa using hdig
          obtain ⟨h, hh⟩ : ∃ h : Nat, (Go.Sl.rd a (g : Int)).toNat = h + 48 := ⟨(Go.Sl.rd a (g : Int)).toNat - 48, by omega⟩
          (repeat' (first | (refine isLW ?_; first | refine LW_nil ?_ | (refine isLload ?_; first | refine LW_loadRd0 (r2.of hs) (fun _ => rfl) TOK rfl (by assumption) rfl rfl (by omega) (by omega) rfl ?_) | (refine isLcall ?_; first | refine LW_pure TOK rfl ?_) | (refine isLidx ?_; first | (refine LW_indexRd (r2.of hs) TOK rfl rfl rfl rfl rfl (by omega) (by omega) ?_; intro _ _ _)) | (refine isLbin ?_; first | refine LW_arithE ((10 * n0 : Nat) : Int) rfl ((wrap_u64 (by omega) (by omega)).trans (by omega)) ?_ | refine LW_arithE (h : Int) rfl ((wrap_u8 (by omega) (by omega)).trans (by omega)) ?_ | refine LW_arithE ((nV a (g + 1) : Nat) : Int) rfl ((wrap_u64 (by omega) (by omega)).trans (by omega)) ?_ | refine LW_i64 rfl (by omega) (by omega) ?_ | (refine LW_cmp rfl (fun _ => ?_) (fun _ => ?_) <;> try (exfalso; omega))) | refine LW_convE (h : Int) TOK rfl rfl rfl rfl (wrap_u64 (by omega) (by omega)) ?_ | refine LW_pure TOK rfl ?_) | (with_reducible first | refine then_n ?_ | refine CW_seq ?_ | refine CW_region ?_ | refine CW_block ?_ | refine CW_skip ?_ | refine blk_n ?_) | refine CW_true rfl ?_))
          exact ⟨g + 1, _, FR_forget _ ⟨rfl, rfl, rfl, rfl, rfl, trivial⟩, ⟨hs, by omega⟩, by omega⟩
        · rw [if_neg hga] at hst
          (repeat' (first | (refine isLW ?_; first | refine LW_nil ?_ | (refine isLcall ?_; first | refine LW_pure TOK rfl ?_) | (refine isLbin ?_; first | refine LW_arithE ((nV a (g + 1) : Nat) : Int) rfl ((wrap_u64 (by omega) (by omega)).trans (by omega)) ?_ | refine LW_i64 rfl (by omega) (by omega) ?_ | (refine LW_cmp rfl (fun _ => ?_) (fun _ => ?_) <;> try (exfalso; omega))) | refine LW_pure TOK rfl ?_) | (with_reducible first | refine then_n ?_ | refine CW_seq ?_ | refine CW_region ?_ | refine CW_block ?_ | refine CW_skip ?_ | refine blk_n ?_) | refine CW_true rfl ?_ | refine CW_false rfl ?_))
          exact ⟨g + 1, _, FR_forget _ ⟨rfl, rfl, rfl, rfl, rfl, trivial⟩, ⟨hs, by omega⟩, by omega⟩
      · have hge : g = a.length + pn := by omega
        subst hge
        have hb1 := hb19 (a.length + pn) (by omega)
        obtain ⟨n0, hn0⟩ : ∃ n0, nV a (a.length + pn) = n0 := ⟨_, rfl⟩
        rw [hn0] at hb1 ⊢
        by_cases e4 : 9223372036854775808 < n0 ∨ (n0 = 9223372036854775808 ∧ minus = false)
        · rw [if_pos e4]
          cases minus
          · (repeat' (first | (refine isLW ?_; first | refine LW_nil ?_ | (refine isLg ?_; first | refine LW_take rfl ?_ | refine LW_pass rfl rfl ?_ | refine LW_passV rfl rfl rfl ?_) | (refine isLbin ?_; first | (refine LW_cmp rfl (fun _ => ?_) (fun _ => ?_) <;> try (exfalso; omega))) | refine LW_pure TOK rfl ?_) | (with_reducible first | refine then_n ?_ | refine CW_seq ?_ | refine CW_region ?_ | refine CW_exit ?_ | refine CW_ret ?_ | refine then_e ?_ | refine then_r ?_ | refine blk_same ?_) | refine CW_true rfl ?_ | refine CW_false rfl ?_ | refine RET2 Tryd.results61 rfl rfl ?_))
            all_goals exact ⟨rfl, hs⟩
          · have e5 : 9223372036854775808 < n0 := e4.elim id (fun h => by cases h.2)
            (repeat' (first | (refine isLW ?_; first | refine LW_nil ?_ | (refine isLg ?_; first | refine LW_pass rfl rfl ?_ | refine LW_passV rfl rfl rfl ?_) | (refine isLbin ?_; first | (refine LW_cmp rfl (fun _ => ?_) (fun _ => ?_) <;> try (exfalso; omega))) | refine LW_pure TOK rfl ?_) | (with_reducible first | refine then_n ?_ | refine CW_seq ?_ | refine CW_region ?_ | refine CW_exit ?_ | refine CW_ret ?_ | refine then_e ?_ | refine then_r ?_ | refine blk_same ?_) | refine CW_true rfl ?_ | refine CW_false rfl ?_ | refine RET2 Tryd.results61 rfl rfl ?_))
            all_goals exact ⟨rfl, hs⟩
        · rw [if_neg e4]
          cases minus
          · have e5 : n0 < 9223372036854775808 := by
              rcases Nat.lt_trichotomy n0 9223372036854775808 with h | h | h
              · exact h
              · exact absurd (.inr ⟨h, rfl⟩) e4
              · exact absurd (.inl h) e4
            (repeat' (first | (refine isLW ?_; first | refine LW_nil ?_ | (refine isLg ?_; first | refine LW_take rfl ?_ | refine LW_pass rfl rfl ?_) | (refine isLbin ?_; first | (refine LW_cmp rfl (fun _ => ?_) (fun _ => ?_) <;> try (exfalso; omega))) | refine LW_convE (n0 : Int) TOK rfl rfl rfl rfl (wrap_i64 (by omega) (by omega)) ?_ | refine LW_pure TOK rfl ?_) | (with_reducible first | refine then_n ?_ | refine CW_seq ?_ | refine CW_region ?_ | refine CW_skip ?_ | refine CW_exit ?_ | refine CW_ret ?_ | refine then_e ?_ | refine blk_same ?_) | refine CW_false rfl ?_ | refine RET2 Tryd.results61 rfl rfl ?_))
            all_goals exact ⟨rfl, hs⟩
          · have e5 : n0 ≤ 9223372036854775808 := by
              rcases Nat.lt_or_ge 9223372036854775808 n0 with h | h
              · exact absurd (.inl h) e4
              · exact h
            (repeat' (first | (refine isLW ?_; first | refine LW_nil ?_ | (refine isLg ?_; first | refine LW_take rfl ?_ | refine LW_pass rfl rfl ?_) | (refine isLbin ?_; first | (refine LW_cmp rfl (fun _ => ?_) (fun _ => ?_) <;> try (exfalso; omega))) | refine LW_convE (-(n0 : Int)) TOK rfl rfl rfl rfl (negc e5) ?_ | refine LW_unE _ rfl rfl ?_ | refine LW_pure TOK rfl ?_) | (with_reducible first | refine then_n ?_ | refine CW_seq ?_ | refine CW_region ?_ | refine CW_skip ?_ | refine CW_exit ?_ | refine CW_ret ?_ | refine then_e ?_ | refine then_r ?_ | refine blk_same ?_) | refine CW_true rfl ?_ | refine CW_false rfl ?_ | refine RET2 Tryd.results61 rfl rfl ?_))
            all_goals exact ⟨rfl, hs⟩
    · intro hlate
      (repeat' (first | (with_reducible first | refine CW_seq ?_ | refine CW_block ?_)))
      refine CW_loop (γ := List UInt8) (fun ys => [(0, .slice A1 ys.length c1), (1, .int .i64 (power + ((xs.length : Int) - (ys.length : Int)))), (2, .bool minus)]) (fun ys w' => Sat w w' [] ∧ ys <+: xs ∧ rz ys = rz xs) (fun ys => ys.length) xs ⟨rfl, by show some (Value.int .i64 power) = some (Value.int .i64 (power + ((xs.length : Int) - (xs.length : Int)))); congr 2; omega, rfl, trivial⟩ ⟨hs, List.prefix_refl _, rfl⟩ ?_
      clear hs
      rintro ys τ w' ⟨hs, k1, k2⟩
      try dsimp only
      have r3 : Rd eB w A1 ys := r1.ahead k1
      have hyl := k1.length_le
      have hend : rz ys = ys → ∃ k, ys.length = k ∧ k ≤ xs.length ∧ xs.take k = rz xs := fun h => ⟨_, rfl, hyl, by rw [← k2, h]; exact (List.prefix_iff_eq_take.1 k1).symm⟩
      rcases List.eq_nil_or_concat ys with hy | ⟨ys0, x, rfl⟩
      · obtain ⟨k, e0, e1, e2⟩ := hend (by rw [hy]; rfl)
        subst e0
        have hy0 : ys.length = 0 := by rw [hy]; rfl
        (repeat' (first | refine hlate _ _ ?_ | (refine isLW ?_; first | refine LW_nil ?_ | (refine isLg ?_; first | refine LW_pass rfl rfl ?_) | (refine isLcall ?_; first | refine LW_pure TOK rfl ?_) | (refine isLbin ?_; first | (refine LW_cmp rfl (fun _ => ?_) (fun _ => ?_) <;> try (exfalso; omega))) | refine LW_pure TOK rfl ?_) | (with_reducible first | refine then_n ?_ | refine CW_seq ?_ | refine CW_region ?_ | refine CW_exit ?_) | refine CW_false rfl ?_))
        exact ⟨ys.length, _, FR_forget _ ⟨rfl, rfl, rfl, trivial⟩, hs, e1, e2⟩
      · rw [List.concat_eq_append] at k1 k2 r3 hyl hend ⊢
        have hl1 : (ys0 ++ [x]).length = ys0.length + 1 := by simp
        obtain ⟨zs, hzs⟩ : ∃ zs, ys0 ++ [x] = zs := ⟨_, rfl⟩
        have hrd : Go.Sl.rd zs ((zs.length : Int) - 1) = x := by
          have : ((zs.length : Int) - 1) = (ys0.length : Int) := by rw [← hzs]; omega
          rw [this, ← hzs]
          simp [Go.Sl.rd]
        have hrz : rz zs = if x.toNat = 48 then rz ys0 else zs := by rw [← hzs, rz_snoc]
        have hpre : ys0 <+: xs := (List.prefix_append ys0 [x]).trans k1
        rw [hzs] at k1 k2 r3 hyl hend hl1 ⊢
        by_cases hz : x.toNat = 48
        · rw [if_pos hz] at hrz
          have hz2 : (Go.Sl.rd zs ((zs.length : Int) - 1)).toNat = 48 := by rw [hrd]; exact hz
          have hl2 : ((zs.length : Int) - 1).toNat = ys0.length := by omega
          (repeat' (first | (refine isLW ?_; first | refine LW_nil ?_ | (refine isLg ?_; first | refine LW_take rfl ?_) | (refine isLload ?_; first | refine LW_loadRd0 (r3.of hs) (fun _ => rfl) TOK rfl (by assumption) rfl rfl (by omega) (by omega) rfl ?_) | (refine isLcall ?_; first | refine LW_pure TOK rfl ?_) | (refine isLidx ?_; first | (refine LW_indexRd (r3.of hs) TOK rfl rfl rfl rfl rfl (by omega) (by omega) ?_; intro _ _ _)) | (refine isLbin ?_; first | refine LW_arithE (power + ((xs.length : Int) - (ys0.length : Int))) rfl ((wrap_i64 (by omega) (by omega)).trans (by omega)) ?_ | refine LW_i64 rfl (by omega) (by omega) ?_ | (refine LW_cmp rfl (fun _ => ?_) (fun _ => ?_) <;> try (exfalso; omega))) | refine LW_sliceH TOK rfl rfl rfl rfl rfl (by omega) (by omega) ?_ | refine LW_pure TOK rfl ?_) | (with_reducible first | refine then_n ?_ | refine CW_seq ?_ | refine CW_region ?_ | refine CW_block ?_ | refine CW_skip ?_ | refine blk_n ?_) | refine CW_true rfl ?_))
          exact ⟨ys0, _, FR_forget _ ⟨by rw [← hl2]; rfl, rfl, rfl, trivial⟩, ⟨hs, hpre, by rw [← hrz]; exact k2⟩, by omega⟩
        · rw [if_neg hz] at hrz
          have hz2 : ¬ (Go.Sl.rd zs ((zs.length : Int) - 1)).toNat = 48 := by rw [hrd]; exact hz
          obtain ⟨k, e0, e1, e2⟩ := hend hrz
          subst e0
          (repeat' (first | refine hlate _ _ ?_ | (refine isLW ?_; first | refine LW_nil ?_ | (refine isLg ?_; first | refine LW_take rfl ?_) | (refine isLload ?_; first | refine LW_loadRd0 (r3.of hs) (fun _ => rfl) TOK rfl (by assumption) rfl rfl (by omega) (by omega) rfl ?_) | (refine isLcall ?_; first | refine LW_pure TOK rfl ?_) | (refine isLidx ?_; first | (refine LW_indexRd (r3.of hs) TOK rfl rfl rfl rfl rfl (by omega) (by omega) ?_; intro _ _ _)) | (refine isLbin ?_; first | refine LW_i64 rfl (by omega) (by omega) ?_ | (refine LW_cmp rfl (fun _ => ?_) (fun _ => ?_) <;> try (exfalso; omega))) | refine LW_pure TOK rfl ?_) | (with_reducible first | refine then_n ?_ | refine CW_seq ?_ | refine CW_region ?_ | refine CW_exit ?_) | refine CW_false rfl ?_))
          exact ⟨zs.length, _, FR_forget _ ⟨rfl, rfl, rfl, trivial⟩, hs, e1, e2⟩
  · intro hlate
    (repeat' (first | (refine isLW ?_; first | refine LW_nil ?_ | refine LW_pure TOK rfl ?_) | (with_reducible first | refine then_n ?_ | refine CW_seq ?_ | refine CW_region ?_ | refine CW_block ?_)))
    refine CW_loop (γ := List UInt8 × Option Addr × Nat) (fun g => [(0, .slice g.2.1 g.1.length g.2.2), (1, .int .i64 power), (2, .bool minus)]) (fun g w' => Sat w w' [] ∧ Rd eB w g.2.1 g.1 ∧ g.1.length ≤ g.2.2 ∧ lz g.1 = lz all ∧ g.1.length ≤ all.length) (fun g => g.1.length) (all, A, c) ⟨rfl, rfl, rfl, trivial⟩ ⟨hs, rb, hc, rfl, Nat.le_refl _⟩ ?_
    clear hs
    rintro ⟨xs, A1, c1⟩ τ w1 ⟨hs, r1, h1, h2, h3⟩
    dsimp only at hs r1 h1 h2 h3 ⊢
    by_cases hz : 0 < xs.length ∧ (Go.Sl.rd xs 0).toNat = 48
    · obtain ⟨hz1, hz2⟩ := hz
      have hcut := Rd_sliced (k := 1) r1 h1 hz1
      have hx0 : lz xs = lz (xs.drop 1) := by
        cases xs with
        | nil => simp at hz1
        | cons x l =>
          have : Go.Sl.rd (x :: l) 0 = x := rfl
          rw [this] at hz2
          show (if x.toNat = 48 then lz l else x :: l) = lz l
          rw [if_pos hz2]
      have hln : (xs.drop 1).length = xs.length - (1 : Int).toNat := List.length_drop
      (repeat' (first | (refine isLW ?_; first | refine LW_nil ?_ | (refine isLg ?_; first | refine LW_take rfl ?_) | (refine isLload ?_; first | refine LW_loadRd0 (r1.of hs) (fun _ => rfl) TOK rfl (by assumption) rfl rfl (by omega) (by omega) rfl ?_) | (refine isLcall ?_; first | refine LW_pure TOK rfl ?_) | (refine isLidx ?_; first | (refine LW_indexRd (r1.of hs) TOK rfl rfl rfl rfl rfl (by omega) (by omega) ?_; intro _ _ _)) | (refine isLbin ?_; first | (refine LW_cmp rfl (fun _ => ?_) (fun _ => ?_) <;> try (exfalso; omega))) | refine LW_sliceL TOK rfl rfl rfl rfl rfl (by omega) (by omega) ?_ | refine LW_pure TOK rfl ?_) | (with_reducible first | refine then_n ?_ | refine CW_seq ?_ | refine CW_region ?_ | refine CW_block ?_ | refine CW_skip ?_ | refine blk_n ?_) | refine CW_true rfl ?_))
      exact ⟨((xs.drop 1, slicedA A1 1 c1 (1 * 1), c1 - 1) : List UInt8 × Option Addr × Nat), _, FR_forget _ ⟨by rw [hln]; rfl, rfl, rfl, trivial⟩, ⟨hs, hcut, by dsimp only; rw [hln]; simp; omega, by dsimp only; rw [← hx0]; exact h2, by dsimp only; rw [hln]; omega⟩, by dsimp only; rw [hln]; simp; omega⟩
    have hxs : xs = lz all := by
      rw [← h2]
      cases xs with
      | nil => rfl
      | cons x l =>
        have : Go.Sl.rd (x :: l) 0 = x := rfl
        rw [this] at hz
        show _ = (if x.toNat = 48 then lz l else x :: l)
        rw [if_neg (fun h => hz ⟨by simp, h⟩)]
    rcases Nat.eq_zero_or_pos xs.length with hk | hk
    · (repeat' (first | refine hlate _ _ ?_ | (refine isLW ?_; first | refine LW_nil ?_ | (refine isLg ?_; first | refine LW_pass rfl rfl ?_) | (refine isLcall ?_; first | refine LW_pure TOK rfl ?_) | (refine isLbin ?_; first | (refine LW_cmp rfl (fun _ => ?_) (fun _ => ?_) <;> try (exfalso; omega))) | refine LW_pure TOK rfl ?_) | (with_reducible first | refine then_n ?_ | refine CW_seq ?_ | refine CW_region ?_ | refine CW_exit ?_) | refine CW_false rfl ?_))
      exact ⟨xs, A1, c1, _, FR_forget _ ⟨rfl, rfl, rfl, trivial⟩, hs, r1, h1, hxs⟩
    · have hz2 : ¬ (Go.Sl.rd xs 0).toNat = 48 := fun h => hz ⟨hk, h⟩
      (repeat' (first | refine hlate _ _ ?_ | (refine isLW ?_; first | refine LW_nil ?_ | (refine isLg ?_; first | refine LW_take rfl ?_) | (refine isLload ?_; first | refine LW_loadRd0 (r1.of hs) (fun _ => rfl) TOK rfl (by assumption) rfl rfl (by omega) (by omega) rfl ?_) | (refine isLcall ?_; first | refine LW_pure TOK rfl ?_) | (refine isLidx ?_; first | (refine LW_indexRd (r1.of hs) TOK rfl rfl rfl rfl rfl (by omega) (by omega) ?_; intro _ _ _)) | (refine isLbin ?_; first | (refine LW_cmp rfl (fun _ => ?_) (fun _ => ?_) <;> try (exfalso; omega))) | refine LW_pure TOK rfl ?_) | (with_reducible first | refine then_n ?_ | refine CW_seq ?_ | refine CW_region ?_ | refine CW_exit ?_) | refine CW_false rfl ?_))
      exact ⟨xs, A1, c1, _, FR_forget _ ⟨rfl, rfl, rfl, trivial⟩, hs, r1, h1, hxs⟩
end
end Go.Proofs.YtbmeafeojcgndaaDoor
