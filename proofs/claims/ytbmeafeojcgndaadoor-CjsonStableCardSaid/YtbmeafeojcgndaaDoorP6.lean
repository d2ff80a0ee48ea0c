/- Plain: digits and powers of ten. -/
import Derived.Test.YtbmeafeojcgndaaDoorV8
set_option linter.unusedVariables false
set_option linter.unusedSimpArgs false
namespace Go.Proofs.YtbmeafeojcgndaaDoor
open Go Go.Sl Go.RowKit
set_option maxRecDepth 100000
def dv (c : UInt8) : Nat := c.toNat - 48
/-- The number that digits say. -/
def valL : List UInt8 → Nat → Nat
  | [], n => n
  | c :: l, n => valL l (10 * n + dv c)
def val (l : List UInt8) : Nat := valL l 0
theorem valL_eq : ∀ (l : List UInt8) (n : Nat), valL l n = n * 10 ^ l.length + val l
  | [], n => by simp [valL, val]
  | c :: l, n => by
    show valL l (10 * n + dv c) = n * 10 ^ (l.length + 1) + valL l (10 * 0 + dv c)
    rw [valL_eq l (10 * n + dv c), valL_eq l (10 * 0 + dv c), Nat.pow_succ, Nat.add_mul]
    have : 10 * n * 10 ^ l.length = n * (10 ^ l.length * 10) := by rw [Nat.mul_comm 10 n, Nat.mul_assoc, Nat.mul_comm 10]
    rw [this, Nat.mul_zero, Nat.zero_add, Nat.add_assoc]
theorem val_cons (c : UInt8) (l : List UInt8) : val (c :: l) = dv c * 10 ^ l.length + val l := by
  show valL l (10 * 0 + dv c) = _
  rw [valL_eq]; simp
theorem val_append (a b : List UInt8) : val (a ++ b) = val a * 10 ^ b.length + val b := by
  induction a with
  | nil => simp [val, valL]
  | cons c a ih =>
    rw [List.cons_append, val_cons, val_cons, ih, List.length_append, Nat.pow_add, Nat.add_mul, Nat.mul_assoc, Nat.add_assoc]
theorem val_zeros (k : Nat) : val (List.replicate k 48) = 0 := by
  induction k with
  | zero => rfl
  | succ k ih => rw [List.replicate_succ, val_cons, ih]; simp [dv]
theorem dv_lt {c : UInt8} (h : digit c = true) : dv c < 10 := by
  unfold digit at h
  unfold dv
  simp only [Bool.and_eq_true, decide_eq_true_eq] at h
  omega
theorem val_lt {a : List UInt8} (h : ∀ x ∈ a, digit x = true) : val a < 10 ^ a.length := by
  induction a with
  | nil => simp [val, valL]
  | cons c a ih =>
    rw [val_cons, List.length_cons, Nat.pow_succ]
    have h1 := ih fun x hx => h x (List.mem_cons_of_mem _ hx)
    have h2 := dv_lt (h c (by simp))
    have : dv c * 10 ^ a.length ≤ 9 * 10 ^ a.length := Nat.mul_le_mul_right _ (by omega)
    omega
theorem lz_spec : ∀ l : List UInt8, val (lz l) = val l ∧ (∀ x ∈ lz l, x ∈ l) ∧ (∀ c t, lz l = c :: t → c.toNat ≠ 48)
  | [] => ⟨rfl, fun _ h => h, fun _ _ h => by cases h⟩
  | c :: l => by
    obtain ⟨h1, h2, h3⟩ := lz_spec l
    unfold lz
    split
    · rename_i hc
      refine ⟨?_, fun x hx => List.mem_cons_of_mem _ (h2 x hx), h3⟩
      rw [h1, val_cons]
      have : dv c = 0 := by unfold dv; omega
      rw [this]; simp
    · rename_i hc
      exact ⟨rfl, fun _ h => h, fun c' t e => by cases e; exact hc⟩
theorem lz_rep : ∀ l : List UInt8, ∃ m, l = List.replicate m 48 ++ lz l
  | [] => ⟨0, rfl⟩
  | c :: l => by
    unfold lz
    split
    · rename_i hc
      obtain ⟨m, hm⟩ := lz_rep l
      refine ⟨m + 1, ?_⟩
      have : c = 48 := UInt8.toNat_inj.1 hc
      rw [List.replicate_succ, List.cons_append, ← hm, this]
    · exact ⟨0, rfl⟩
theorem rz_rep (l : List UInt8) : ∃ m, l = rz l ++ List.replicate m 48 := by
  obtain ⟨m, hm⟩ := lz_rep l.reverse
  refine ⟨m, ?_⟩
  have := congrArg List.reverse hm
  rw [List.reverse_reverse, List.reverse_append, List.reverse_replicate] at this
  exact this
theorem rz_last {l t : List UInt8} {c : UInt8} (h : rz l = t ++ [c]) : c.toNat ≠ 48 := by
  have h2 : lz l.reverse = c :: t.reverse := by
    have := congrArg List.reverse h
    unfold rz at this
    rw [List.reverse_reverse, List.reverse_append] at this
    exact this
  exact (lz_spec l.reverse).2.2 c _ h2
theorem nV_take (a : List UInt8) : ∀ i, i ≤ a.length → nV a i = val (a.take i)
  | 0, _ => by simp [nV, val, valL]
  | i + 1, h => by
    have e : a.take (i + 1) = a.take i ++ [a[i]] := by rw [List.take_succ_eq_append_getElem]
    rw [nV_succ, nV_take a i (by omega), if_pos (by omega), e, val_append, rd_at (by omega)]
    simp [val, valL, dv]; omega
theorem nV_more (a : List UInt8) : ∀ k, nV a (a.length + k) = val a * 10 ^ k
  | 0 => by rw [Nat.add_zero, nV_take a _ (Nat.le_refl _), List.take_length]; simp
  | k + 1 => by
    rw [← Nat.add_assoc, nV_succ, nV_more a k, if_neg (by omega), Nat.pow_succ, Nat.add_zero, Nat.mul_comm 10, Nat.mul_assoc]
/-- What is left of digits when the noughts at both ends are gone. -/
theorem core {all : List UInt8} (hd : ∀ x ∈ all, digit x = true) : ∃ a z, rz (lz all) = a ∧ (lz all).length = a.length + z ∧ val all = val a * 10 ^ z ∧ val a < 10 ^ a.length ∧ (a = [] ∨ (10 ^ (a.length - 1) ≤ val a ∧ ¬ 10 ∣ val a)) := by
  obtain ⟨h1, h2, h3⟩ := lz_spec all
  obtain ⟨z, hz⟩ := rz_rep (lz all)
  obtain ⟨a, ha⟩ : ∃ a, rz (lz all) = a := ⟨_, rfl⟩
  have hz2 := hz
  rw [ha] at hz2
  have hda : ∀ x ∈ a, digit x = true := fun x hx => hd x (h2 x (by rw [hz2]; exact List.mem_append_left _ hx))
  refine ⟨a, z, ha, by rw [hz2]; simp, ?_, val_lt hda, ?_⟩
  · rw [← h1, hz2, val_append, val_zeros]; simp
  · rcases List.eq_nil_or_concat a with h | ⟨t, c, h⟩
    · exact .inl h
    · right
      rw [List.concat_eq_append] at h
      have hc := rz_last (ha.trans h)
      have hcd := hda c (by rw [h]; simp)
      have hdv : 0 < dv c ∧ dv c < 10 := by
        refine ⟨?_, dv_lt hcd⟩
        unfold digit at hcd
        simp only [Bool.and_eq_true, decide_eq_true_eq] at hcd
        unfold dv; omega
      constructor
      · cases hh : a with
        | nil => rw [hh] at h; simp at h
        | cons d s =>
          have h5 := h3 d (s ++ List.replicate z 48) (by rw [hz2, hh]; rfl)
          have h6 := hda d (by rw [hh]; simp)
          have h7 : 0 < dv d := by
            unfold digit at h6
            simp only [Bool.and_eq_true, decide_eq_true_eq] at h6
            unfold dv; omega
          rw [val_cons, List.length_cons, Nat.add_sub_cancel]
          have : 1 * 10 ^ s.length ≤ dv d * 10 ^ s.length := Nat.mul_le_mul_right _ h7
          omega
      · rw [h, val_append]
        have e : val [c] = dv c := by simp [val, valL]
        rw [e]
        simp only [List.length_singleton, Nat.pow_one]
        omega
theorem worth_zero {all : List UInt8} {p : Int} {mi : Bool} (hd : ∀ x ∈ all, digit x = true) (h : val all = 0) : worthP all p mi = (0, 0) := by
  obtain ⟨a, z, ha, hl, hv, hlt, hor⟩ := core hd
  unfold worthP worthN
  rw [ha]
  rcases hor with rfl | ⟨h1, h2⟩
  · rfl
  · exfalso
    rw [h] at hv
    rcases Nat.mul_eq_zero.1 hv.symm with h0 | h0
    · rw [h0] at h2; exact h2 (Nat.dvd_zero 10)
    · exact absurd h0 (Nat.ne_of_gt (Nat.pow_pos (by omega : 0 < 10)))
/-- Digits that are an integer times a power of ten. -/
theorem worth_int {all : List UInt8} {M k : Nat} {mi : Bool} (hd : ∀ x ∈ all, digit x = true) (h : val all = M * 10 ^ k) (h0 : 0 < M) (hM : M ≤ 9223372036854775808) (hm : mi = false → M < 9223372036854775808) :
    worthP all (-(k : Int)) mi = (if mi then -(M : Int) else (M : Int), 0) := by
  obtain ⟨a, z, ha, hl, hv, hlt, hor⟩ := core hd
  rcases hor with rfl | ⟨h1, h2⟩
  · exfalso
    have : val ([] : List UInt8) = 0 := rfl
    rw [h, this, Nat.zero_mul] at hv
    rcases Nat.mul_eq_zero.1 hv with h3 | h3
    · omega
    · exact absurd h3 (Nat.ne_of_gt (Nat.pow_pos (by omega : 0 < 10)))
  have hzk : k ≤ z := by
    rcases Nat.lt_or_ge z k with hlt' | hge
    · exfalso
      obtain ⟨j, rfl⟩ : ∃ j, k = z + (j + 1) := ⟨k - z - 1, by omega⟩
      rw [h, Nat.pow_add, ← Nat.mul_assoc, Nat.mul_right_comm] at hv
      have := Nat.eq_of_mul_eq_mul_right (Nat.pow_pos (by omega : 0 < 10)) hv
      rw [Nat.pow_succ, ← Nat.mul_assoc] at this
      exact h2 ⟨M * 10 ^ j, by rw [← this, Nat.mul_comm]⟩
    · exact hge
  obtain ⟨j, rfl⟩ : ∃ j, z = k + j := ⟨z - k, by omega⟩
  have hMv : M = val a * 10 ^ j := by
    rw [h, Nat.pow_add, Nat.mul_comm (10 ^ k), ← Nat.mul_assoc] at hv
    exact Nat.eq_of_mul_eq_mul_right (Nat.pow_pos (by omega : 0 < 10)) hv
  have hal : 0 < a.length := by
    rcases Nat.eq_zero_or_pos a.length with h3 | h3
    · have := List.length_eq_zero_iff.1 h3
      subst this
      exact absurd (Nat.dvd_zero 10) h2
    · exact h3
  have hlen : a.length + j ≤ 19 := by
    rcases Nat.lt_or_ge 19 (a.length + j) with h3 | h3
    · exfalso
      have h4 : 10 ^ (a.length - 1 + j) ≤ M := by
        rw [hMv, Nat.pow_add]; exact Nat.mul_le_mul_right _ h1
      have h5 : 10 ^ 19 ≤ 10 ^ (a.length - 1 + j) := Nat.pow_le_pow_right (by omega) (by omega)
      have h6 : (10 : Nat) ^ 19 = 10000000000000000000 := by decide
      omega
    · exact h3
  have hpw : -(k : Int) + (((lz all).length : Int) - (a.length : Int)) = (j : Int) := by rw [hl]; push_cast; omega
  have hnv : nV a (a.length + j) = M := by rw [nV_more, hMv]
  unfold worthP worthN
  rw [ha, hpw, if_neg (by omega), if_neg (by omega), if_neg (by omega), Int.toNat_natCast, hnv, if_neg (by rintro (h3 | ⟨h3, h4⟩); omega; exact absurd (hm h4) (by omega))]
  cases mi <;> rfl
/-- Digits that are no integer at that power. -/
theorem worth_frac {all : List UInt8} {k : Nat} {mi : Bool} (hd : ∀ x ∈ all, digit x = true) (h : ¬ 10 ∣ val all) : worthP all (-((k + 1 : Nat) : Int)) mi = (0, 132) := by
  obtain ⟨a, z, ha, hl, hv, hlt, hor⟩ := core hd
  rcases hor with rfl | ⟨h1, h2⟩
  · exfalso
    apply h
    rw [hv]
    exact ⟨0, by simp [val, valL]⟩
  have hz : z = 0 := by
    rcases z with _ | z
    · rfl
    · exfalso
      apply h
      rw [hv, Nat.pow_succ, ← Nat.mul_assoc]
      exact Nat.dvd_mul_left 10 _
  subst hz
  have hal : 0 < a.length := by
    rcases Nat.eq_zero_or_pos a.length with h3 | h3
    · have := List.length_eq_zero_iff.1 h3
      subst this
      exact absurd (Nat.dvd_zero 10) h2
    · exact h3
  unfold worthP worthN
  rw [ha, hl, if_neg (by omega), if_pos (by push_cast; omega)]
/-- Digits that are too great. -/
theorem worth_big {all : List UInt8} {mi : Bool} (hd : ∀ x ∈ all, digit x = true) (h : 10 ^ 19 ≤ val all) : worthP all 0 mi = (0, 133) := by
  obtain ⟨a, z, ha, hl, hv, hlt, hor⟩ := core hd
  rcases hor with rfl | ⟨h1, h2⟩
  · exfalso
    have : val ([] : List UInt8) = 0 := rfl
    rw [hv, this, Nat.zero_mul] at h
    exact absurd h (by decide)
  have hal : 0 < a.length := by
    rcases Nat.eq_zero_or_pos a.length with h3 | h3
    · have := List.length_eq_zero_iff.1 h3
      subst this
      exact absurd (Nat.dvd_zero 10) h2
    · exact h3
  have hlen : 19 < a.length + z := by
    rcases Nat.lt_or_ge 19 (a.length + z) with h3 | h3
    · exact h3
    · exfalso
      have h4 : val all < 10 ^ (a.length + z) := by
        rw [hv, Nat.pow_add]; exact Nat.mul_lt_mul_of_pos_right hlt (Nat.pow_pos (by omega : 0 < 10))
      have h5 : 10 ^ (a.length + z) ≤ 10 ^ 19 := Nat.pow_le_pow_right (by omega) h3
      omega
  unfold worthP worthN
  rw [ha, hl, if_neg (by omega), if_neg (by push_cast; omega), if_pos (by push_cast; omega)]
end Go.Proofs.YtbmeafeojcgndaaDoor
