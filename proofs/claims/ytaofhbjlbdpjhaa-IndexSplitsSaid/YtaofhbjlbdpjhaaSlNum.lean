/- Numbers: bits told as sums. -/
import Derived.Test.YtaofhbjlbdpjhaaSl
set_option linter.unusedVariables false
set_option linter.unusedSimpArgs false
namespace Go.Sl
open Go.RowKit
theorem wrap_u8 {e : Int} (h0 : 0 ≤ e) (h1 : e < 256) : IntKind.u8.wrap e = e := by simp [IntKind.wrap, IntKind.bits, IntKind.signed]; omega
theorem wrap_u64 {e : Int} (h0 : 0 ≤ e) (h1 : e < 18446744073709551616) : IntKind.u64.wrap e = e := by simp [IntKind.wrap, IntKind.bits, IntKind.signed]; omega
theorem wrap_i64 {e : Int} (h0 : -9223372036854775808 ≤ e) (h1 : e ≤ 9223372036854775807) : IntKind.i64.wrap e = e := IntWalk.i64_in e (by omega)
theorem ofInt_toNat (k : Nat) (c : Nat) (h : c < 2 ^ k) : (BitVec.ofInt k (c : Int)).toNat = c := by
  rw [BitVec.toNat_ofInt]
  have : ((c : Int) % ((2 ^ k : Nat) : Int)) = c := Int.emod_eq_of_lt (by omega) (by omega)
  rw [this]; rfl
theorem and_127 (c : Nat) (h : c < 256) : IntKind.u8.wrap ((BitVec.ofInt 8 (c : Int) &&& BitVec.ofInt 8 127).toNat : Int) = ((c % 128 : Nat) : Int) := by
  rw [BitVec.toNat_and, ofInt_toNat 8 c h]
  have e : (BitVec.ofInt 8 127).toNat = 2 ^ 7 - 1 := by decide
  rw [e, Nat.and_two_pow_sub_one_eq_mod]
  exact wrap_u8 (by omega) (by omega)
theorem or_128 (c : Nat) (h : c < 256) : IntKind.u8.wrap ((BitVec.ofInt 8 (c : Int) ||| BitVec.ofInt 8 128).toNat : Int) = ((c % 128 + 128 : Nat) : Int) := by
  rw [BitVec.toNat_or, ofInt_toNat 8 c h]
  have e : (BitVec.ofInt 8 128).toNat = 128 := by decide
  rw [e]
  have h3 : c % 128 < 2 ^ 7 := Nat.mod_lt _ (by decide)
  have h4 := Nat.shiftLeft_add_eq_or_of_lt h3 1
  have h5 : c ||| 128 = c % 128 + 128 := by
    have e1 : (1 : Nat) <<< 7 = 128 := by decide
    rw [e1] at h4
    by_cases hc : c < 128
    · rw [Nat.mod_eq_of_lt hc] at h4 ⊢; rw [Nat.or_comm, ← h4, Nat.add_comm]
    · have e2 : c = 128 ||| c % 128 := by rw [← h4]; omega
      have e3 : c ||| 128 = (128 ||| c % 128) ||| 128 := by rw [← e2]
      rw [e3, Nat.or_comm (128 ||| c % 128) 128, ← Nat.or_assoc, Nat.or_self, ← h4, Nat.add_comm]
  rw [h5]
  exact wrap_u8 (by omega) (by omega)
theorem or_sum (v y i : Nat) (hv : v < 2 ^ i) (hs : v + y * 2 ^ i < 2 ^ 64) : IntKind.u64.wrap ((BitVec.ofInt 64 (v : Int) ||| BitVec.ofInt 64 ((y * 2 ^ i : Nat) : Int)).toNat : Int) = ((v + y * 2 ^ i : Nat) : Int) := by
  rw [BitVec.toNat_or, ofInt_toNat 64 v (by omega), ofInt_toNat 64 _ (by omega)]
  have e := Nat.shiftLeft_add_eq_or_of_lt hv y
  rw [Nat.shiftLeft_eq] at e
  rw [Nat.or_comm, ← e, Nat.add_comm]
  exact wrap_u64 (by omega) (by have : (2:Nat) ^ 64 = 18446744073709551616 := by decide
                                omega)
theorem and_max (c : Nat) (h : c < 2 ^ 64) : IntKind.u64.wrap ((BitVec.ofInt 64 (c : Int) &&& BitVec.ofInt 64 9223372036854775807).toNat : Int) = ((c % 2 ^ 63 : Nat) : Int) := by
  rw [BitVec.toNat_and, ofInt_toNat 64 c h]
  have e : (BitVec.ofInt 64 9223372036854775807).toNat = 2 ^ 63 - 1 := by decide
  rw [e, Nat.and_two_pow_sub_one_eq_mod]
  have : (2:Nat) ^ 63 = 9223372036854775808 := by decide
  exact wrap_u64 (by omega) (by omega)
/- THE NUMBERS OF 1.2 -/
def Bt (b : List UInt8) (i : Int) : Nat := (rd b i).toNat
theorem Bt_lt (b : List UInt8) (i : Int) : Bt b i < 256 := (rd b i).toNat_lt
def ruN (b : List UInt8) (at' : Int) : Nat → Int → Int
  | 0, i => i
  | k + 1, i => if at' + i < b.length ∧ 128 ≤ Bt b (at' + i) then ruN b at' k (i + 1) else i
def ruV (b : List UInt8) (at' : Int) : Nat → Int → Nat
  | 0, _ => 0
  | k + 1, i => Bt b (at' + i) % 128 + 128 * ruV b at' k (i + 1)
theorem ruN_ge (b : List UInt8) (at' : Int) : ∀ k i, i ≤ ruN b at' k i ∧ ruN b at' k i ≤ i + k
  | 0, i => by simp [ruN]
  | k + 1, i => by
    simp only [ruN]
    split
    · have := ruN_ge b at' k (i + 1); omega
    · omega
theorem ruN_le (b : List UInt8) (at' : Int) : ∀ k i, at' + i ≤ b.length → at' + ruN b at' k i ≤ b.length
  | 0, i, h => by simpa [ruN] using h
  | k + 1, i, h => by
    simp only [ruN]
    split
    · rename_i hc; exact ruN_le b at' k (i + 1) (by omega)
    · exact h
theorem ruV_lt (b : List UInt8) (at' : Int) : ∀ k i, ruV b at' k i < 128 ^ k
  | 0, i => by simp [ruV]
  | k + 1, i => by
    have := ruV_lt b at' k (i + 1)
    simp only [ruV]
    have h2 : 128 ^ (k + 1) = 128 * 128 ^ k := by rw [Nat.pow_succ, Nat.mul_comm]
    omega
theorem ruV_top (b : List UInt8) (at' : Int) : ∀ (k : Nat) (i : Int), Bt b (at' + i + k) ≤ 1 → ruV b at' (k + 1) i < 2 * 128 ^ k
  | 0, i, h => by simp [ruV]; simp at h; omega
  | k + 1, i, h => by
    have := ruV_top b at' k (i + 1) (by rw [show at' + (i + 1) + (k : Int) = at' + i + ((k + 1 : Nat) : Int) by push_cast; omega]; exact h)
    rw [ruV]
    have h2 : 128 ^ (k + 1) = 128 * 128 ^ k := by rw [Nat.pow_succ, Nat.mul_comm]
    omega
/-- What a number at a place reads as: the value, where it ends, the error. -/
def ru (b : List UInt8) (at' : Int) : Int × Int × Int :=
  if at' < 0 ∨ (b.length : Int) < at' then (0, 0, 1) else
  let n := ruN b at' 9 0
  if n = b.length - at' then (0, 0, 10) else
  if n = 9 ∧ 1 < Bt b (at' + n) then (0, 0, 12) else
  if 0 < n ∧ Bt b (at' + n) = 0 then (0, 0, 11) else
  ((ruV b at' (n.toNat + 1) 0 : Int), at' + n + 1, 0)
theorem ruV_64 (b : List UInt8) (at' : Int) (n : Nat) (hn : n ≤ 9) (h : ¬ (n = 9 ∧ 1 < Bt b (at' + n))) (i : Nat) (hi : i ≤ n + 1) : ruV b at' (n + 1 - i) i < 18446744073709551616 := by
  by_cases h9 : n = 9
  · subst h9
    have h1 : Bt b (at' + 9) ≤ 1 := by
      have := fun x => h ⟨rfl, x⟩
      have e : Bt b (at' + ((9 : Nat) : Int)) = Bt b (at' + 9) := rfl
      omega
    by_cases h10 : i = 10
    · subst h10; simp [ruV]
    · have := ruV_top b at' (9 - i) i (by rw [show at' + (i : Int) + ((9 - i : Nat) : Int) = at' + 9 by omega]; exact h1)
      have e : 9 + 1 - i = 9 - i + 1 := by omega
      rw [e]
      have h3 : 128 ^ (9 - i) ≤ 128 ^ 9 := Nat.pow_le_pow_right (by decide) (by omega)
      have : (128:Nat) ^ 9 = 9223372036854775808 := by decide
      omega
  · have := ruV_lt b at' (n + 1 - i) i
    have h3 : 128 ^ (n + 1 - i) ≤ 128 ^ 9 := Nat.pow_le_pow_right (by decide) (by omega)
    have : (128:Nat) ^ 9 = 9223372036854775808 := by decide
    omega
theorem ruN_stop (b : List UInt8) (at' : Int) {k : Nat} {i : Int} (h : k = 0 ∨ ¬ (at' + i < b.length ∧ 128 ≤ Bt b (at' + i))) : ruN b at' k i = i := by
  cases k with
  | zero => rfl
  | succ k => rw [ruN, if_neg]; rcases h with h | h; · cases h
              · exact h
theorem ruN_go (b : List UInt8) (at' : Int) {k : Nat} {i : Int} (hk : 0 < k) (h : at' + i < b.length ∧ 128 ≤ Bt b (at' + i)) : ruN b at' k i = ruN b at' (k - 1) (i + 1) := by
  cases k with
  | zero => cases hk
  | succ k => rw [ruN, if_pos h, Nat.add_sub_cancel]
theorem ru_eq (b : List UInt8) (at' n : Int) (h0 : 0 ≤ at') (h1 : at' ≤ b.length) (hN : ruN b at' 9 0 = n) : ru b at' =
    if n = b.length - at' then (0, 0, 10) else if n = 9 ∧ 1 < Bt b (at' + n) then (0, 0, 12) else if 0 < n ∧ Bt b (at' + n) = 0 then (0, 0, 11) else ((ruV b at' (n.toNat + 1) 0 : Int), at' + n + 1, 0) := by
  unfold ru
  rw [if_neg (by omega), hN]
theorem ru_step {i c v : Nat} (hi : i ≤ 9) (hv : v < 2 ^ (7 * i)) (hc : c < 256) (h : ¬ (i = 9 ∧ 1 < c)) : v + c % 128 * 2 ^ (7 * i) < 2 ^ 64 ∧ (c % 128 * 2 ^ (7 * i) < 2 ^ 64) ∧ (i < 9 → v + c % 128 * 2 ^ (7 * i) < 2 ^ (7 * (i + 1))) := by
  have : i = 0 ∨ i = 1 ∨ i = 2 ∨ i = 3 ∨ i = 4 ∨ i = 5 ∨ i = 6 ∨ i = 7 ∨ i = 8 ∨ i = 9 := by omega
  rcases this with rfl | rfl | rfl | rfl | rfl | rfl | rfl | rfl | rfl | rfl <;> simp at hv h ⊢ <;> omega
theorem shl_sum {y i : Nat} (hi : i ≤ 9) (h : y * 2 ^ (7 * i) < 2 ^ 64) : IntKind.u64.wrap ((y : Int) * 2 ^ (min (7 * (i : Int)).toNat 64)) = ((y * 2 ^ (7 * i) : Nat) : Int) := by
  have e : min (7 * (i : Int)).toNat 64 = 7 * i := by omega
  rw [e]
  have e2 : (y : Int) * 2 ^ (7 * i) = ((y * 2 ^ (7 * i) : Nat) : Int) := by push_cast; rfl
  rw [e2]
  exact wrap_u64 (by omega) (by have : (2:Nat) ^ 64 = 18446744073709551616 := by decide
                                omega)
theorem ru_next {b : List UInt8} {at' : Int} {i v : Nat} (h4 : ∀ k, ruV b at' (i + k) 0 = v + 2 ^ (7 * i) * ruV b at' k i) (k : Nat) : ruV b at' (i + 1 + k) 0 = v + Bt b (at' + i) % 128 * 2 ^ (7 * i) + 2 ^ (7 * (i + 1)) * ruV b at' k ((i + 1 : Nat) : Int) := by
  have h := h4 (k + 1)
  rw [show i + (k + 1) = i + 1 + k by omega] at h
  rw [h, ruV, Nat.mul_add, Nat.mul_comm (2 ^ (7 * i)) (Bt b (at' + i) % 128), ← Nat.mul_assoc, show 7 * (i + 1) = 7 * i + 7 by omega, Nat.pow_add]
  have e : ((i : Int) + 1) = ((i + 1 : Nat) : Int) := by push_cast; rfl
  rw [e, Nat.add_assoc]
theorem ru_last {b : List UInt8} {at' : Int} {i v : Nat} (h4 : ∀ k, ruV b at' (i + k) 0 = v + 2 ^ (7 * i) * ruV b at' k i) : ruV b at' (i + 1) 0 = v + Bt b (at' + i) % 128 * 2 ^ (7 * i) := by
  have h := ru_next h4 0
  simpa [ruV] using h
theorem ru_ok (b : List UInt8) (at' : Int) : 0 ≤ (ru b at').1 ∧ (ru b at').1 < 18446744073709551616 ∧ ((ru b at').2.2 = 0 → at' < (ru b at').2.1 ∧ (ru b at').2.1 ≤ b.length ∧ 0 ≤ at') ∧ 0 ≤ (ru b at').2.1 ∧ ((ru b at').2.2 = 0 ∨ (ru b at').2.2 = 1 ∨ (ru b at').2.2 = 10 ∨ (ru b at').2.2 = 11 ∨ (ru b at').2.2 = 12) ∧ (¬ (ru b at').2.2 = 0 → (ru b at').1 = 0 ∧ (ru b at').2.1 = 0) := by
  unfold ru
  split
  · simp
  rename_i h
  have h1 := ruN_ge b at' 9 0
  have h2 := ruN_le b at' 9 0 (by omega)
  simp only []
  split
  · simp
  split
  · simp
  split
  · simp
  rename_i h3 h4 h5
  have h6 := ruV_64 b at' (ruN b at' 9 0).toNat (by omega) (by rw [show (((ruN b at' 9 0).toNat : Nat) : Int) = ruN b at' 9 0 by omega]; intro h; exact h4 ⟨by omega, h.2⟩) 0 (by omega)
  simp only [Nat.sub_zero] at h6
  have h7 : ((0:Nat):Int) = 0 := rfl
  rw [h7] at h6
  refine ⟨by show (0:Int) ≤ _; omega, by show _ < (18446744073709551616 : Int); omega, fun _ => ⟨by show at' < at' + ruN b at' 9 0 + 1; omega, by show at' + ruN b at' 9 0 + 1 ≤ _; omega, by omega⟩, by show 0 ≤ at' + ruN b at' 9 0 + 1; omega, .inl rfl, fun h => (h rfl).elim⟩
end Go.Sl
