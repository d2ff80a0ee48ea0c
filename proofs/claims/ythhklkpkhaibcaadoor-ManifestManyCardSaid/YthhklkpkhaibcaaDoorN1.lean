/- Plain: the name of a number and the number of a name. -/
import Derived.Lib.ItoaNum
set_option linter.unusedVariables false
set_option linter.unusedSimpArgs false
namespace Go.Proofs.YthhklkpkhaibcaaDoor
open Go Go.Lib
abbrev Tx := List UInt8
def big : Int := 1099511627776
def nameM (n : Int) : Tx := if n < 1 ∨ big < n then [] else 115 :: itoa n
def dig (n : Int) (c : UInt8) : Int := n * 10 + c.toNat - 48
def val (l : Tx) : Int := l.foldl dig 0
/-- The number whose name it is, and whether there is one. -/
def numG (s : Tx) : Int × Bool := if nameM (val s.tail) = s ∧ s ≠ [] then (val s.tail, true) else (0, false)
theorem dec_lt {u : Nat} (h : u < 10) : decDigits u = [UInt8.ofNat (48 + u)] := by rw [decDigits]; simp [h]
theorem dec_ge {u : Nat} (h : ¬ u < 10) : decDigits u = decDigits (u / 10) ++ [UInt8.ofNat (48 + u % 10)] := by rw [decDigits]; simp [h]
theorem digit_nat {k : Nat} (h : k < 10) : (UInt8.ofNat (48 + k)).toNat = 48 + k := by
  rw [UInt8.toNat_ofNat']; omega
theorem val_snoc (l : Tx) (c : UInt8) : val (l ++ [c]) = dig (val l) c := by unfold val; rw [List.foldl_append]; rfl
theorem val_dec (u : Nat) : val (decDigits u) = u := by
  induction u using Nat.strongRecOn with
  | _ u ih =>
    by_cases h : u < 10
    · rw [dec_lt h]
      show dig 0 _ = _
      unfold dig
      rw [digit_nat h]; omega
    · rw [dec_ge h, val_snoc, ih (u / 10) (by omega)]
      unfold dig
      rw [digit_nat (by omega)]; omega
theorem dec_digit (u : Nat) : ∀ c ∈ decDigits u, 48 ≤ c.toNat ∧ c.toNat ≤ 57 := by
  induction u using Nat.strongRecOn with
  | _ u ih =>
    by_cases h : u < 10
    · rw [dec_lt h]
      intro c hc
      rw [List.mem_singleton.1 hc, digit_nat h]; omega
    · rw [dec_ge h]
      intro c hc
      rcases List.mem_append.1 hc with hc | hc
      · exact ih _ (by omega) c hc
      · rw [List.mem_singleton.1 hc, digit_nat (by omega)]; omega
theorem dec_ne (u : Nat) : decDigits u ≠ [] := by
  by_cases h : u < 10
  · rw [dec_lt h]; simp
  · rw [dec_ge h]; simp
theorem dec_len : ∀ (k u : Nat), u < 10 ^ (k + 1) → (decDigits u).length ≤ k + 1
  | 0, u, h => by rw [dec_lt (by simpa using h)]; simp
  | k + 1, u, h => by
    by_cases h1 : u < 10
    · rw [dec_lt h1]; simp
    · rw [dec_ge h1, List.length_append]
      have := dec_len k (u / 10) (by rw [Nat.pow_succ] at h; omega)
      simp; omega
theorem dec_pre (u : Nat) : ∀ p, p <+: decDigits u → 0 ≤ val p ∧ val p ≤ u := by
  induction u using Nat.strongRecOn with
  | _ u ih =>
    intro p hp
    by_cases h : u < 10
    · have hd := val_dec u
      rw [dec_lt h] at hp hd
      rcases List.prefix_cons_iff.1 hp with rfl | ⟨t, rfl, ht⟩
      · exact ⟨Int.le_refl _, by show (0 : Int) ≤ u; omega⟩
      · have : t = [] := List.prefix_nil.1 ht
        subst this; omega
    · have hd := val_dec u
      rw [dec_ge h] at hp hd
      rcases List.prefix_concat_iff.1 hp with hp | hp
      · rw [hp, hd]; omega
      · have := ih (u / 10) (by omega) p hp
        omega
theorem itoa_pos {n : Int} (h : 0 ≤ n) : itoa n = decDigits n.toNat := by unfold itoa; rw [if_neg (by omega)]
theorem nameM_in {n : Int} (h1 : 1 ≤ n) (h2 : n ≤ big) : nameM n = 115 :: decDigits n.toNat := by
  unfold nameM; rw [if_neg (by omega), itoa_pos (by omega)]
theorem nameM_out {n : Int} (h : n < 1 ∨ big < n) : nameM n = [] := by unfold nameM; rw [if_pos h]
/-- A name is made of an s and digits. -/
theorem name_is {n : Int} {s : Tx} (h : nameM n = s) (hs : s ≠ []) : 1 ≤ n ∧ n ≤ big ∧ s = 115 :: decDigits n.toNat := by
  by_cases hr : n < 1 ∨ big < n
  · rw [nameM_out hr] at h; exact absurd h.symm hs
  · exact ⟨by omega, by omega, by rw [← h]; exact nameM_in (by omega) (by omega)⟩
theorem name_len {n : Int} {s : Tx} (h : nameM n = s) (hs : s ≠ []) : 2 ≤ s.length ∧ s.length ≤ 14 := by
  obtain ⟨h1, h2, rfl⟩ := name_is h hs
  have := dec_len 12 n.toNat (by unfold big at h2; omega)
  have h3 : 0 < (decDigits n.toNat).length := List.length_pos_iff.2 (dec_ne _)
  simp; omega
theorem name_val {n : Int} {s : Tx} (h : nameM n = s) (hs : s ≠ []) : val s.tail = n := by
  obtain ⟨h1, h2, rfl⟩ := name_is h hs
  show val (decDigits n.toNat) = n
  rw [val_dec]; omega
theorem num_name {n : Int} (h1 : 1 ≤ n) (h2 : n ≤ big) : numG (nameM n) = (n, true) := by
  have hne : nameM n ≠ [] := by rw [nameM_in h1 h2]; simp
  have hv := name_val (s := nameM n) rfl hne
  unfold numG
  rw [hv, if_pos ⟨rfl, hne⟩]
theorem num_nil : numG [] = (0, false) := by unfold numG; rw [if_neg (fun h => h.2 rfl)]
theorem num_not {s : Tx} (h : ∀ n, nameM n = s → s = []) : numG s = (0, false) := by
  unfold numG
  rw [if_neg fun h' => h'.2 (h _ h'.1)]
/-- The value of the digits, no more than the given one of them. -/
def valTo (s : Tx) (i : Nat) : Int := val (s.tail.take i)
theorem valTo_next {s : Tx} {i : Nat} (h : i + 1 < s.length) : valTo s (i + 1) = dig (valTo s i) (s[i + 1]) := by
  have hl : i < s.tail.length := by rw [List.length_tail]; omega
  unfold valTo
  rw [List.take_succ_eq_append_getElem hl, val_snoc]
  congr 1
  cases s with
  | nil => simp at h
  | cons c s => simp
theorem valTo_all {s : Tx} {i : Nat} (h : s.length ≤ i + 1) : valTo s i = val s.tail := by
  unfold valTo
  rw [List.take_of_length_le (by rw [List.length_tail]; omega)]
theorem valTo_bad {s : Tx} {i : Nat} (h : valTo s i < 0 ∨ big < valTo s i) : numG s = (0, false) := by
  refine num_not fun n hn => ?_
  by_cases hs : s = []
  · exact hs
  · obtain ⟨h1, h2, rfl⟩ := name_is hn hs
    have := dec_pre n.toNat _ (List.take_prefix i (decDigits n.toNat))
    unfold valTo at h
    simp only [List.tail_cons] at h
    omega
theorem digit_bad {s : Tx} {i : Nat} (h : i + 1 < s.length) (hc : (s[i + 1]).toNat < 48 ∨ 57 < (s[i + 1]).toNat) : numG s = (0, false) := by
  refine num_not fun n hn => ?_
  by_cases hs : s = []
  · exact hs
  · obtain ⟨h1, h2, rfl⟩ := name_is hn hs
    have := dec_digit n.toNat ((115 :: decDigits n.toNat)[i + 1]) (by simp only [List.getElem_cons_succ]; exact List.getElem_mem _)
    omega
theorem len_bad {s : Tx} (h : s.length < 2 ∨ 14 < s.length) : numG s = (0, false) := by
  refine num_not fun n hn => ?_
  by_cases hs : s = []
  · exact hs
  · have := name_len hn hs; omega
theorem num_end {s : Tx} (hs : s ≠ []) : numG s = if nameM (val s.tail) = s then (val s.tail, true) else (0, false) := by
  unfold numG
  by_cases h : nameM (val s.tail) = s
  · rw [if_pos ⟨h, hs⟩, if_pos h]
  · rw [if_neg fun h' => h h'.1, if_neg h]
theorem valTo_small {s : Tx} : ∀ {i : Nat}, (∀ j (h : j + 1 < s.length), j < i → 48 ≤ (s[j + 1]).toNat ∧ (s[j + 1]).toNat ≤ 57) → i + 1 ≤ s.length → 0 ≤ valTo s i ∧ valTo s i < 10 ^ i
  | 0, _, _ => ⟨Int.le_refl _, by show (0 : Int) < 10 ^ 0; decide⟩
  | i + 1, h, hl => by
    have ih := valTo_small (i := i) (fun j hj hi => h j hj (by omega)) (by omega)
    have hd := h i (by omega) (by omega)
    rw [valTo_next (by omega)]
    unfold dig
    rw [Int.pow_succ]
    omega
theorem pow13 {i : Nat} (h : i ≤ 13) : (10 : Int) ^ i ≤ 10000000000000 := by
  have h1 : 10 ^ i ≤ 10 ^ 13 := Nat.pow_le_pow_right (by decide) h
  have h2 : ((10 ^ i : Nat) : Int) = (10 : Int) ^ i := by push_cast; rfl
  omega
/- THE REFERENCE'S WAY: from the last digit on -/
def front (k : Nat) : Tx := if k = 0 then [] else decDigits k
theorem front_step {k : Nat} (h : 0 < k) : front k = front (k / 10) ++ [UInt8.ofNat (48 + k % 10)] := by
  unfold front
  rw [if_neg (by omega)]
  by_cases h1 : k < 10
  · rw [dec_lt h1, if_pos (by omega), Nat.mod_eq_of_lt h1]; rfl
  · rw [dec_ge h1, if_neg (by omega)]
end Go.Proofs.YthhklkpkhaibcaaDoor
