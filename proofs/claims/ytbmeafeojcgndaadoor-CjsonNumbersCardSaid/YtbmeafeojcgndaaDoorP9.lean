/- Plain: an integer however it is written. -/
import Derived.Test.YtbmeafeojcgndaaDoorP7
import Derived.Test.YtbmeafeojcgndaaDoorV30
set_option linter.unusedVariables false
set_option linter.unusedSimpArgs false
namespace Go.Proofs.YtbmeafeojcgndaaDoor
open Go Go.Sl Go.RowKit
set_option maxRecDepth 100000
def sg (mi : Bool) : List UInt8 := if mi then [45] else []
/-- The digits of an integer's first part. -/
structure Dg (I : List UInt8) : Prop where
  d : ∀ c ∈ I, digit c = true
  h : I = [48] ∨ ∃ c t, I = c :: t ∧ c.toNat ≠ 48
def noZ (I : List UInt8) : List UInt8 := if I = [48] then [] else I
theorem noZ_val (I : List UInt8) : val (noZ I) = val I := by
  unfold noZ
  split
  · rename_i h; rw [h]; rfl
  · rfl
theorem noZ_d {I : List UInt8} (h : Dg I) : ∀ c ∈ noZ I, digit c = true := by
  unfold noZ
  split
  · simp
  · exact h.d
theorem Dg.dec (u : Nat) : Dg (Lib.decDigits u) := by
  obtain ⟨h1, h2, h3, h4⟩ := dec_digit u
  refine ⟨h1, ?_⟩
  rcases Nat.eq_zero_or_pos u with rfl | h
  · exact .inl (by rw [Lib.decDigits, dif_pos (by omega)]; rfl)
  · exact .inr (h3 h)
theorem zeros_d (k : Nat) : ∀ c ∈ List.replicate k (48 : UInt8), digit c = true := fun c hc => by rw [List.eq_of_mem_replicate hc]; rfl
theorem Dg.app {u : Nat} (h : 0 < u) {t : List UInt8} (ht : ∀ c ∈ t, digit c = true) : Dg (Lib.decDigits u ++ t) := by
  obtain ⟨h1, h2, h3, h4⟩ := dec_digit u
  refine ⟨fun c hc => ?_, ?_⟩
  · rcases List.mem_append.1 hc with hc | hc
    · exact h1 c hc
    · exact ht c hc
  · obtain ⟨c, s, e, hc⟩ := h3 h
    exact .inr ⟨c, s ++ t, by rw [e]; rfl, hc⟩
theorem itoa_sg (n : Int) : Lib.itoa n = sg (decide (n < 0)) ++ Lib.decDigits n.natAbs := by
  unfold Lib.itoa sg
  by_cases h : n < 0
  · simp [h]
  · have : n.toNat = n.natAbs := by omega
    simp [h, this]
section
variable {b s : List UInt8} {p : Nat}
theorem int_any {mi : Bool} {I : List UInt8} (h : b.drop p = sg mi ++ (I ++ s)) (hI : Dg I) (hs : NoD s) : (b[p]? == some 45) = mi ∧ intM b (if mi then p + 1 else p) = .ok (noZ I, p + (sg mi).length + I.length) := by
  have hne : I ≠ [] := by rcases hI.h with h | ⟨c, t, h, _⟩ <;> rw [h] <;> simp
  have key : ∀ q, b.drop q = I ++ s → intM b q = .ok (noZ I, q + I.length) := fun q hq => by
    rcases hI.h with e | ⟨c, t, e, hc⟩
    · subst e
      exact int_zero hq
    · have : noZ I = I := by
        unfold noZ
        rw [if_neg]
        intro e2
        rw [e2] at e
        cases e
        exact hc rfl
      rw [this]
      subst e
      exact int_at hq hc hI.d hs
  cases mi
  · have h2 : b.drop p = I ++ s := h
    refine ⟨?_, key p h2⟩
    cases I with
    | nil => exact absurd rfl hne
    | cons c t =>
      rw [at_get (s := t ++ s) h2]
      have := hI.d c (by simp)
      have : c ≠ 45 := by rintro rfl; exact absurd this (by decide)
      simp [this]
  · have h2 : b.drop p = 45 :: (I ++ s) := h
    exact ⟨by rw [at_get h2]; rfl, key (p + 1) (at_one h2)⟩
theorem worth_any {I F : List UInt8} {mi : Bool} {M K : Nat} {x : Int} (hI : Dg I) (hF : ∀ c ∈ F, digit c = true) (hv : val (I ++ F) = M * 10 ^ K) (hx : x - F.length = -(K : Int)) (hM : M ≤ 9223372036854775808) (hm : mi = false → M < 9223372036854775808) : worthP (noZ I ++ F) (x - F.length) mi = (if mi then -(M : Int) else (M : Int), 0) := by
  have hd : ∀ c ∈ noZ I ++ F, digit c = true := fun c hc => by
    rcases List.mem_append.1 hc with hc | hc
    · exact noZ_d hI c hc
    · exact hF c hc
  have hv2 : val (noZ I ++ F) = M * 10 ^ K := by rw [← hv, val_append, val_append, noZ_val]
  rcases Nat.eq_zero_or_pos M with rfl | h0
  · rw [worth_zero hd (by rw [hv2]; simp)]
    cases mi <;> rfl
  · rw [hx]; exact worth_int hd hv2 h0 hM hm
theorem num_int {mi : Bool} {I F : List UInt8} {M K p2 p3 : Nat} {x : Int} (h : b.drop p = sg mi ++ (I ++ s)) (hI : Dg I) (hs : NoD s) (h2 : fracM b (p + (sg mi).length + I.length) = .ok (F, p2)) (h3 : expM b p2 = .ok (x, p3)) (hF : ∀ c ∈ F, digit c = true) (hv : val (I ++ F) = M * 10 ^ K) (hx : x - F.length = -(K : Int)) (hM : M ≤ 9223372036854775808) (hm : mi = false → M < 9223372036854775808) :
    numberM b p = .ok (if mi then -(M : Int) else (M : Int), p3) := by
  obtain ⟨a1, a2⟩ := int_any h hI hs
  rw [number_mk a1 a2 h2 h3 (worth_any hI hF hv hx hM hm), if_pos rfl]
theorem num_frac {mi : Bool} {I F : List UInt8} {K p2 p3 : Nat} {x : Int} (h : b.drop p = sg mi ++ (I ++ s)) (hI : Dg I) (hs : NoD s) (h2 : fracM b (p + (sg mi).length + I.length) = .ok (F, p2)) (h3 : expM b p2 = .ok (x, p3)) (hF : ∀ c ∈ F, digit c = true) (hv : ¬ 10 ∣ val (I ++ F)) (hx : x - F.length = -((K + 1 : Nat) : Int)) :
    numberM b p = .error (132, p) := by
  obtain ⟨a1, a2⟩ := int_any h hI hs
  have hd : ∀ c ∈ noZ I ++ F, digit c = true := fun c hc => by
    rcases List.mem_append.1 hc with hc | hc
    · exact noZ_d hI c hc
    · exact hF c hc
  have hv2 : ¬ 10 ∣ val (noZ I ++ F) := by rw [val_append, noZ_val, ← val_append]; exact hv
  rw [number_mk a1 a2 h2 h3 (v := 0) (e := 132) (by rw [hx]; exact worth_frac hd hv2), if_neg (by decide)]
theorem num_big {mi : Bool} {I : List UInt8} {p2 p3 : Nat} (h : b.drop p = sg mi ++ (I ++ s)) (hI : Dg I) (hs : NoD s) (h2 : fracM b (p + (sg mi).length + I.length) = .ok ([], p2)) (h3 : expM b p2 = .ok (0, p3)) (hv : 10 ^ 19 ≤ val I) :
    numberM b p = .error (133, p) := by
  obtain ⟨a1, a2⟩ := int_any h hI hs
  rw [number_mk a1 a2 h2 h3 (v := 0) (e := 133) (by rw [List.append_nil]; exact worth_big (noZ_d hI) (by rw [noZ_val]; exact hv)), if_neg (by decide)]
/-- What a text that is a number's is read as. -/
theorem loose_num {mi : Bool} {I : List UInt8} {t : List UInt8} (hb : b = sg mi ++ (I ++ t)) (hI : Dg I) (hl : b.length ≤ 16777216) {n : Int} (hn : numberM b 0 = .ok (n, b.length)) : looseM b = .ok (.mk 2 n [] [] []) := by
  obtain ⟨c, r, hc, hd⟩ : ∃ c r, b = c :: r ∧ (c.toNat = 45 ∨ 48 ≤ c.toNat ∧ c.toNat ≤ 57) := by
    cases mi
    · rcases hI.h with e | ⟨c, s, e, _⟩
      · exact ⟨48, t, by rw [hb, e]; rfl, .inr (by decide)⟩
      · have := hI.d c (by rw [e]; simp)
        unfold digit at this
        simp only [Bool.and_eq_true, decide_eq_true_eq] at this
        exact ⟨c, s ++ t, by rw [hb, e]; rfl, .inr this⟩
    · exact ⟨45, I ++ t, by rw [hb]; rfl, .inl rfl⟩
  have h0 : b.drop 0 = c :: r := hc
  have hbl : blank c = false := by
    have : blank c = true → c.toNat = 32 ∨ c.toNat = 9 ∨ c.toNat = 10 ∨ c.toNat = 13 := by
      unfold blank
      simp only [Bool.or_eq_true, beq_iff_eq, ← UInt8.toNat_inj]
      rintro (((h | h) | h) | h)
      · exact .inl h
      · exact .inr (.inl h)
      · exact .inr (.inr (.inl h))
      · exact .inr (.inr (.inr h))
    rw [Bool.eq_false_iff]
    intro hb
    have := this hb
    omega
  unfold looseM
  rw [if_neg (by omega), at_blank h0 hbl, valueM_succ, at_peek h0]
  dsimp only
  unfold headM
  rw [if_neg (by omega), if_neg (by omega), if_neg (by omega), if_neg (by omega), if_neg (by omega), if_neg (by omega), if_pos (by omega), hn]
  dsimp only
  rw [at_blank_end (List.drop_length), if_neg (by omega)]
theorem loose_numE {mi : Bool} {I : List UInt8} {t : List UInt8} (hb : b = sg mi ++ (I ++ t)) (hI : Dg I) (hl : b.length ≤ 16777216) {e : Er} (hn : numberM b 0 = .error e) : looseM b = .error e := by
  obtain ⟨c, r, hc, hd⟩ : ∃ c r, b = c :: r ∧ (c.toNat = 45 ∨ 48 ≤ c.toNat ∧ c.toNat ≤ 57) := by
    cases mi
    · rcases hI.h with e | ⟨c, s, e, _⟩
      · exact ⟨48, t, by rw [hb, e]; rfl, .inr (by decide)⟩
      · have := hI.d c (by rw [e]; simp)
        unfold digit at this
        simp only [Bool.and_eq_true, decide_eq_true_eq] at this
        exact ⟨c, s ++ t, by rw [hb, e]; rfl, .inr this⟩
    · exact ⟨45, I ++ t, by rw [hb]; rfl, .inl rfl⟩
  have h0 : b.drop 0 = c :: r := hc
  have hbl : blank c = false := by
    have : blank c = true → c.toNat = 32 ∨ c.toNat = 9 ∨ c.toNat = 10 ∨ c.toNat = 13 := by
      unfold blank
      simp only [Bool.or_eq_true, beq_iff_eq, ← UInt8.toNat_inj]
      rintro (((h | h) | h) | h)
      · exact .inl h
      · exact .inr (.inl h)
      · exact .inr (.inr (.inl h))
      · exact .inr (.inr (.inr h))
    rw [Bool.eq_false_iff]
    intro hb
    have := this hb
    omega
  unfold looseM
  rw [if_neg (by omega), at_blank h0 hbl, valueM_succ, at_peek h0]
  dsimp only
  unfold headM
  rw [if_neg (by omega), if_neg (by omega), if_neg (by omega), if_neg (by omega), if_neg (by omega), if_neg (by omega), if_pos (by omega), hn]
end
end Go.Proofs.YtbmeafeojcgndaaDoor

/- Plain: the texts of the law of numbers. -/
set_option linter.unusedVariables false
set_option linter.unusedSimpArgs false
namespace Go.Proofs.YtbmeafeojcgndaaDoor
open Go Go.Sl Go.RowKit
set_option maxRecDepth 100000
abbrev zr (k : Nat) : List UInt8 := List.replicate k 48
theorem nod_nil : NoD [] := fun c t h => by cases h
theorem nod_of {c : UInt8} {s : List UInt8} (h : digit c = false) : NoD (c :: s) := fun c' t e => by cases e; exact h
theorem dec_len {u : Nat} (h : u < 10 ^ 20) : (Lib.decDigits u).length ≤ 20 := by
  rw [Lib.decDigits_length]
  have : ∀ (k u : Nat), u < 10 ^ (k + 1) → Lib.nDigits u ≤ k + 1 := by
    intro k
    induction k with
    | zero => intro u hu; rw [Lib.nDigits_small (by simpa using hu)]; exact Nat.le_refl _
    | succ k ih =>
      intro u hu
      by_cases h2 : u < 10
      · rw [Lib.nDigits_small h2]; omega
      · rw [Lib.nDigits_big h2]
        have := ih (u / 10) (by rw [Nat.pow_succ] at hu; omega)
        omega
  exact this 19 u h
section
variable {n : Int} (h0 : -9223372036854775808 ≤ n) (h1 : n ≤ 9223372036854775807)
include h0 h1
theorem n_back : (if decide (n < 0) = true then -(n.natAbs : Int) else (n.natAbs : Int)) = n := by
  split
  · rename_i h; simp only [decide_eq_true_eq] at h; omega
  · rename_i h; simp only [decide_eq_true_eq] at h; omega
theorem n_m1 : n.natAbs ≤ 9223372036854775808 := by omega
theorem n_m2 : decide (n < 0) = false → n.natAbs < 9223372036854775808 := fun h => by simp only [decide_eq_false_iff_not] at h; omega
theorem n_len : (Lib.decDigits n.natAbs).length ≤ 20 := dec_len (by have : (10 : Nat) ^ 20 = 100000000000000000000 := by decide
                                                                    omega)
/-- An integer, noughts more in its first part, a rest. -/
theorem read_int {j K p2 p3 : Nat} {s F : List UInt8} {x : Int} (hj : j = 0 ∨ n ≠ 0) (hs : NoD s) (hl : s.length + j ≤ 16000000) (hsf : ∀ b q, b.drop q = s → fracM b q = .ok (F, q + p2)) (hse : ∀ b q, b.drop q = s → expM b (q + p2) = .ok (x, q + p3)) (hF : ∀ c ∈ F, digit c = true) (hv : val F = 0) (hx : x - F.length = -(K : Int)) (hK : (n ≠ 0 → K = j + F.length)) (hp : p3 = s.length) :
    looseM (Lib.itoa n ++ zr j ++ s) = .ok (.mk 2 n [] [] []) := by
  have hnl := n_len h0 h1
  obtain ⟨I, hI⟩ : ∃ I, Lib.decDigits n.natAbs ++ zr j = I := ⟨_, rfl⟩
  have hb : Lib.itoa n ++ zr j ++ s = sg (decide (n < 0)) ++ (I ++ s) := by rw [itoa_sg, ← hI]; simp
  have hDg : Dg I := by
    rw [← hI]
    rcases hj with rfl | hn
    · rw [show zr 0 = [] from rfl, List.append_nil]; exact Dg.dec _
    · exact Dg.app (by omega) (zeros_d j)
  have hIl : I.length ≤ 20 + j := by rw [← hI]; simp; omega
  obtain ⟨b, hbb⟩ : ∃ b, Lib.itoa n ++ zr j ++ s = b := ⟨_, rfl⟩
  rw [hbb] at hb ⊢
  have hsgl : (sg (decide (n < 0))).length ≤ 1 := by unfold sg; split <;> simp
  have hd : b.drop 0 = sg (decide (n < 0)) ++ (I ++ s) := hb
  have hq := at_next (at_next hd)
  have hbl : b.length = 0 + (sg (decide (n < 0))).length + I.length + s.length := by rw [hb]; simp; omega
  refine loose_num hb hDg (by omega) ?_
  have hvI : val I = n.natAbs * 10 ^ j := by rw [← hI, val_append, val_zeros, (dec_digit n.natAbs).2.1]; simp
  have hr := num_int (K := K) (M := n.natAbs) hd hDg hs (hsf b _ hq) (hse b _ hq) hF (by
    rw [val_append, hvI, hv, Nat.add_zero]
    by_cases hn : n = 0
    · rw [hn]; simp
    · rw [hK hn, Nat.pow_add, Nat.mul_assoc]) hx (n_m1 h0 h1) (n_m2 h0 h1)
  rw [n_back h0 h1] at hr
  rw [hr, hp, ← hbl]
theorem read_plain : looseM (Lib.itoa n) = .ok (.mk 2 n [] [] []) := by
  have := read_int h0 h1 (j := 0) (K := 0) (p2 := 0) (p3 := 0) (s := []) (F := []) (x := 0) (.inl rfl) nod_nil (by decide) (fun b q h => frac_no h (fun c t e => by cases e)) (fun b q h => exp_no h (fun c t e => by cases e)) (by simp) rfl rfl (fun _ => rfl) rfl
  simpa using this
theorem read_e0 : looseM (Lib.itoa n ++ [101, 48]) = .ok (.mk 2 n [] [] []) := by
  have := read_int h0 h1 (j := 0) (K := 0) (p2 := 0) (p3 := 2) (s := [101, 48]) (F := []) (x := 0) (.inl rfl) (nod_of rfl) (by decide) (fun b q h => frac_no h (fun c t e => by cases e; decide)) (fun b q h => exp_pos (t := [48]) (s := []) h (by simp) (zeros_d 1) nod_nil (by decide)) (by simp) rfl rfl (fun _ => rfl) rfl
  simpa using this
theorem read_dot : looseM (Lib.itoa n ++ [46, 48, 69, 43, 48, 48]) = .ok (.mk 2 n [] [] []) := by
  have := read_int h0 h1 (j := 0) (K := 1) (p2 := 2) (p3 := 6) (s := [46, 48, 69, 43, 48, 48]) (F := [48]) (x := 0) (.inl rfl) (nod_of rfl) (by decide) (fun b q h => frac_at (t := [48]) (s := [69, 43, 48, 48]) h (by simp) (zeros_d 1) (nod_of rfl)) (fun b q h => exp_plus (t := [48, 48]) (s := []) (at_next (t := [46, 48]) h) (by simp) (zeros_d 2) nod_nil (by decide)) (zeros_d 1) rfl rfl (fun _ => rfl) rfl
  simpa using this
theorem read_frac {k : Nat} (hk : 1 ≤ k) (hk2 : k ≤ 400) : looseM (Lib.itoa n ++ [46] ++ zr k) = .ok (.mk 2 n [] [] []) := by
  have := read_int h0 h1 (j := 0) (K := k) (p2 := k + 1) (p3 := k + 1) (s := 46 :: zr k) (F := zr k) (x := 0) (.inl rfl) (nod_of rfl) (by simp; omega)
    (fun b q h => by
      have := frac_at (t := zr k) (s := []) (by rw [List.append_nil]; exact h) (by intro e; have := congrArg List.length e; simp at this; omega) (zeros_d k) nod_nil
      rw [List.length_replicate, Nat.add_assoc, Nat.add_comm 1 k] at this
      exact this)
    (fun b q h => exp_no (s := []) (by have := at_next (t := 46 :: zr k) (s := []) (by rw [List.append_nil]; exact h); simpa using this) (fun c t e => by cases e)) (zeros_d k) (val_zeros k) (by simp) (fun _ => by simp) (by simp)
  simpa using this
omit h0 h1 in
theorem zexp {k : Nat} (hk : 1 ≤ k) (hk2 : k ≤ 400) : Lib.decDigits k ≠ [] ∧ (∀ c ∈ Lib.decDigits k, digit c = true) ∧ val (Lib.decDigits k) = k ∧ (Lib.decDigits k).length ≤ 20 := ⟨(dec_digit k).2.2.2, (dec_digit k).1, (dec_digit k).2.1, dec_len (Nat.lt_of_le_of_lt hk2 (by decide))⟩
theorem read_exp {k : Nat} (hn : n ≠ 0) (hk : 1 ≤ k) (hk2 : k ≤ 400) : looseM (Lib.itoa n ++ zr k ++ [101, 45] ++ Lib.decDigits k) = .ok (.mk 2 n [] [] []) := by
  obtain ⟨e1, e2, e3, e4⟩ := zexp hk hk2
  have := read_int h0 h1 (j := k) (K := k) (p2 := 0) (p3 := 2 + (Lib.decDigits k).length) (s := 101 :: 45 :: Lib.decDigits k) (F := []) (x := -(k : Int)) (.inr hn) (nod_of rfl) (by simp; omega)
    (fun b q h => frac_no h (fun c t e => by cases e; decide))
    (fun b q h => by
      have := exp_neg (t := Lib.decDigits k) (s := []) (by rw [List.append_nil]; exact h) e1 e2 nod_nil (by rw [e3]; omega)
      rw [e3, Nat.add_assoc q, Nat.add_assoc q] at this
      exact this) (by simp) rfl (by simp) (fun _ => rfl) (by simp; omega)
  simpa using this
theorem read_both {k : Nat} (hn : n ≠ 0) (hk : 1 ≤ k) (hk2 : k ≤ 400) : looseM (Lib.itoa n ++ zr k ++ [46] ++ zr k ++ [101, 45] ++ Lib.decDigits k) = .ok (.mk 2 n [] [] []) := by
  obtain ⟨e1, e2, e3, e4⟩ := zexp hk hk2
  have := read_int h0 h1 (j := k) (K := k + k) (p2 := k + 1) (p3 := k + 3 + (Lib.decDigits k).length) (s := 46 :: (zr k ++ 101 :: 45 :: Lib.decDigits k)) (F := zr k) (x := -(k : Int)) (.inr hn) (nod_of rfl) (by simp; omega)
    (fun b q h => by
      have := frac_at (t := zr k) h (by intro e; have := congrArg List.length e; simp at this; omega) (zeros_d k) (nod_of rfl)
      rw [List.length_replicate, Nat.add_assoc, Nat.add_comm 1 k] at this
      exact this)
    (fun b q h => by
      have h2 := at_next (t := 46 :: zr k) (s := 101 :: 45 :: Lib.decDigits k) h
      rw [List.length_cons, List.length_replicate] at h2
      have := exp_neg (t := Lib.decDigits k) (s := []) (by rw [List.append_nil]; exact h2) e1 e2 nod_nil (by rw [e3]; omega)
      rw [e3] at this
      rw [this]
      congr 2
      omega) (zeros_d k) (val_zeros k) (by simp; omega) (fun _ => by simp) (by simp; omega)
  simpa using this
end
end Go.Proofs.YtbmeafeojcgndaaDoor
