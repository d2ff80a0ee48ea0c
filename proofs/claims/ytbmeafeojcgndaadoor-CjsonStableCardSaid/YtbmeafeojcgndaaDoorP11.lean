/- Plain: numbers that are read out of a text. -/
import Derived.Test.YtbmeafeojcgndaaDoorP6
import Derived.Test.YtbmeafeojcgndaaDoorP5
import Derived.Test.YtbmeafeojcgndaaDoorV35
import Derived.Test.YtbmeafeojcgndaaDoorV30
set_option linter.unusedVariables false
set_option linter.unusedSimpArgs false
namespace Go.Proofs.YtbmeafeojcgndaaDoor
open Go Go.Sl Go.RowKit
set_option maxRecDepth 100000
section
variable {b s t : List UInt8} {p : Nat} {c : UInt8}
theorem at_get (h : b.drop p = c :: s) : b[p]? = some c := by rw [← List.head?_drop, h]; rfl
theorem at_end (h : b.drop p = []) : b[p]? = none := by rw [← List.head?_drop, h]; rfl
theorem at_peek (h : b.drop p = c :: s) : peekM b p = .ok c := by unfold peekM; rw [at_get h]
theorem at_next (h : b.drop p = t ++ s) : b.drop (p + t.length) = s := by rw [← List.drop_drop, h, List.drop_left]
theorem at_one (h : b.drop p = c :: s) : b.drop (p + 1) = s := at_next (t := [c]) h
theorem at_blank (h : b.drop p = c :: s) (hc : blank c = false) : blanksM b p = p := blanks_no (by rw [at_get h]; exact hc)
theorem at_blank_end (h : b.drop p = []) : blanksM b p = p := blanks_no (by rw [at_end h]; rfl)
theorem at_lt (h : b.drop p = c :: s) : p < b.length := by
  rcases Nat.lt_or_ge p b.length with h1 | h1
  · exact h1
  · rw [List.drop_of_length_le h1] at h; cases h
/-- No digit at the head. -/
def NoD (s : List UInt8) : Prop := ∀ c t, s = c :: t → digit c = false
/-- None of what goes on with a number at the head. -/
def NoN (s : List UInt8) : Prop := ∀ c t, s = c :: t → digit c = false ∧ c.toNat ≠ 46 ∧ c.toNat ≠ 101 ∧ c.toNat ≠ 69
theorem digs_at : ∀ {t : List UInt8}, (∀ x ∈ t, digit x = true) → NoD s → digs (t ++ s) = t.length
  | [], _, h => by
    cases s with
    | nil => rfl
    | cons c s => show (if digit c then _ else 0) = 0; rw [h c s rfl]; rfl
  | c :: t, hd, h => by
    show (if digit c then digs (t ++ s) + 1 else 0) = _
    rw [if_pos (hd c (by simp)), digs_at (fun x hx => hd x (List.mem_cons_of_mem _ hx)) h]; rfl
theorem run_at (h : b.drop p = t ++ s) (ht : t ≠ []) (hd : ∀ x ∈ t, digit x = true) (hs : NoD s) : runM b p = .ok (t, p + t.length) := by
  cases t with
  | nil => exact absurd rfl ht
  | cons c t =>
    unfold runM
    rw [at_peek (s := t ++ s) h]
    dsimp only
    rw [if_pos (hd c (by simp)), h, digs_at hd hs, List.take_left]
theorem int_at (h : b.drop p = c :: t ++ s) (hc : c.toNat ≠ 48) (hd : ∀ x ∈ c :: t, digit x = true) (hs : NoD s) : intM b p = .ok (c :: t, p + (c :: t).length) := by
  unfold intM
  rw [at_peek (s := t ++ s) h]
  dsimp only
  rw [if_neg hc]
  exact run_at h (by simp) hd hs
theorem int_zero (h : b.drop p = 48 :: s) : intM b p = .ok ([], p + 1) := by
  unfold intM
  rw [at_peek h]; rfl
theorem frac_at (h : b.drop p = 46 :: (t ++ s)) (ht : t ≠ []) (hd : ∀ x ∈ t, digit x = true) (hs : NoD s) : fracM b p = .ok (t, p + 1 + t.length) := by
  unfold fracM
  rw [at_get h]
  exact run_at (at_one h) ht hd hs
theorem frac_no (h : b.drop p = s) (hs : ∀ c t, s = c :: t → c.toNat ≠ 46) : fracM b p = .ok ([], p) := by
  unfold fracM
  cases s with
  | nil => rw [at_end h]; rfl
  | cons c s =>
    rw [at_get h, if_neg]
    intro e
    have e2 : c = 46 := by simpa using e
    exact hs c s rfl (by rw [e2]; rfl)
theorem exp_no (h : b.drop p = s) (hs : ∀ c t, s = c :: t → c.toNat ≠ 101 ∧ c.toNat ≠ 69) : expM b p = .ok (0, p) := by
  unfold expM
  cases s with
  | nil => rw [at_end h]; rfl
  | cons c s =>
    rw [at_get h, if_neg]
    intro e
    have e2 : c = 101 ∨ c = 69 := by simpa using e
    rcases e2 with e2 | e2
    · exact (hs c s rfl).1 (by rw [e2]; rfl)
    · exact (hs c s rfl).2 (by rw [e2]; rfl)
theorem valL_ge : ∀ (l : List UInt8) (n : Nat), n ≤ valL l n
  | [], n => Nat.le_refl _
  | c :: l, n => Nat.le_trans (by omega) (valL_ge l (10 * n + dv c))
theorem exp_val (l : List UInt8) : val l ≤ 1099511627776 → expV l = val l := by
  have key : ∀ (l : List UInt8) (n : Nat), valL l n ≤ 1099511627776 → l.foldl (fun n c => min 1099511627776 (n * 10 + (c.toNat - 48))) n = valL l n := by
    intro l
    induction l with
    | nil => intro n _; rfl
    | cons c l ih =>
      intro n h
      have h2 : valL l (10 * n + dv c) ≤ 1099511627776 := h
      have h3 := valL_ge l (10 * n + dv c)
      show l.foldl _ (min 1099511627776 (n * 10 + (c.toNat - 48))) = valL l (10 * n + dv c)
      have e : min 1099511627776 (n * 10 + (c.toNat - 48)) = 10 * n + dv c := by unfold dv at h2 h3 ⊢; omega
      rw [e]
      exact ih _ h2
  exact key l 0
theorem exp_neg (h : b.drop p = 101 :: 45 :: (t ++ s)) (ht : t ≠ []) (hd : ∀ x ∈ t, digit x = true) (hs : NoD s) (hv : val t ≤ 1099511627776) : expM b p = .ok (-(val t : Int), p + 1 + 1 + t.length) := by
  unfold expM
  rw [at_get h, if_pos (by decide)]
  have h1 := at_one h
  unfold exponentM
  rw [at_get h1]
  have e1 : ((some (45 : UInt8) == some 45) || (some (45 : UInt8) == some 43)) = true := by decide
  have e2 : (some (45 : UInt8) == some 45) = true := by decide
  rw [e1, if_pos rfl, run_at (at_one h1) ht hd hs]
  dsimp only
  rw [e2, if_pos rfl, exp_val t hv]
theorem exp_plus (h : b.drop p = 69 :: 43 :: (t ++ s)) (ht : t ≠ []) (hd : ∀ x ∈ t, digit x = true) (hs : NoD s) (hv : val t ≤ 1099511627776) : expM b p = .ok ((val t : Int), p + 1 + 1 + t.length) := by
  unfold expM
  rw [at_get h, if_pos (by decide)]
  have h1 := at_one h
  unfold exponentM
  rw [at_get h1]
  have e1 : ((some (43 : UInt8) == some 45) || (some (43 : UInt8) == some 43)) = true := by decide
  have e2 : (some (43 : UInt8) == some 45) = false := by decide
  rw [e1, if_pos rfl, run_at (at_one h1) ht hd hs]
  dsimp only
  rw [e2, exp_val t hv]; rfl
theorem exp_pos (h : b.drop p = 101 :: (t ++ s)) (ht : t ≠ []) (hd : ∀ x ∈ t, digit x = true) (hs : NoD s) (hv : val t ≤ 1099511627776) : expM b p = .ok ((val t : Int), p + 1 + t.length) := by
  unfold expM
  rw [at_get h, if_pos (by decide)]
  have h1 := at_one h
  cases t with
  | nil => exact absurd rfl ht
  | cons c t =>
    have hc := hd c (by simp)
    unfold exponentM
    rw [at_get (s := t ++ s) h1]
    have hc2 : c ≠ 45 ∧ c ≠ 43 := by
      constructor <;> (rintro rfl; exact absurd hc (by decide))
    have e1 : (some c == some 45) = false := by simp [hc2.1]
    have e2 : (some c == some 43) = false := by simp [hc2.2]
    rw [e1, e2]
    rw [if_neg (by simp), run_at h1 ht hd hs]
    dsimp only
    rw [if_neg (by simp), exp_val _ hv]
theorem number_mk {mi : Bool} {D F : List UInt8} {x v e : Int} {p1 p2 p3 : Nat} (hmi : (b[p]? == some 45) = mi) (h1 : intM b (if mi then p + 1 else p) = .ok (D, p1)) (h2 : fracM b p1 = .ok (F, p2)) (h3 : expM b p2 = .ok (x, p3)) (hw : worthP (D ++ F) (x - F.length) mi = (v, e)) :
    numberM b p = if e = 0 then .ok (v, p3) else .error (e, p) := by
  unfold numberM
  rw [hmi, h1]
  dsimp only
  unfold numB
  rw [h2]
  dsimp only
  unfold numC
  rw [h3]
  dsimp only
  unfold numD
  rw [hw]
end
theorem dec_digit (u : Nat) : (∀ c ∈ Lib.decDigits u, digit c = true) ∧ val (Lib.decDigits u) = u ∧ (0 < u → ∃ c t, Lib.decDigits u = c :: t ∧ c.toNat ≠ 48) ∧ Lib.decDigits u ≠ [] := by
  induction u using Nat.strongRecOn with
  | _ u ih =>
    have hof : ∀ n, n < 10 → (UInt8.ofNat (48 + n)).toNat = 48 + n := fun n hn => by rw [UInt8.toNat_ofNat']; exact Nat.mod_eq_of_lt (by omega)
    have hdg : ∀ n, n < 10 → digit (UInt8.ofNat (48 + n)) = true := fun n hn => by unfold digit; rw [hof n hn]; simp; omega
    by_cases h : u < 10
    · rw [Lib.decDigits, dif_pos h]
      refine ⟨fun c hc => ?_, ?_, fun h0 => ⟨_, _, rfl, ?_⟩, by simp⟩
      · rw [List.mem_singleton.1 hc]; exact hdg u h
      · simp [val, valL, dv]; omega
      · rw [hof u h]; omega
    · obtain ⟨h1, h2, h3, h4⟩ := ih (u / 10) (by omega)
      rw [Lib.decDigits, dif_neg h]
      refine ⟨fun c hc => ?_, ?_, fun _ => ?_, by simp⟩
      · rcases List.mem_append.1 hc with hc | hc
        · exact h1 c hc
        · rw [List.mem_singleton.1 hc]; exact hdg _ (by omega)
      · rw [val_append, h2]
        have : val [UInt8.ofNat (48 + u % 10)] = u % 10 := by simp [val, valL, dv]; omega
        rw [this]; simp; omega
      · obtain ⟨c, t, e, hc⟩ := h3 (by omega)
        exact ⟨c, t ++ [UInt8.ofNat (48 + u % 10)], by rw [e]; rfl, hc⟩
end Go.Proofs.YtbmeafeojcgndaaDoor

/- Plain: an integer however it is written. -/
set_option linter.unusedVariables false
set_option linter.unusedSimpArgs false
namespace Go.Proofs.YtbmeafeojcgndaaDoor
open Go Go.Sl Go.RowKit
set_option maxRecDepth 100000
def sg (mi : Bool) : List UInt8 := if mi then [45] else []
/-- The digits of an integer's first part. -/
structure Dg (I : List UInt8) : Prop where
  d : ∀ c ∈ I, digit c = true
  h : I = [48] ∨ ∃ c t, I = c :: t ∧ c.toNat ≠ 48
def noZ (I : List UInt8) : List UInt8 := if I = [48] then [] else I
theorem noZ_val (I : List UInt8) : val (noZ I) = val I := by
  unfold noZ
  split
  · rename_i h; rw [h]; rfl
  · rfl
theorem noZ_d {I : List UInt8} (h : Dg I) : ∀ c ∈ noZ I, digit c = true := by
  unfold noZ
  split
  · simp
  · exact h.d
theorem Dg.dec (u : Nat) : Dg (Lib.decDigits u) := by
  obtain ⟨h1, h2, h3, h4⟩ := dec_digit u
  refine ⟨h1, ?_⟩
  rcases Nat.eq_zero_or_pos u with rfl | h
  · exact .inl (by rw [Lib.decDigits, dif_pos (by omega)]; rfl)
  · exact .inr (h3 h)
theorem zeros_d (k : Nat) : ∀ c ∈ List.replicate k (48 : UInt8), digit c = true := fun c hc => by rw [List.eq_of_mem_replicate hc]; rfl
theorem Dg.app {u : Nat} (h : 0 < u) {t : List UInt8} (ht : ∀ c ∈ t, digit c = true) : Dg (Lib.decDigits u ++ t) := by
  obtain ⟨h1, h2, h3, h4⟩ := dec_digit u
  refine ⟨fun c hc => ?_, ?_⟩
  · rcases List.mem_append.1 hc with hc | hc
    · exact h1 c hc
    · exact ht c hc
  · obtain ⟨c, s, e, hc⟩ := h3 h
    exact .inr ⟨c, s ++ t, by rw [e]; rfl, hc⟩
theorem itoa_sg (n : Int) : Lib.itoa n = sg (decide (n < 0)) ++ Lib.decDigits n.natAbs := by
  unfold Lib.itoa sg
  by_cases h : n < 0
  · simp [h]
  · have : n.toNat = n.natAbs := by omega
    simp [h, this]
section
variable {b s : List UInt8} {p : Nat}
theorem int_any {mi : Bool} {I : List UInt8} (h : b.drop p = sg mi ++ (I ++ s)) (hI : Dg I) (hs : NoD s) : (b[p]? == some 45) = mi ∧ intM b (if mi then p + 1 else p) = .ok (noZ I, p + (sg mi).length + I.length) := by
  have hne : I ≠ [] := by rcases hI.h with h | ⟨c, t, h, _⟩ <;> rw [h] <;> simp
  have key : ∀ q, b.drop q = I ++ s → intM b q = .ok (noZ I, q + I.length) := fun q hq => by
    rcases hI.h with e | ⟨c, t, e, hc⟩
    · subst e
      exact int_zero hq
    · have : noZ I = I := by
        unfold noZ
        rw [if_neg]
        intro e2
        rw [e2] at e
        cases e
        exact hc rfl
      rw [this]
      subst e
      exact int_at hq hc hI.d hs
  cases mi
  · have h2 : b.drop p = I ++ s := h
    refine ⟨?_, key p h2⟩
    cases I with
    | nil => exact absurd rfl hne
    | cons c t =>
      rw [at_get (s := t ++ s) h2]
      have := hI.d c (by simp)
      have : c ≠ 45 := by rintro rfl; exact absurd this (by decide)
      simp [this]
  · have h2 : b.drop p = 45 :: (I ++ s) := h
    exact ⟨by rw [at_get h2]; rfl, key (p + 1) (at_one h2)⟩
theorem worth_any {I F : List UInt8} {mi : Bool} {M K : Nat} {x : Int} (hI : Dg I) (hF : ∀ c ∈ F, digit c = true) (hv : val (I ++ F) = M * 10 ^ K) (hx : x - F.length = -(K : Int)) (hM : M ≤ 9223372036854775808) (hm : mi = false → M < 9223372036854775808) : worthP (noZ I ++ F) (x - F.length) mi = (if mi then -(M : Int) else (M : Int), 0) := by
  have hd : ∀ c ∈ noZ I ++ F, digit c = true := fun c hc => by
    rcases List.mem_append.1 hc with hc | hc
    · exact noZ_d hI c hc
    · exact hF c hc
  have hv2 : val (noZ I ++ F) = M * 10 ^ K := by rw [← hv, val_append, val_append, noZ_val]
  rcases Nat.eq_zero_or_pos M with rfl | h0
  · rw [worth_zero hd (by rw [hv2]; simp)]
    cases mi <;> rfl
  · rw [hx]; exact worth_int hd hv2 h0 hM hm
theorem num_int {mi : Bool} {I F : List UInt8} {M K p2 p3 : Nat} {x : Int} (h : b.drop p = sg mi ++ (I ++ s)) (hI : Dg I) (hs : NoD s) (h2 : fracM b (p + (sg mi).length + I.length) = .ok (F, p2)) (h3 : expM b p2 = .ok (x, p3)) (hF : ∀ c ∈ F, digit c = true) (hv : val (I ++ F) = M * 10 ^ K) (hx : x - F.length = -(K : Int)) (hM : M ≤ 9223372036854775808) (hm : mi = false → M < 9223372036854775808) :
    numberM b p = .ok (if mi then -(M : Int) else (M : Int), p3) := by
  obtain ⟨a1, a2⟩ := int_any h hI hs
  rw [number_mk a1 a2 h2 h3 (worth_any hI hF hv hx hM hm), if_pos rfl]
theorem num_frac {mi : Bool} {I F : List UInt8} {K p2 p3 : Nat} {x : Int} (h : b.drop p = sg mi ++ (I ++ s)) (hI : Dg I) (hs : NoD s) (h2 : fracM b (p + (sg mi).length + I.length) = .ok (F, p2)) (h3 : expM b p2 = .ok (x, p3)) (hF : ∀ c ∈ F, digit c = true) (hv : ¬ 10 ∣ val (I ++ F)) (hx : x - F.length = -((K + 1 : Nat) : Int)) :
    numberM b p = .error (132, p) := by
  obtain ⟨a1, a2⟩ := int_any h hI hs
  have hd : ∀ c ∈ noZ I ++ F, digit c = true := fun c hc => by
    rcases List.mem_append.1 hc with hc | hc
    · exact noZ_d hI c hc
    · exact hF c hc
  have hv2 : ¬ 10 ∣ val (noZ I ++ F) := by rw [val_append, noZ_val, ← val_append]; exact hv
  rw [number_mk a1 a2 h2 h3 (v := 0) (e := 132) (by rw [hx]; exact worth_frac hd hv2), if_neg (by decide)]
theorem num_big {mi : Bool} {I : List UInt8} {p2 p3 : Nat} (h : b.drop p = sg mi ++ (I ++ s)) (hI : Dg I) (hs : NoD s) (h2 : fracM b (p + (sg mi).length + I.length) = .ok ([], p2)) (h3 : expM b p2 = .ok (0, p3)) (hv : 10 ^ 19 ≤ val I) :
    numberM b p = .error (133, p) := by
  obtain ⟨a1, a2⟩ := int_any h hI hs
  rw [number_mk a1 a2 h2 h3 (v := 0) (e := 133) (by rw [List.append_nil]; exact worth_big (noZ_d hI) (by rw [noZ_val]; exact hv)), if_neg (by decide)]
/-- What a text that is a number's is read as. -/
theorem loose_num {mi : Bool} {I : List UInt8} {t : List UInt8} (hb : b = sg mi ++ (I ++ t)) (hI : Dg I) (hl : b.length ≤ 16777216) {n : Int} (hn : numberM b 0 = .ok (n, b.length)) : looseM b = .ok (.mk 2 n [] [] []) := by
  obtain ⟨c, r, hc, hd⟩ : ∃ c r, b = c :: r ∧ (c.toNat = 45 ∨ 48 ≤ c.toNat ∧ c.toNat ≤ 57) := by
    cases mi
    · rcases hI.h with e | ⟨c, s, e, _⟩
      · exact ⟨48, t, by rw [hb, e]; rfl, .inr (by decide)⟩
      · have := hI.d c (by rw [e]; simp)
        unfold digit at this
        simp only [Bool.and_eq_true, decide_eq_true_eq] at this
        exact ⟨c, s ++ t, by rw [hb, e]; rfl, .inr this⟩
    · exact ⟨45, I ++ t, by rw [hb]; rfl, .inl rfl⟩
  have h0 : b.drop 0 = c :: r := hc
  have hbl : blank c = false := by
    have : blank c = true → c.toNat = 32 ∨ c.toNat = 9 ∨ c.toNat = 10 ∨ c.toNat = 13 := by
      unfold blank
      simp only [Bool.or_eq_true, beq_iff_eq, ← UInt8.toNat_inj]
      rintro (((h | h) | h) | h)
      · exact .inl h
      · exact .inr (.inl h)
      · exact .inr (.inr (.inl h))
      · exact .inr (.inr (.inr h))
    rw [Bool.eq_false_iff]
    intro hb
    have := this hb
    omega
  unfold looseM
  rw [if_neg (by omega), at_blank h0 hbl, valueM_succ, at_peek h0]
  dsimp only
  unfold headM
  rw [if_neg (by omega), if_neg (by omega), if_neg (by omega), if_neg (by omega), if_neg (by omega), if_neg (by omega), if_pos (by omega), hn]
  dsimp only
  rw [at_blank_end (List.drop_length), if_neg (by omega)]
theorem loose_numE {mi : Bool} {I : List UInt8} {t : List UInt8} (hb : b = sg mi ++ (I ++ t)) (hI : Dg I) (hl : b.length ≤ 16777216) {e : Er} (hn : numberM b 0 = .error e) : looseM b = .error e := by
  obtain ⟨c, r, hc, hd⟩ : ∃ c r, b = c :: r ∧ (c.toNat = 45 ∨ 48 ≤ c.toNat ∧ c.toNat ≤ 57) := by
    cases mi
    · rcases hI.h with e | ⟨c, s, e, _⟩
      · exact ⟨48, t, by rw [hb, e]; rfl, .inr (by decide)⟩
      · have := hI.d c (by rw [e]; simp)
        unfold digit at this
        simp only [Bool.and_eq_true, decide_eq_true_eq] at this
        exact ⟨c, s ++ t, by rw [hb, e]; rfl, .inr this⟩
    · exact ⟨45, I ++ t, by rw [hb]; rfl, .inl rfl⟩
  have h0 : b.drop 0 = c :: r := hc
  have hbl : blank c = false := by
    have : blank c = true → c.toNat = 32 ∨ c.toNat = 9 ∨ c.toNat = 10 ∨ c.toNat = 13 := by
      unfold blank
      simp only [Bool.or_eq_true, beq_iff_eq, ← UInt8.toNat_inj]
      rintro (((h | h) | h) | h)
      · exact .inl h
      · exact .inr (.inl h)
      · exact .inr (.inr (.inl h))
      · exact .inr (.inr (.inr h))
    rw [Bool.eq_false_iff]
    intro hb
    have := this hb
    omega
  unfold looseM
  rw [if_neg (by omega), at_blank h0 hbl, valueM_succ, at_peek h0]
  dsimp only
  unfold headM
  rw [if_neg (by omega), if_neg (by omega), if_neg (by omega), if_neg (by omega), if_neg (by omega), if_neg (by omega), if_pos (by omega), hn]
end
end Go.Proofs.YtbmeafeojcgndaaDoor

/- Plain: what is written is read: strings and numbers. -/
set_option linter.unusedVariables false
set_option linter.unusedSimpArgs false
namespace Go.Proofs.YtbmeafeojcgndaaDoor
open Go Go.Sl Go.RowKit
set_option maxRecDepth 100000
theorem word_at {b : List UInt8} : ∀ {t s : List UInt8} {p : Nat}, b.drop p = t ++ s → wordM b t p = .ok (p + t.length)
  | [], _, _, _ => rfl
  | c :: t, s, p, h => by
    rw [wordM_cons, at_peek (s := t ++ s) h]
    dsimp only
    rw [if_pos rfl, word_at (at_one h), List.length_cons]
    congr 1; omega
theorem num_at {b s : List UInt8} {p : Nat} {n : Int} (h0 : -9223372036854775808 ≤ n) (h1 : n ≤ 9223372036854775807) (h : b.drop p = Lib.itoa n ++ s) (hs : NoN s) : numberM b p = .ok (n, p + (Lib.itoa n).length) := by
  rw [itoa_sg, List.append_assoc] at h
  have hq := at_next (at_next h)
  have hr := num_int (K := 0) (M := n.natAbs) (F := []) (x := 0) h (Dg.dec n.natAbs) (fun c t e => (hs c t e).1) (frac_no hq fun c t e => (hs c t e).2.1) (exp_no hq fun c t e => (hs c t e).2.2) (by simp) (by rw [List.append_nil, (dec_digit n.natAbs).2.1]; simp) rfl (by omega) (fun h => by simp only [decide_eq_false_iff_not] at h; omega)
  have hn : (if decide (n < 0) = true then -(n.natAbs : Int) else (n.natAbs : Int)) = n := by
    split
    · rename_i h; simp only [decide_eq_true_eq] at h; omega
    · rename_i h; simp only [decide_eq_true_eq] at h; omega
  rw [hn] at hr
  rw [hr, itoa_sg, List.length_append, Nat.add_assoc]
theorem unit_at {b s : List UInt8} {p fr h1 h2 h3 h4 : Nat} {c1 c2 c3 c4 : UInt8} (h : b.drop p = c1 :: c2 :: c3 :: c4 :: s) (e1 : hexV c1 = some h1) (e2 : hexV c2 = some h2) (e3 : hexV c3 = some h3) (e4 : hexV c4 = some h4) : unitM b fr p = .ok (16 * (16 * (16 * (16 * 0 + h1) + h2) + h3) + h4, p + 1 + 1 + 1 + 1) := by
  unfold unitM
  rw [unitL_succ, at_peek h]
  dsimp only
  rw [e1]
  dsimp only
  rw [unitL_succ, at_peek (at_one h)]
  dsimp only
  rw [e2]
  dsimp only
  rw [unitL_succ, at_peek (at_one (at_one h))]
  dsimp only
  rw [e3]
  dsimp only
  rw [unitL_succ, at_peek (at_one (at_one (at_one h)))]
  dsimp only
  rw [e4]
  rfl
theorem hex_all : ∀ n : Fin 16, hexV (Go.Sl.rd hexs ((n.val : Nat) : Int)) = some n.val := by decide
theorem utf8_small {c : UInt8} (h : c.toNat < 128) : utf8 c.toNat = [c] := by unfold utf8; rw [if_pos h, u8_of rfl]
/-- One byte's escape, read. -/
theorem esc_at {b s : List UInt8} {p : Nat} {c : UInt8} (h : b.drop p = escB c ++ s) (hc : c.toNat < 128) (f : Nat) (out : List UInt8) : textL b (f + 1) out p = textL b f (out ++ [c]) (p + (escB c).length) := by
  have key : ∀ (d : UInt8) (t : List UInt8) (q : Nat), b.drop p = 92 :: d :: t → escC b p d.toNat = .ok (c.toNat, q) → textL b (f + 1) out p = textL b f (out ++ [c]) q := fun d t q hd he => by
    rw [textL_succ, at_peek hd]
    dsimp only
    rw [if_neg (by decide), if_pos (by decide)]
    have : escM b p = .ok (c.toNat, q) := by unfold escM; rw [at_peek (at_one hd)]; exact he
    rw [this]
    dsimp only
    rw [utf8_small hc]
  unfold escB at h ⊢
  split at h
  · rename_i h1
    rw [if_pos h1]
    exact key c s (p + 2) h (by unfold escC; rw [if_pos (by omega)])
  rename_i h1
  rw [if_neg h1]
  split at h
  · rename_i h2
    rw [if_pos h2]
    exact key 98 s (p + 2) h (by unfold escC; rw [h2]; rfl)
  rename_i h2
  rw [if_neg h2]
  split at h
  · rename_i h3
    rw [if_pos h3]
    exact key 116 s (p + 2) h (by unfold escC; rw [h3]; rfl)
  rename_i h3
  rw [if_neg h3]
  split at h
  · rename_i h4
    rw [if_pos h4]
    exact key 110 s (p + 2) h (by unfold escC; rw [h4]; rfl)
  rename_i h4
  rw [if_neg h4]
  split at h
  · rename_i h5
    rw [if_pos h5]
    exact key 102 s (p + 2) h (by unfold escC; rw [h5]; rfl)
  rename_i h5
  rw [if_neg h5]
  split at h
  · rename_i h6
    rw [if_pos h6]
    exact key 114 s (p + 2) h (by unfold escC; rw [h6]; rfl)
  rename_i h6
  rw [if_neg h6]
  split at h
  · rename_i h7
    rw [if_pos h7]
    refine key 117 _ (p + 6) h ?_
    have hu := unit_at (fr := p) (at_one (at_one h)) (show hexV 48 = some 0 from rfl) (show hexV 48 = some 0 from rfl) (hex_all ⟨c.toNat / 16, by omega⟩) (hex_all ⟨c.toNat % 16, by omega⟩)
    have e : 16 * (16 * (16 * (16 * 0 + 0) + 0) + c.toNat / 16) + c.toNat % 16 = c.toNat := by omega
    have hv : unitsM b p (p + 2) = .ok (c.toNat, p + 6) := by
      unfold unitsM
      rw [show p + 2 = p + 1 + 1 from rfl, hu]
      dsimp only
      rw [e, if_pos (by omega)]
    have e117 : (117 : UInt8).toNat = 117 := rfl
    rw [e117]
    unfold escC
    rw [if_neg (by decide), if_neg (by decide), if_neg (by decide), if_neg (by decide), if_neg (by decide), if_neg (by decide), if_pos rfl]
    exact hv
  · rename_i h7
    rw [if_neg h7]
    have hd : b.drop p = c :: s := h
    have hdec : decN (b.drop p) = (c.toNat, 1) := by
      have := dec_utf8 (r := c.toNat) ⟨by omega, by omega⟩ s
      rw [utf8_small hc] at this
      rw [hd]; exact this
    rw [textL_succ, at_peek hd]
    dsimp only
    rw [if_neg (by omega), if_neg (by omega), if_neg h7, hdec, if_neg (by dsimp only; omega), hd]
    rfl
theorem utf8_high {r : Nat} (h : okR r) (h128 : 128 ≤ r) : ∀ c ∈ utf8 r, 128 ≤ c.toNat := by
  obtain ⟨h1, h2⟩ := h
  have hof : ∀ n, 128 ≤ n → n < 256 → 128 ≤ (UInt8.ofNat n).toNat := fun n h3 h4 => by rw [UInt8.toNat_ofNat', Nat.mod_eq_of_lt h4]; exact h3
  unfold utf8
  rw [if_neg (by omega)]
  intro c hc
  split at hc
  · simp only [List.mem_cons, List.not_mem_nil, or_false] at hc
    rcases hc with rfl | rfl <;> exact hof _ (by omega) (by omega)
  split at hc
  · simp only [List.mem_cons, List.not_mem_nil, or_false] at hc
    rcases hc with rfl | rfl | rfl <;> exact hof _ (by omega) (by omega)
  · simp only [List.mem_cons, List.not_mem_nil, or_false] at hc
    rcases hc with rfl | rfl | rfl | rfl <;> exact hof _ (by omega) (by omega)
theorem escB_high {c : UInt8} (h : 128 ≤ c.toNat) : escB c = [c] := by
  unfold escB
  rw [if_neg (by omega), if_neg (by omega), if_neg (by omega), if_neg (by omega), if_neg (by omega), if_neg (by omega), if_neg (by omega)]
theorem flat_high : ∀ {l : List UInt8}, (∀ c ∈ l, 128 ≤ c.toNat) → l.flatMap escB = l
  | [], _ => rfl
  | c :: l, h => by rw [List.flatMap_cons, escB_high (h c (by simp)), flat_high fun x hx => h x (List.mem_cons_of_mem _ hx)]; rfl
/-- A code point's text, read. -/
theorem rune_at {b s : List UInt8} {p r : Nat} (hr : okR r) (h : b.drop p = (utf8 r).flatMap escB ++ s) (f : Nat) (out : List UInt8) : textL b (f + 1) out p = textL b f (out ++ utf8 r) (p + ((utf8 r).flatMap escB).length) := by
  rcases Nat.lt_or_ge r 128 with h1 | h1
  · have hn : (UInt8.ofNat r).toNat = r := by rw [UInt8.toNat_ofNat']; exact Nat.mod_eq_of_lt (by omega)
    have hu : utf8 r = [UInt8.ofNat r] := by unfold utf8; rw [if_pos h1]
    rw [hu] at h ⊢
    have hf : [UInt8.ofNat r].flatMap escB = escB (UInt8.ofNat r) := by simp
    rw [hf] at h ⊢
    exact esc_at h (by omega) f out
  · have hh := utf8_high hr h1
    rw [flat_high hh] at h ⊢
    obtain ⟨c, t, hct⟩ : ∃ c t, utf8 r = c :: t := by
      cases hu : utf8 r with
      | nil => exact absurd hu (utf8_ne r)
      | cons c t => exact ⟨c, t, rfl⟩
    have hc := hh c (by rw [hct]; simp)
    have hd : b.drop p = c :: (t ++ s) := by rw [h, hct]; rfl
    have hdec : decN (b.drop p) = (r, (utf8 r).length) := by rw [h]; exact dec_utf8 hr s
    rw [textL_succ, at_peek hd]
    dsimp only
    rw [if_neg (by omega), if_neg (by omega), if_neg (by omega), hdec, if_neg utf8_bad, h, List.take_left]
theorem runes_at {b s : List UInt8} : ∀ {rs : List Nat} {p : Nat} (f : Nat) (out : List UInt8), (∀ r ∈ rs, okR r) → b.drop p = (rs.flatMap utf8).flatMap escB ++ 34 :: s → rs.length < f → textL b f out p = .ok (out ++ rs.flatMap utf8, p + ((rs.flatMap utf8).flatMap escB).length + 1)
  | [], p, 0, _, _, _, hf => by simp at hf
  | [], p, f + 1, out, _, h, _ => by
    rw [textL_succ, at_peek (c := 34) (s := s) h]
    dsimp only
    rw [if_pos (by decide)]
    simp
  | r :: rs, p, 0, _, _, _, hf => by simp at hf
  | r :: rs, p, f + 1, out, hr, h, hf => by
    rw [List.flatMap_cons, List.flatMap_append, List.append_assoc] at h
    rw [rune_at (hr r (by simp)) h f out, runes_at f _ (fun x hx => hr x (List.mem_cons_of_mem _ hx)) (at_next h) (by simpa using hf)]
    simp [Nat.add_assoc]
theorem esc_len (c : UInt8) : 1 ≤ (escB c).length := by
  unfold escB
  repeat' split
  all_goals simp
theorem flat_len1 : ∀ l : List UInt8, l.length ≤ (l.flatMap escB).length
  | [] => Nat.le_refl _
  | c :: l => by rw [List.flatMap_cons, List.length_append, List.length_cons]; have := flat_len1 l; have := esc_len c; omega
theorem flat_len2 : ∀ rs : List Nat, rs.length ≤ (rs.flatMap utf8).length
  | [] => Nat.le_refl _
  | r :: rs => by
    rw [List.flatMap_cons, List.length_append, List.length_cons]
    have := flat_len2 rs
    have : 1 ≤ (utf8 r).length := List.length_pos_iff.2 (utf8_ne r)
    omega
/-- A string's text, read. -/
theorem text_at {b s t : List UInt8} {p : Nat} (hw : Wh t) (h : b.drop p = quoteB t ++ s) : textM b p = .ok (t, p + (quoteB t).length) := by
  obtain ⟨rs, hr, rfl⟩ := hw
  unfold quoteB at h
  have h2 : b.drop (p + 1) = ((rs.flatMap utf8).flatMap escB) ++ 34 :: s := by
    have := at_one (c := 34) (s := (((rs.flatMap utf8).flatMap escB) ++ [34]) ++ s) h
    rw [this]; simp
  have hl := congrArg List.length h2
  rw [List.length_drop, List.length_append, List.length_cons] at hl
  have l1 := flat_len1 (rs.flatMap utf8)
  have l2 := flat_len2 rs
  unfold textM
  rw [runes_at (b.length + 1) [] hr h2 (by omega)]
  unfold quoteB
  simp
  omega
end Go.Proofs.YtbmeafeojcgndaaDoor
