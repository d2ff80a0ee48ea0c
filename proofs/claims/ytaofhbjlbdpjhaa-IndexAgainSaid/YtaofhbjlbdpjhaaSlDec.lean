/- What index.Decode reads: the plain law. -/
import Derived.Test.YtaofhbjlbdpjhaaSlNum
set_option linter.unusedVariables false
set_option linter.unusedSimpArgs false
namespace Go.Sl
open Go.RowKit
abbrev DR := Except Int (List (Int × Int) × Int)
/-- k values of a key. -/
def decV (b : List UInt8) (key : Int) : Nat → Option Int → Int → DR
  | 0, _, at' => .ok ([], at')
  | k + 1, prev, at' =>
    let r := ru b at'
    if ¬ r.2.2 = 0 then .error r.2.2 else
    match prev with
    | none => if (9223372036854775807 : Int) < r.1 then .error 52 else match decV b key k (some r.1) r.2.1 with
      | .error e => .error e
      | .ok (l, a) => .ok ((key, r.1) :: l, a)
    | some p => if r.1 = 0 ∨ (9223372036854775807 : Int) - p < r.1 then .error 52 else match decV b key k (some (p + r.1)) r.2.1 with
      | .error e => .error e
      | .ok (l, a) => .ok ((key, p + r.1) :: l, a)
/-- n keys. -/
def decK (b : List UInt8) : Nat → Int → Int → DR
  | 0, _, at' => .ok ([], at')
  | n + 1, key, at' =>
    let r := ru b at'
    if ¬ r.2.2 = 0 then .error r.2.2 else
    if r.1 = 0 ∨ (9223372036854775807 : Int) - key < r.1 then .error 50 else
    let m := ru b r.2.1
    if ¬ m.2.2 = 0 then .error m.2.2 else
    if m.1 = 0 then .error 51 else
    match decV b (key + r.1) m.1.toNat none m.2.1 with
    | .error e => .error e
    | .ok (l, a) => match decK b n (key + r.1) a with
      | .error e => .error e
      | .ok (l', a') => .ok (l ++ l', a')
def pre (acc : List (Int × Int)) : DR → DR
  | .error e => .error e
  | .ok (l, a) => .ok (acc ++ l, a)
def fin (b : List UInt8) : DR → Except Int (List (Int × Int))
  | .error e => .error e
  | .ok (l, a) => if a = b.length then .ok l else .error 53
def dec (b : List UInt8) : Except Int (List (Int × Int)) :=
  let r := ru b 0
  if ¬ r.2.2 = 0 then .error r.2.2 else fin b (decK b r.1.toNat 0 r.2.1)
/-- The rest of a key, and of the keys behind it. -/
def decR (b : List UInt8) (key : Int) (k : Nat) (prev : Option Int) (at' : Int) (n : Nat) : DR :=
  match decV b key k prev at' with
  | .error e => .error e
  | .ok (l, a) => pre l (decK b n key a)
theorem decK_succ (b : List UInt8) (n : Nat) (key at' : Int) : decK b (n + 1) key at' =
    (if ¬ (ru b at').2.2 = 0 then .error (ru b at').2.2 else if (ru b at').1 = 0 ∨ (9223372036854775807 : Int) - key < (ru b at').1 then .error 50 else
     if ¬ (ru b (ru b at').2.1).2.2 = 0 then .error (ru b (ru b at').2.1).2.2 else if (ru b (ru b at').2.1).1 = 0 then .error 51 else
     decR b (key + (ru b at').1) (ru b (ru b at').2.1).1.toNat none (ru b (ru b at').2.1).2.1 n) := by
  rw [decK]
  simp only []
  split
  · rfl
  split
  · rfl
  split
  · rfl
  split
  · rfl
  unfold decR pre
  cases decV b (key + (ru b at').1) (ru b (ru b at').2.1).1.toNat none (ru b (ru b at').2.1).2.1 with
  | error e => rfl
  | ok p => obtain ⟨l, a⟩ := p; cases h : decK b n (key + (ru b at').1) a <;> simp [h]
theorem decR_zero (b : List UInt8) (key : Int) (prev : Option Int) (at' : Int) (n : Nat) : decR b key 0 prev at' n = decK b n key at' := by
  unfold decR; rw [decV]; simp only [pre]
  cases decK b n key at' with
  | error e => rfl
  | ok p => rfl
theorem decR_first (b : List UInt8) (key : Int) (k : Nat) (at' : Int) (n : Nat) : decR b key (k + 1) none at' n =
    (if ¬ (ru b at').2.2 = 0 then .error (ru b at').2.2 else if (9223372036854775807 : Int) < (ru b at').1 then .error 52 else pre [(key, (ru b at').1)] (decR b key k (some (ru b at').1) (ru b at').2.1 n)) := by
  unfold decR
  rw [decV]
  by_cases h1 : (ru b at').2.2 = 0
  · by_cases h2 : (9223372036854775807 : Int) < (ru b at').1
    · simp [h1, h2]
    · simp only [h1, h2, not_true, if_false]
      cases decV b key k (some (ru b at').1) (ru b at').2.1 with
      | error e => rfl
      | ok p => obtain ⟨l, a⟩ := p; cases h : decK b n key a <;> simp [pre, h]
  · simp [h1]
theorem decR_next (b : List UInt8) (key : Int) (k : Nat) (p at' : Int) (n : Nat) : decR b key (k + 1) (some p) at' n =
    (if ¬ (ru b at').2.2 = 0 then .error (ru b at').2.2 else if (ru b at').1 = 0 ∨ (9223372036854775807 : Int) - p < (ru b at').1 then .error 52 else pre [(key, p + (ru b at').1)] (decR b key k (some (p + (ru b at').1)) (ru b at').2.1 n)) := by
  unfold decR
  rw [decV]
  by_cases h1 : (ru b at').2.2 = 0
  · by_cases h2 : (ru b at').1 = 0 ∨ (9223372036854775807 : Int) - p < (ru b at').1
    · simp [h1, h2]
    · simp only [h1, h2, not_true, if_false]
      cases decV b key k (some (p + (ru b at').1)) (ru b at').2.1 with
      | error e => rfl
      | ok p => obtain ⟨l, a⟩ := p; cases h : decK b n key a <;> simp [pre, h]
  · simp [h1]
theorem pre_pre (a c : List (Int × Int)) (d : DR) : pre a (pre c d) = pre (a ++ c) d := by
  cases d with
  | error e => rfl
  | ok p => obtain ⟨l, x⟩ := p; simp [pre]
theorem pre_nil (d : DR) : pre [] d = d := by
  cases d with
  | error e => rfl
  | ok p => rfl
/- THE CODE's READER: at the place at', the error er. -/
def nextS (b : List UInt8) (at' er least most e : Int) : Int × Int × Int :=
  if ¬ er = 0 then (0, at', er) else
  let r := ru b at'
  if ¬ r.2.2 = 0 then (0, at', r.2.2) else if r.1 < least ∨ most < r.1 then (0, at', e) else (r.1, r.2.1, 0)
/- THE REFERENCE's. -/
def numS (b : List UInt8) (at' er : Int) : Int × Int × Int := if ¬ er = 0 then (0, at', er) else ru b at'
def aboveS (er before gap e : Int) : Int × Int := if ¬ er = 0 then (0, er) else if gap = 0 ∨ (9223372036854775807 : Int) - before < gap then (0, e) else (before + gap, 0)
section
variable {b : List UInt8} {at' er least most e : Int}
theorem nextS_1 (h : ¬ er = 0) : nextS b at' er least most e = (0, at', er) := by unfold nextS; rw [if_pos h]
theorem nextS_2 (h : er = 0) (h2 : ¬ (ru b at').2.2 = 0) : nextS b at' er least most e = (0, at', (ru b at').2.2) := by unfold nextS; rw [if_neg (by omega)]; simp only []; rw [if_pos h2]
theorem nextS_3 (h : er = 0) (h2 : (ru b at').2.2 = 0) (h3 : (ru b at').1 < least ∨ most < (ru b at').1) : nextS b at' er least most e = (0, at', e) := by unfold nextS; rw [if_neg (by omega)]; simp only []; rw [if_neg (by omega), if_pos h3]
theorem nextS_4 (h : er = 0) (h2 : (ru b at').2.2 = 0) (h3 : ¬ ((ru b at').1 < least ∨ most < (ru b at').1)) : nextS b at' er least most e = ((ru b at').1, (ru b at').2.1, 0) := by unfold nextS; rw [if_neg (by omega)]; simp only []; rw [if_neg (by omega), if_neg h3]
theorem numS_1 (h : ¬ er = 0) : numS b at' er = (0, at', er) := by unfold numS; rw [if_pos h]
theorem numS_2 (h : er = 0) : numS b at' er = ru b at' := by unfold numS; rw [if_neg (by omega)]
end
section
variable {er before gap e : Int}
theorem aboveS_1 (h : ¬ er = 0) : aboveS er before gap e = (0, er) := by unfold aboveS; rw [if_pos h]
theorem aboveS_2 (h : er = 0) (h2 : gap = 0 ∨ (9223372036854775807 : Int) - before < gap) : aboveS er before gap e = (0, e) := by unfold aboveS; rw [if_neg (by omega), if_pos h2]
theorem aboveS_3 (h : er = 0) (h2 : ¬ (gap = 0 ∨ (9223372036854775807 : Int) - before < gap)) : aboveS er before gap e = (before + gap, 0) := by unfold aboveS; rw [if_neg (by omega), if_neg h2]
end
section
variable {b : List UInt8} {at' least most e x y z : Int}
theorem nextS_inv (he : ¬ e = 0) (h : nextS b at' 0 least most e = (x, y, z)) :
    (¬ z = 0 ∧ x = 0 ∧ y = at' ∧ ((¬ (ru b at').2.2 = 0 ∧ (ru b at').2.2 = z) ∨ ((ru b at').2.2 = 0 ∧ ((ru b at').1 < least ∨ most < (ru b at').1) ∧ z = e))) ∨
    (z = 0 ∧ (ru b at').2.2 = 0 ∧ (ru b at').1 = x ∧ (ru b at').2.1 = y ∧ least ≤ x ∧ x ≤ most) := by
  by_cases h1 : (ru b at').2.2 = 0
  · by_cases h2 : (ru b at').1 < least ∨ most < (ru b at').1
    · rw [nextS_3 rfl h1 h2] at h
      cases h
      exact .inl ⟨he, rfl, rfl, .inr ⟨h1, h2, rfl⟩⟩
    · rw [nextS_4 rfl h1 h2] at h
      cases h
      exact .inr ⟨rfl, h1, rfl, rfl, by omega, by omega⟩
  · rw [nextS_2 rfl h1] at h
    cases h
    exact .inl ⟨h1, rfl, rfl, .inl ⟨h1, rfl⟩⟩
end
theorem fin_err (b : List UInt8) (l : List (Int × Int)) (e : Int) : fin b (pre l (.error e)) = .error e := rfl
section
variable {b : List UInt8} {key at' x y z : Int} {n : Nat} {l0 : List (Int × Int)}
theorem out_A (h : dec b = fin b (pre l0 (decK b (n + 1) key at'))) (hz : ¬ z = 0) (hx : nextS b at' 0 1 (9223372036854775807 - key) 50 = (x, y, z)) : dec b = .error z := by
  have h0 := (ru_ok b at').1
  rcases nextS_inv (by decide) hx with ⟨_, _, _, h1 | h1⟩ | h1
  · rw [h, decK_succ, if_pos h1.1, h1.2]; rfl
  · rw [h, decK_succ, if_neg (by omega), if_pos (by omega), h1.2.2]; rfl
  · exact (hz h1.1).elim
theorem out_C1 (h : dec b = fin b (pre l0 (decK b (n + 1) key at'))) (hx : nextS b at' 0 1 (9223372036854775807 - key) 50 = (x, y, 0)) (hz : ¬ (ru b y).2.2 = 0) : dec b = .error (ru b y).2.2 := by
  rcases nextS_inv (by decide) hx with h1 | ⟨_, h1, h2, h3, h4, h5⟩
  · exact (h1.1 rfl).elim
  · rw [h, decK_succ, if_neg (by omega), if_neg (by omega), h3, if_pos hz]; rfl
theorem out_C2 (h : dec b = fin b (pre l0 (decK b (n + 1) key at'))) (hx : nextS b at' 0 1 (9223372036854775807 - key) 50 = (x, y, 0)) (hz : (ru b y).2.2 = 0) (hc : (ru b y).1 = 0) : dec b = .error 51 := by
  rcases nextS_inv (by decide) hx with h1 | ⟨_, h1, h2, h3, h4, h5⟩
  · exact (h1.1 rfl).elim
  · rw [h, decK_succ, if_neg (by omega), if_neg (by omega), h3, if_neg (by omega), if_pos hc]; rfl
theorem out_C3 (h : dec b = fin b (pre l0 (decK b (n + 1) key at'))) (hx : nextS b at' 0 1 (9223372036854775807 - key) 50 = (x, y, 0)) (hz : (ru b y).2.2 = 0) (hc : ¬ (ru b y).1 = 0) :
    dec b = fin b (pre l0 (decR b (key + x) (((ru b y).1.toNat - 1) + 1) none (ru b y).2.1 n)) := by
  have h0 := (ru_ok b y).1
  rcases nextS_inv (by decide) hx with h1 | ⟨_, h1, h2, h3, h4, h5⟩
  · exact (h1.1 rfl).elim
  · rw [h, decK_succ, if_neg (by omega), if_neg (by omega), h3, if_neg (by omega), if_neg hc, h2, Nat.sub_add_cancel (by omega)]
theorem first_A {k : Nat} (h : dec b = fin b (pre l0 (decR b key (k + 1) none at' n))) (hz : ¬ z = 0) (hx : nextS b at' 0 0 9223372036854775807 52 = (x, y, z)) : dec b = .error z := by
  have h0 := (ru_ok b at').1
  rcases nextS_inv (by decide) hx with ⟨_, _, _, h1 | h1⟩ | h1
  · rw [h, decR_first, if_pos h1.1, h1.2]; rfl
  · rw [h, decR_first, if_neg (by omega), if_pos (by omega), h1.2.2]; rfl
  · exact (hz h1.1).elim
theorem first_C {k : Nat} (h : dec b = fin b (pre l0 (decR b key (k + 1) none at' n))) (hx : nextS b at' 0 0 9223372036854775807 52 = (x, y, 0)) : dec b = fin b (pre (l0 ++ [(key, x)]) (decR b key k (some x) y n)) := by
  rcases nextS_inv (by decide) hx with h1 | ⟨_, h1, h2, h3, h4, h5⟩
  · exact (h1.1 rfl).elim
  · rw [h, decR_first, if_neg (by omega), if_neg (by omega), pre_pre, h2, h3]
theorem in_A {k : Nat} {p : Int} (h : dec b = fin b (pre l0 (decR b key (k + 1) (some p) at' n))) (hz : ¬ z = 0) (hx : nextS b at' 0 1 (9223372036854775807 - p) 52 = (x, y, z)) : dec b = .error z := by
  have h0 := (ru_ok b at').1
  rcases nextS_inv (by decide) hx with ⟨_, _, _, h1 | h1⟩ | h1
  · rw [h, decR_next, if_pos h1.1, h1.2]; rfl
  · rw [h, decR_next, if_neg (by omega), if_pos (by omega), h1.2.2]; rfl
  · exact (hz h1.1).elim
theorem in_C {k : Nat} {p : Int} (h : dec b = fin b (pre l0 (decR b key (k + 1) (some p) at' n))) (hx : nextS b at' 0 1 (9223372036854775807 - p) 52 = (x, y, 0)) : dec b = fin b (pre (l0 ++ [(key, p + x)]) (decR b key k (some (p + x)) y n)) := by
  rcases nextS_inv (by decide) hx with h1 | ⟨_, h1, h2, h3, h4, h5⟩
  · exact (h1.1 rfl).elim
  · rw [h, decR_next, if_neg (by omega), if_neg (by omega), pre_pre, h2, h3]
end
end Go.Sl
