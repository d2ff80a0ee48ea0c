/- Plain: UTF-8, sequence by sequence. -/
import Derived.Test.YtbmeafeojcgndaaDoorV31
import Derived.Test.YtbmeafeojcgndaaDoorV37
set_option linter.unusedVariables false
set_option linter.unusedSimpArgs false
namespace Go.Proofs.YtbmeafeojcgndaaDoor
open Go Go.Sl Go.RowKit
set_option maxRecDepth 100000
def nA (l : List UInt8) (k : Nat) : Nat := (l.getD k 0).toNat
def cA (l : List UInt8) (k : Nat) : Bool := decide (k < l.length) && nA l k / 64 == 2
theorem decN_eq (l : List UInt8) (h : l ≠ []) : decN l =
    if nA l 0 < 128 then (nA l 0, 1)
    else if nA l 0 / 32 == 6 && cA l 1 then (if nA l 0 % 32 * 64 + nA l 1 % 64 ≥ 128 then (nA l 0 % 32 * 64 + nA l 1 % 64, 2) else (65533, 1))
    else if nA l 0 / 16 == 14 && cA l 1 && cA l 2 then (if nA l 0 % 16 * 4096 + nA l 1 % 64 * 64 + nA l 2 % 64 ≥ 2048 && Utf8.valid ((nA l 0 % 16 * 4096 + nA l 1 % 64 * 64 + nA l 2 % 64 : Nat) : Int) then (nA l 0 % 16 * 4096 + nA l 1 % 64 * 64 + nA l 2 % 64, 3) else (65533, 1))
    else if nA l 0 / 8 == 30 && cA l 1 && cA l 2 && cA l 3 then (if nA l 0 % 8 * 262144 + nA l 1 % 64 * 4096 + nA l 2 % 64 * 64 + nA l 3 % 64 ≥ 65536 && Utf8.valid ((nA l 0 % 8 * 262144 + nA l 1 % 64 * 4096 + nA l 2 % 64 * 64 + nA l 3 % 64 : Nat) : Int) then (nA l 0 % 8 * 262144 + nA l 1 % 64 * 4096 + nA l 2 % 64 * 64 + nA l 3 % 64, 4) else (65533, 1))
    else (65533, 1) := by
  have hsz : (ByteArray.mk l.toArray).size = l.length := rfl
  have hl := List.length_pos_iff.2 h
  have hg : ∀ k, ((ByteArray.mk l.toArray).get! k).toNat = nA l k := fun k => by
    show ((l.toArray)[k]!).toNat = _
    rw [List.getElem!_toArray, List.getElem!_eq_getElem?_getD]
    rfl
  unfold decN Lib.decodeGo
  rw [if_neg (by rw [hsz]; omega)]
  unfold Utf8.decode
  simp only [Nat.zero_add, hg, hsz, cA, Utf8.runeError]
  rfl
theorem two_of {l : List UInt8} (h : 2 < l.length + 1) : ∃ b c l', l = b :: c :: l' := by
  cases l with
  | nil => simp at h
  | cons b l => cases l with
    | nil => simp at h
    | cons c l => exact ⟨b, c, l, rfl⟩
theorem three_of {l : List UInt8} (h : 3 < l.length + 1) : ∃ b c d l', l = b :: c :: d :: l' := by
  obtain ⟨b, c, l, rfl⟩ := two_of (l := l) (by omega)
  cases l with
  | nil => simp at h
  | cons d l => exact ⟨b, c, d, l, rfl⟩
theorem valid_ok {n : Nat} : Utf8.valid (n : Int) = true ↔ okR n := by
  unfold Utf8.valid okR
  simp only [Bool.or_eq_true, Bool.and_eq_true, decide_eq_true_eq]
  omega
theorem u8_of {a : UInt8} {n : Nat} (h : n = a.toNat) : UInt8.ofNat n = a := by subst h; exact UInt8.ofNat_toNat
set_option maxHeartbeats 4000000 in
/-- A sequence that is read is that of its code point. -/
theorem dec_back {l : List UInt8} (h : l ≠ []) (hv : ¬ ((decN l).1 = 65533 ∧ (decN l).2 = 1)) : okR (decN l).1 ∧ l = utf8 (decN l).1 ++ l.drop (decN l).2 ∧ (utf8 (decN l).1).length = (decN l).2 := by
  rw [decN_eq l h] at hv ⊢
  match l, h with
  | a :: l, _ =>
  have h0 : nA (a :: l) 0 = a.toNat := rfl
  have ha := UInt8.toNat_lt a
  rw [h0] at hv ⊢
  split at hv
  · rename_i h1
    rw [if_pos h1]
    refine ⟨⟨by dsimp only; omega, by dsimp only; omega⟩, ?_, ?_⟩
    · unfold utf8; dsimp only; rw [if_pos h1, u8_of rfl]; rfl
    · unfold utf8; dsimp only; rw [if_pos h1]; rfl
  rename_i h1
  rw [if_neg h1]
  split at hv
  · rename_i h2
    rw [if_pos h2]
    simp only [Bool.and_eq_true, beq_iff_eq, cA, decide_eq_true_eq] at h2
    obtain ⟨h2, h3, h4⟩ := h2
    split at hv
    · rename_i h5
      rw [if_pos h5]
      match l, h3 with
      | b :: l, _ =>
      have e1 : nA (a :: b :: l) 1 = b.toNat := rfl
      have hb := UInt8.toNat_lt b
      rw [e1] at h4 h5 ⊢
      obtain ⟨c, hc⟩ : ∃ c, a.toNat % 32 * 64 + b.toNat % 64 = c := ⟨_, rfl⟩
      rw [hc] at h5 ⊢
      refine ⟨⟨by dsimp only; omega, by dsimp only; omega⟩, ?_, ?_⟩
      · unfold utf8; dsimp only; rw [if_neg (by omega), if_pos (by omega), u8_of (a := a) (by omega), u8_of (a := b) (by omega)]; rfl
      · unfold utf8; dsimp only; rw [if_neg (by omega), if_pos (by omega)]; rfl
    · exact absurd ⟨rfl, rfl⟩ hv
  rename_i h2
  rw [if_neg h2]
  split at hv
  · rename_i h2
    rw [if_pos h2]
    simp only [Bool.and_eq_true, beq_iff_eq, cA, decide_eq_true_eq] at h2
    obtain ⟨⟨h2, h3, h4⟩, h3', h4'⟩ := h2
    split at hv
    · rename_i h5
      rw [if_pos h5]
      simp only [Bool.and_eq_true, decide_eq_true_eq] at h5
      obtain ⟨h5, h6⟩ := h5
      obtain ⟨b, c, l, rfl⟩ := two_of (l := l) h3'
      have e1 : nA (a :: b :: c :: l) 1 = b.toNat := rfl
      have e2 : nA (a :: b :: c :: l) 2 = c.toNat := rfl
      have hb := UInt8.toNat_lt b
      have hcc := UInt8.toNat_lt c
      rw [e1] at h4 h5 h6
      rw [e2] at h4' h5 h6
      rw [e1, e2]
      obtain ⟨r, hr⟩ : ∃ r, a.toNat % 16 * 4096 + b.toNat % 64 * 64 + c.toNat % 64 = r := ⟨_, rfl⟩
      rw [hr] at h5 h6 ⊢
      have hok := valid_ok.1 h6
      refine ⟨hok, ?_, ?_⟩
      · unfold utf8; dsimp only; rw [if_neg (by omega), if_neg (by omega), if_pos (by omega), u8_of (a := a) (by omega), u8_of (a := b) (by omega), u8_of (a := c) (by omega)]; rfl
      · unfold utf8; dsimp only; rw [if_neg (by omega), if_neg (by omega), if_pos (by omega)]; rfl
    · exact absurd ⟨rfl, rfl⟩ hv
  rename_i h2
  rw [if_neg h2]
  split at hv
  · rename_i h2
    rw [if_pos h2]
    simp only [Bool.and_eq_true, beq_iff_eq, cA, decide_eq_true_eq] at h2
    obtain ⟨⟨⟨h2, h3, h4⟩, h3', h4'⟩, h3'', h4''⟩ := h2
    split at hv
    · rename_i h5
      rw [if_pos h5]
      simp only [Bool.and_eq_true, decide_eq_true_eq] at h5
      obtain ⟨h5, h6⟩ := h5
      obtain ⟨b, c, d, l, rfl⟩ := three_of (l := l) h3''
      have e1 : nA (a :: b :: c :: d :: l) 1 = b.toNat := rfl
      have e2 : nA (a :: b :: c :: d :: l) 2 = c.toNat := rfl
      have e3 : nA (a :: b :: c :: d :: l) 3 = d.toNat := rfl
      have hb := UInt8.toNat_lt b
      have hcc := UInt8.toNat_lt c
      have hdd := UInt8.toNat_lt d
      rw [e1] at h4 h5 h6
      rw [e2] at h4' h5 h6
      rw [e3] at h4'' h5 h6
      rw [e1, e2, e3]
      obtain ⟨r, hr⟩ : ∃ r, a.toNat % 8 * 262144 + b.toNat % 64 * 4096 + c.toNat % 64 * 64 + d.toNat % 64 = r := ⟨_, rfl⟩
      rw [hr] at h5 h6 ⊢
      have hok := valid_ok.1 h6
      refine ⟨hok, ?_, ?_⟩
      · unfold utf8; dsimp only; rw [if_neg (by omega), if_neg (by omega), if_neg (by omega), u8_of (a := a) (by omega), u8_of (a := b) (by omega), u8_of (a := c) (by omega), u8_of (a := d) (by omega)]; rfl
      · unfold utf8; dsimp only; rw [if_neg (by omega), if_neg (by omega), if_neg (by omega)]; rfl
    · exact absurd ⟨rfl, rfl⟩ hv
  · exact absurd ⟨rfl, rfl⟩ hv
set_option maxHeartbeats 4000000 in
/-- The sequence of a code point is read as that code point. -/
theorem dec_utf8 {r : Nat} (h : okR r) (s : List UInt8) : decN (utf8 r ++ s) = (r, (utf8 r).length) := by
  obtain ⟨h1, h2⟩ := h
  have hof : ∀ n, n < 256 → (UInt8.ofNat n).toNat = n := fun n hn => by rw [UInt8.toNat_ofNat']; exact Nat.mod_eq_of_lt hn
  unfold utf8
  split
  · rename_i h3
    rw [decN_eq _ (by simp)]
    have e0 : nA ([UInt8.ofNat r] ++ s) 0 = r := hof r (by omega)
    rw [e0, if_pos h3]; rfl
  split
  · rename_i h3 h4
    rw [decN_eq _ (by simp)]
    have e0 : nA ([UInt8.ofNat (192 + r / 64), UInt8.ofNat (128 + r % 64)] ++ s) 0 = 192 + r / 64 := hof _ (by omega)
    have e1 : nA ([UInt8.ofNat (192 + r / 64), UInt8.ofNat (128 + r % 64)] ++ s) 1 = 128 + r % 64 := hof _ (by omega)
    have c1 : cA ([UInt8.ofNat (192 + r / 64), UInt8.ofNat (128 + r % 64)] ++ s) 1 = true := by
      unfold cA; rw [e1]; simp; omega
    rw [e0, e1, c1, if_neg (by omega), if_pos (by simp; omega), if_pos (by omega)]
    show ((_ : Nat), 2) = (r, 2)
    congr 1; omega
  split
  · rename_i h3 h4 h5
    rw [decN_eq _ (by simp)]
    obtain ⟨L, hL⟩ : ∃ L, [UInt8.ofNat (224 + r / 4096), UInt8.ofNat (128 + r / 64 % 64), UInt8.ofNat (128 + r % 64)] ++ s = L := ⟨_, rfl⟩
    have e0 : nA L 0 = 224 + r / 4096 := by rw [← hL]; exact hof _ (by omega)
    have e1 : nA L 1 = 128 + r / 64 % 64 := by rw [← hL]; exact hof _ (by omega)
    have e2 : nA L 2 = 128 + r % 64 := by rw [← hL]; exact hof _ (by omega)
    have hlen : 3 ≤ L.length := by rw [← hL]; simp
    have c1 : cA L 1 = true := by unfold cA; rw [e1]; simp; omega
    have c2 : cA L 2 = true := by unfold cA; rw [e2]; simp; omega
    have hr : (224 + r / 4096) % 16 * 4096 + (128 + r / 64 % 64) % 64 * 64 + (128 + r % 64) % 64 = r := by omega
    rw [hL, e0, e1, e2, c1, c2, hr, if_neg (by omega), if_neg (by simp; omega), if_pos (by simp; omega), if_pos (by simp only [Bool.and_eq_true, decide_eq_true_eq]; exact ⟨by omega, valid_ok.2 ⟨h1, h2⟩⟩)]
    rfl
  · rename_i h3 h4 h5
    rw [decN_eq _ (by simp)]
    obtain ⟨L, hL⟩ : ∃ L, [UInt8.ofNat (240 + r / 262144), UInt8.ofNat (128 + r / 4096 % 64), UInt8.ofNat (128 + r / 64 % 64), UInt8.ofNat (128 + r % 64)] ++ s = L := ⟨_, rfl⟩
    have e0 : nA L 0 = 240 + r / 262144 := by rw [← hL]; exact hof _ (by omega)
    have e1 : nA L 1 = 128 + r / 4096 % 64 := by rw [← hL]; exact hof _ (by omega)
    have e2 : nA L 2 = 128 + r / 64 % 64 := by rw [← hL]; exact hof _ (by omega)
    have e3 : nA L 3 = 128 + r % 64 := by rw [← hL]; exact hof _ (by omega)
    have hlen : 4 ≤ L.length := by rw [← hL]; simp
    have c1 : cA L 1 = true := by unfold cA; rw [e1]; simp; omega
    have c2 : cA L 2 = true := by unfold cA; rw [e2]; simp; omega
    have c3 : cA L 3 = true := by unfold cA; rw [e3]; simp; omega
    have hr : (240 + r / 262144) % 8 * 262144 + (128 + r / 4096 % 64) % 64 * 4096 + (128 + r / 64 % 64) % 64 * 64 + (128 + r % 64) % 64 = r := by omega
    rw [hL, e0, e1, e2, e3, c1, c2, c3, hr, if_neg (by omega), if_neg (by simp; omega), if_neg (by simp; omega), if_pos (by simp; omega), if_pos (by simp only [Bool.and_eq_true, decide_eq_true_eq]; exact ⟨by omega, valid_ok.2 ⟨h1, h2⟩⟩)]
    rfl
end Go.Proofs.YtbmeafeojcgndaaDoor

/- Plain: what Loose reads is sound. -/
set_option linter.unusedVariables false
set_option linter.unusedSimpArgs false
namespace Go.Proofs.YtbmeafeojcgndaaDoor
open Go Go.Sl Go.RowKit
set_option maxRecDepth 100000
/-- UTF-8: code points one behind the other. -/
def Wh (s : List UInt8) : Prop := ∃ rs : List Nat, (∀ r ∈ rs, okR r) ∧ s = rs.flatMap utf8
theorem Wh.nil : Wh [] := ⟨[], by simp, rfl⟩
theorem Wh.snoc {s : List UInt8} {r : Nat} (h : Wh s) (hr : okR r) : Wh (s ++ utf8 r) := by
  obtain ⟨rs, h1, rfl⟩ := h
  refine ⟨rs ++ [r], ?_, by simp⟩
  intro x hx
  rcases List.mem_append.1 hx with hx | hx
  · exact h1 x hx
  · rw [List.mem_singleton.1 hx]; exact hr
theorem utf8_ne (r : Nat) : utf8 r ≠ [] := by unfold utf8; split; simp; split; simp; split <;> simp
theorem utf8_bad {r : Nat} : ¬ (r = 65533 ∧ (utf8 r).length = 1) := by
  rintro ⟨rfl, h⟩
  exact absurd h (by decide)
theorem wholeL_flat : ∀ (f : Nat) (rs : List Nat), (∀ r ∈ rs, okR r) → wholeL f (rs.flatMap utf8) = true
  | 0, _, _ => rfl
  | f + 1, [], _ => rfl
  | f + 1, r :: rs, h => by
    have hd := dec_utf8 (h r (by simp)) (rs.flatMap utf8)
    rw [wholeL_succ, List.flatMap_cons, if_neg (by simp [utf8_ne r]), hd, if_neg (by exact utf8_bad), List.drop_left]
    exact wholeL_flat f rs fun x hx => h x (List.mem_cons_of_mem _ hx)
theorem whole_wh {s : List UInt8} (h : Wh s) : wholeB s = true := by
  obtain ⟨rs, h1, rfl⟩ := h
  exact wholeL_flat _ rs h1
theorem unitL_lt {b : List UInt8} {fr : Nat} : ∀ (k u p : Nat) (q : Nat × Nat), unitL b fr k u p = .ok q → q.1 < (u + 1) * 16 ^ k
  | 0, u, p, q, h => by cases h; simp
  | k + 1, u, p, q, h => by
    rw [unitL_succ] at h
    split at h
    · cases h
    split at h
    · rename_i x hx
      have h1 := unitL_lt k _ _ _ h
      have h2 : x < 16 := by
        unfold hexV at hx
        split at hx
        · cases hx; omega
        split at hx
        · cases hx; omega
        split at hx
        · cases hx; omega
        · cases hx
      refine Nat.lt_of_lt_of_le h1 ?_
      rw [Nat.pow_succ, ← Nat.mul_assoc, Nat.mul_right_comm]
      exact Nat.mul_le_mul_right _ (by omega)
    · cases h
theorem unitM_lt {b : List UInt8} {fr p : Nat} {q : Nat × Nat} (h : unitM b fr p = .ok q) : q.1 < 65536 := unitL_lt 4 0 p q h
theorem unitsM_le2 {b : List UInt8} {fr p : Nat} {q : Nat × Nat} (h : unitsM b fr p = .ok q) : q.1 ≤ 1114111 := by
  unfold unitsM at h
  split at h
  · cases h
  rename_i q1 hq1
  have := unitM_lt hq1
  split at h
  · cases h; omega
  split at h
  · cases h
  split at h
  · cases h
  unfold lowM at h
  split at h
  · cases h
  rename_i q2 hq2
  split at h
  · cases h
  injection h with h
  rw [← h]
  dsimp only
  omega
theorem escM_okR {b : List UInt8} {p : Nat} {q : Nat × Nat} (h : escM b p = .ok q) : okR q.1 := by
  refine ⟨?_, escM_ok h⟩
  unfold escM at h
  split at h
  · cases h
  unfold escC at h
  split at h
  · injection h with h; rw [← h]; dsimp only; omega
  split at h
  · injection h with h; rw [← h]; dsimp only; omega
  split at h
  · injection h with h; rw [← h]; dsimp only; omega
  split at h
  · injection h with h; rw [← h]; dsimp only; omega
  split at h
  · injection h with h; rw [← h]; dsimp only; omega
  split at h
  · injection h with h; rw [← h]; dsimp only; omega
  split at h
  · exact unitsM_le2 h
  · cases h
theorem textL_wh {b : List UInt8} : ∀ (f : Nat) (out : List UInt8) (p : Nat) (t : List UInt8 × Nat), textL b f out p = .ok t → Wh out → Wh t.1
  | 0, _, _, _, h, _ => by cases h
  | f + 1, out, p, t, h, ho => by
    rw [textL_succ] at h
    split at h
    · cases h
    rename_i x hx
    have hpl := (peek_some hx).2
    split at h
    · cases h; exact ho
    split at h
    · split at h
      · cases h
      rename_i q hq
      exact textL_wh f _ _ _ h (ho.snoc (escM_okR hq))
    split at h
    · cases h
    split at h
    · cases h
    rename_i hv
    have hne : b.drop p ≠ [] := fun e => by have := congrArg List.length e; rw [List.length_drop] at this; simp at this; omega
    obtain ⟨k1, k2, k3⟩ := dec_back hne hv
    obtain ⟨D, hD⟩ : ∃ D, decN (b.drop p) = D := ⟨_, rfl⟩
    rw [hD] at h k1 k2 k3
    have ht : (b.drop p).take D.2 = utf8 D.1 := by
      rw [k2, ← k3, List.take_left]
    rw [ht] at h
    exact textL_wh f _ _ _ h (ho.snoc k1)
theorem textM_wh {b : List UInt8} {p : Nat} {t : List UInt8 × Nat} (h : textM b p = .ok t) : Wh t.1 := textL_wh _ _ _ _ h Wh.nil
/-- A value that may be written, k levels above the deepest: its objects in order. -/
inductive Cj : Nat → J → Prop where
  | null (k : Nat) : Cj k (.mk 0 0 [] [] [])
  | bool (k : Nat) (f : Bool) : Cj k (.mk 1 (f.toNat : Int) [] [] [])
  | int (k : Nat) (i : Int) (h0 : -9223372036854775808 ≤ i) (h1 : i ≤ 9223372036854775807) : Cj k (.mk 2 i [] [] [])
  | text (k : Nat) {t : List UInt8} (h : Wh t) : Cj k (.mk 3 0 t [] [])
  | list {k : Nat} {xs : List J} (h : ∀ x ∈ xs, Cj k x) : Cj (k + 1) (.mk 4 0 [] [] xs)
  | obj {k : Nat} {ns : List (List UInt8)} {xs : List J} (hl : ns.length = xs.length) (hd : ns.Nodup) (hw : ∀ n ∈ ns, Wh n) (hu : Up (ns.zip xs)) (h : ∀ x ∈ xs, Cj k x) : Cj (k + 1) (.mk 5 0 [] ns xs)
theorem items_cj {b : List UInt8} {k : Nat} {val : Nat → Mo (J × Nat)} (hv : ∀ p x, val p = .ok x → Cj k x.1) : ∀ (f : Nat) (acc : List J) (p : Nat) (r : List J × Nat), itemsM val b f acc p = .ok r → (∀ x ∈ acc, Cj k x) → ∀ x ∈ r.1, Cj k x
  | 0, _, _, _, h, _ => by cases h
  | f + 1, acc, p, r, h, ha => by
    rw [itemsM_succ] at h
    split at h
    · cases h
    rename_i x hx
    have ha2 : ∀ y ∈ acc ++ [x.1], Cj k y := fun y hy => by
      rcases List.mem_append.1 hy with hy | hy
      · exact ha y hy
      · rw [List.mem_singleton.1 hy]; exact hv _ _ hx
    split at h
    · cases h
    split at h
    · exact items_cj hv f _ _ _ h ha2
    · cases h; exact ha2
theorem members_cj {b : List UInt8} {k : Nat} {val : Nat → Mo (J × Nat)} (hv : ∀ p x, val p = .ok x → Cj k x.1) : ∀ (f : Nat) (ns : List (List UInt8)) (xs : List J) (p : Nat) (r : (List (List UInt8) × List J) × Nat), membersM val b f ns xs p = .ok r → (ns.length = xs.length ∧ ns.Nodup ∧ (∀ n ∈ ns, Wh n) ∧ ∀ x ∈ xs, Cj k x) → r.1.1.length = r.1.2.length ∧ r.1.1.Nodup ∧ (∀ n ∈ r.1.1, Wh n) ∧ ∀ x ∈ r.1.2, Cj k x
  | 0, _, _, _, _, h, _ => by cases h
  | f + 1, ns, xs, p, r, h, ⟨h1, h2, h3, h4⟩ => by
    rw [membersM_succ] at h
    split at h
    · cases h
    split at h
    · cases h
    split at h
    · cases h
    rename_i t ht
    split at h
    · cases h
    rename_i hin
    split at h
    · cases h
    split at h
    · cases h
    split at h
    · cases h
    rename_i x hx
    have hn : (ns ++ [t.1]).length = (xs ++ [x.1]).length ∧ (ns ++ [t.1]).Nodup ∧ (∀ n ∈ ns ++ [t.1], Wh n) ∧ ∀ y ∈ xs ++ [x.1], Cj k y := by
      refine ⟨by simp [h1], ?_, ?_, ?_⟩
      · refine List.nodup_append.2 ⟨h2, by simp, ?_⟩
        intro a ha b hb e
        rw [List.mem_singleton.1 hb] at e
        exact hin (e ▸ ha)
      · intro n hn
        rcases List.mem_append.1 hn with hn | hn
        · exact h3 n hn
        · rw [List.mem_singleton.1 hn]; exact textM_wh ht
      · intro y hy
        rcases List.mem_append.1 hy with hy | hy
        · exact h4 y hy
        · rw [List.mem_singleton.1 hy]; exact hv _ _ hx
    split at h
    · cases h
    split at h
    · exact members_cj hv f _ _ _ _ h hn
    · cases h; exact hn
theorem obj_cj {k : Nat} {ns : List (List UInt8)} {xs : List J} (hl : ns.length = xs.length) (hd : ns.Nodup) (hw : ∀ n ∈ ns, Wh n) (h : ∀ x ∈ xs, Cj k x) : Cj (k + 1) (objJ ns xs) := by
  have hp1 := sortP_perm (ns.zip xs)
  have hz1 : (ns.zip xs).map (·.1) = ns := List.map_fst_zip (by omega)
  have hz2 : (ns.zip xs).map (·.2) = xs := List.map_snd_zip (by omega)
  have hn1 := hp1.map (·.1)
  have hn2 := hp1.map (·.2)
  rw [hz1] at hn1
  rw [hz2] at hn2
  exact .obj (by simp) (hn1.nodup_iff.2 hd) (fun n hn => hw n (hn1.mem_iff.1 hn)) (by rw [zip_self]; exact sortP_up _) (fun x hx => h x (hn2.mem_iff.1 hx))
theorem value_cj {b : List UInt8} : ∀ (k p : Nat) (x : J × Nat), k ≤ 16 → valueM b (k + 1) p = .ok x → Cj k x.1
  | k, p, x, hk, h => by
    rw [valueM_succ] at h
    split at h
    · cases h
    unfold headM at h
    split at h
    · split at h
      · cases h
      · cases h; exact .null _
    split at h
    · split at h
      · cases h
      · cases h; exact .bool _ false
    split at h
    · split at h
      · cases h
      · cases h; exact .bool _ true
    split at h
    · split at h
      · cases h
      · rename_i t ht
        cases h; exact .text _ (textM_wh ht)
    split at h
    · unfold listM at h
      split at h
      · cases h
      rename_i q hq
      have hk0 : 0 < k := by
        unfold enterM at hq
        split at hq
        · omega
        · cases hq
      obtain ⟨k, rfl⟩ : ∃ k', k = k' + 1 := ⟨k - 1, by omega⟩
      split at h
      · cases h
      split at h
      · cases h; exact .list (by simp)
      split at h
      · cases h
      · rename_i r hr
        cases h; exact .list (items_cj (fun p x hx => value_cj k p x (by omega) hx) _ _ _ _ hr (by simp))
    split at h
    · unfold objectM at h
      split at h
      · cases h
      rename_i q hq
      have hk0 : 0 < k := by
        unfold enterM at hq
        split at hq
        · omega
        · cases hq
      obtain ⟨k, rfl⟩ : ∃ k', k = k' + 1 := ⟨k - 1, by omega⟩
      split at h
      · cases h
      split at h
      · cases h; exact .obj rfl List.nodup_nil (by simp) List.Pairwise.nil (by simp)
      split at h
      · cases h
      · rename_i r hr
        obtain ⟨h1, h2, h3, h4⟩ := members_cj (fun p x hx => value_cj k p x (by omega) hx) _ _ _ _ _ hr ⟨rfl, List.nodup_nil, by simp, by simp⟩
        cases h; exact obj_cj h1 h2 h3 h4
    split at h
    · split at h
      · cases h
      · rename_i n hn
        have hr := numberM_ok hn
        cases h; exact .int _ _ hr.1 hr.2
    · cases h
theorem loose_cj {b : List UInt8} {j : J} (h : looseM b = .ok j) : Cj 16 j := by
  unfold looseM at h
  split at h
  · cases h
  split at h
  · cases h
  rename_i q hq
  split at h
  · cases h
  cases h
  exact value_cj 16 _ _ (Nat.le_refl _) hq
theorem names_wh : ∀ (l seen : List (List UInt8)), (∀ n ∈ l, Wh n) → (seen ++ l).Nodup → namesL seen l = 0
  | [], _, _, _ => rfl
  | n :: l, seen, h, hd => by
    rw [namesL_cons, if_pos (whole_wh (h n (by simp))), if_neg (fun hin => ?_)]
    · exact names_wh l _ (fun m hm => h m (List.mem_cons_of_mem _ hm)) (by simpa using hd)
    · exact (List.nodup_append.1 hd).2.2 n hin n (by simp) rfl
theorem cj_sound {k : Nat} {j : J} (h : Cj k j) : ∀ d, d + k ≤ 16 → soundJ j d = 0 := by
  have hw0 : wholeB [] = true := rfl
  have hn0 : namesE [] = 0 := rfl
  have hsh : ∀ {k i : Int} {t : Prop} {a b : Nat}, ShP k i t a b → shB k i t a b = true := fun h => by unfold shB; simp [h]
  induction h with
  | null k => intro d hd; rw [soundJ, if_pos (hsh (by simp [ShP]))]; simp [hw0, hn0, soundJs]
  | bool k f => intro d hd; rw [soundJ, if_pos (hsh (by cases f <;> simp [ShP]))]; simp [hw0, hn0, soundJs]
  | int k i h0 h1 => intro d hd; rw [soundJ, if_pos (hsh (by simp [ShP]))]; simp [hw0, hn0, soundJs]
  | text k h => intro d hd; rw [soundJ, if_pos (hsh (by simp [ShP]))]; simp [whole_wh h, hn0, soundJs]
  | @list k xs h ih =>
    intro d hd
    rw [soundJ, if_pos (hsh (by simp [ShP]))]
    rw [if_neg (by omega), if_pos hw0, if_pos hn0, if_pos (by decide)]
    clear h
    induction xs with
    | nil => rfl
    | cons x xs ihx => rw [soundJs, if_pos (ih x (by simp) (d + 1) (by omega))]; exact ihx fun y hy => ih y (List.mem_cons_of_mem _ hy)
  | @obj k ns xs hl hd' hw hu h ih =>
    intro d hd
    rw [soundJ, if_pos (hsh (by simp [ShP, hl]))]
    rw [if_neg (by omega), if_pos hw0, if_pos (show namesE ns = 0 from names_wh ns [] hw (by simpa using hd')), if_pos (by decide)]
    clear h hl hu
    induction xs with
    | nil => rfl
    | cons x xs ihx => rw [soundJs, if_pos (ih x (by simp) (d + 1) (by omega))]; exact ihx fun y hy => ih y (List.mem_cons_of_mem _ hy)
theorem loose_sound {b : List UInt8} {j : J} (h : looseM b = .ok j) : soundJ j 0 = 0 := cj_sound (loose_cj h) 0 (by omega)
end Go.Proofs.YtbmeafeojcgndaaDoor
