/- Plain: what the reader makes is well-formed, no larger than its text lets it be. -/
import Derived.Test.YtbmeafeojcgndaaDoorV36
set_option linter.unusedVariables false
set_option linter.unusedSimpArgs false
namespace Go.Proofs.YtbmeafeojcgndaaDoor
open Go Go.Sl Go.RowKit
set_option maxRecDepth 100000
theorem escM_lt {b : List UInt8} {p : Nat} {q : Nat × Nat} (h : escM b p = .ok q) : p < q.2 := by
  have hunit : ∀ (b : List UInt8) (fr k u p : Nat) (q : Nat × Nat), unitL b fr k u p = .ok q → p ≤ q.2 := by
    intro b fr k
    induction k with
    | zero => intro u p q h; cases h; exact Nat.le_refl _
    | succ k ih =>
      intro u p q h
      rw [unitL_succ] at h
      split at h
      · cases h
      · split at h
        · have := ih _ _ _ h; omega
        · cases h
  have hlit : ∀ (b : List UInt8) (fr : Nat) (l : List UInt8) (p q : Nat), litM b fr l p = .ok q → p ≤ q := by
    intro b fr l
    induction l with
    | nil => intro p q h; cases h; exact Nat.le_refl _
    | cons c l ih =>
      intro p q h
      rw [litM_cons] at h
      split at h
      · cases h
      · split at h
        · have := ih _ _ h; omega
        · cases h
  have hlow : ∀ (b : List UInt8) (fr u p : Nat) (q : Nat × Nat), lowM b fr u p = .ok q → p ≤ q.2 := by
    intro b fr u p q h
    unfold lowM at h
    split at h
    · cases h
    · rename_i q' hq
      split at h
      · cases h
      · injection h with h
        have h3 := hunit _ _ _ _ _ _ hq
        rw [← h]
        dsimp only
        exact h3
  have hunits : ∀ (b : List UInt8) (fr p : Nat) (q : Nat × Nat), unitsM b fr p = .ok q → p ≤ q.2 := by
    intro b fr p q h
    unfold unitsM at h
    split at h
    · cases h
    · rename_i q' hq
      have h1 := hunit _ _ _ _ _ _ hq
      split at h
      · cases h; exact h1
      · split at h
        · cases h
        · split at h
          · cases h
          · rename_i p2 hp2
            have h2 := hlit _ _ _ _ _ hp2
            have h3 := hlow _ _ _ _ _ h
            omega
  unfold escM at h
  split at h
  · cases h
  · unfold escC at h
    repeat' split at h
    all_goals first | (have := hunits _ _ _ _ h; omega) | (cases h; dsimp only; omega) | (cases h)
/-- What a text is no longer than, and where it ends. -/
theorem textL_len {b : List UInt8} : ∀ (f : Nat) (out : List UInt8) (p : Nat) (t : List UInt8 × Nat), textL b f out p = .ok t → p < t.2 ∧ t.2 ≤ b.length ∧ t.1.length + 4 * p ≤ out.length + 4 * t.2
  | 0, _, _, _, h => by cases h
  | f + 1, out, p, t, h => by
    rw [textL_succ] at h
    split at h
    · cases h
    · rename_i x hx
      obtain ⟨_, hpl⟩ := peek_some hx
      split at h
      · cases h; exact ⟨by dsimp only; omega, by dsimp only; omega, by dsimp only; omega⟩
      split at h
      · split at h
        · cases h
        · rename_i q hq
          have h1 := escM_lt hq
          have h2 := textL_len f _ _ _ h
          have h3 := utf8_len4 q.1
          rw [List.length_append] at h2
          omega
      split at h
      · cases h
      split at h
      · cases h
      · have hdl : (b.drop p).length = b.length - p := List.length_drop
        obtain ⟨hw1, hw2⟩ := dec_width (xs := b.drop p) (fun h => by rw [h] at hdl; simp at hdl; omega)
        have h2 := textL_len f _ _ _ h
        rw [List.length_append, List.length_take] at h2
        omega
theorem textM_len {b : List UInt8} {p : Nat} {t : List UInt8 × Nat} (h : textM b p = .ok t) : p + 1 < t.2 ∧ t.2 ≤ b.length ∧ t.1.length + 4 * p ≤ 4 * t.2 := by
  have := textL_len _ _ _ _ h
  simp at this
  omega
theorem quote_len (s : List UInt8) : (quoteB s).length ≤ 6 * s.length + 2 := by
  have := flat_len6 s
  unfold quoteB
  rw [List.length_cons, List.length_append, List.length_singleton]
  omega
theorem itoa_len {n : Int} (h0 : -9223372036854775808 ≤ n) (h1 : n ≤ 9223372036854775807) : (Lib.itoa n).length ≤ 21 := by
  unfold Lib.itoa
  split
  · rw [List.length_cons, Lib.decDigits_length]
    have := nDigits_le20 n.natAbs (by omega)
    omega
  · rw [Lib.decDigits_length]
    have := nDigits_le20 n.toNat (by omega)
    omega
theorem worth_range {all : List UInt8} {pw : Int} {mi : Bool} : -9223372036854775808 ≤ (worthP all pw mi).1 ∧ (worthP all pw mi).1 ≤ 9223372036854775807 := by
  unfold worthP worthN
  split
  · simp
  split
  · simp
  split
  · simp
  split
  · simp
  · rename_i h
    rw [not_or] at h
    split
    · dsimp only; omega
    · rename_i hm
      have : ¬ (nV (rz (lz all)) ((rz (lz all)).length + (pw + (((lz all).length : Int) - ((rz (lz all)).length : Int))).toNat) = 9223372036854775808) := fun e => h.2 ⟨e, by simpa using hm⟩
      dsimp only; omega
theorem numberM_ok {b : List UInt8} {p : Nat} {q : Int × Nat} (h : numberM b p = .ok q) : -9223372036854775808 ≤ q.1 ∧ q.1 ≤ 9223372036854775807 := by
  unfold numberM at h
  split at h
  · cases h
  unfold numB at h
  split at h
  · cases h
  unfold numC at h
  split at h
  · cases h
  unfold numD at h
  split at h
  · cases h; exact worth_range
  · cases h
/-- How much room the texts take, a comma behind each. -/
def sumL (ts : List (List UInt8)) : Nat := (ts.map fun t => t.length + 1).sum
theorem sumL_snoc (ts : List (List UInt8)) (t : List UInt8) : sumL (ts ++ [t]) = sumL ts + t.length + 1 := by simp [sumL]; omega
theorem joinC_sum : ∀ ts : List (List UInt8), (joinC ts).length ≤ sumL ts
  | [] => by simp [joinC]
  | [x] => by simp [joinC, sumL]
  | x :: y :: l => by
    have := joinC_sum (y :: l)
    rw [joinC_cons2, List.length_append, List.length_cons]
    simp only [sumL, List.map_cons, List.sum_cons] at this ⊢
    omega
theorem sumL_perm {a b : List (List UInt8)} (h : a.Perm b) : sumL a = sumL b := (h.map _).sum_nat
/-- What holds of a value that was read from p to q. -/
structure OkV (N : Nat) (j : J) (p q : Nat) : Prop where
  wf : WfJ j
  sm : SmJ N j
  lt : p < q
  len : (writeJ j).length + 64 * p ≤ 64 * q
theorem leaf_ok {N k : Nat} {i : Int} {t : List UInt8} {p q : Nat} (hk : k ≤ 3) (hi : k = 2 → -9223372036854775808 ≤ i ∧ i ≤ 9223372036854775807) (ht : t.length ≤ N) (hlt : p < q) (hl : (headB k i t [] []).length + 64 * p ≤ 64 * q) : OkV N (.mk k i t [] []) p q :=
  ⟨.mk ⟨by omega, by omega⟩ (fun h => hi (by omega)) (fun h => by omega) (by simp), .mk ht (by simp) (by simp) (by simp) (by simp), hlt, by rw [writeJ, writeJs]; exact hl⟩
section
variable {b : List UInt8} {N : Nat} {val : Nat → Mo (J × Nat)}
theorem items_ok (hN : b.length ≤ N) (hv : ∀ p x, p ≤ b.length → val p = .ok x → OkV N x.1 p x.2 ∧ x.2 ≤ b.length) : ∀ (f : Nat) (acc : List J) (p : Nat) (r : List J × Nat), itemsM val b f acc p = .ok r → p ≤ b.length → (∀ x ∈ acc, WfJ x ∧ SmJ N x) → acc.length ≤ p →
    (∀ x ∈ r.1, WfJ x ∧ SmJ N x) ∧ r.1.length ≤ N ∧ p < r.2 ∧ r.2 ≤ b.length ∧ sumL (writeJs r.1) + 64 * p ≤ sumL (writeJs acc) + 64 * r.2
  | 0, _, _, _, h, _, _, _ => by cases h
  | f + 1, acc, p, r, h, hp, ha, hl => by
    rw [itemsM_succ] at h
    split at h
    · cases h
    · rename_i x hx
      obtain ⟨h1, h2⟩ := hv p x hp hx
      have hlt := h1.lt
      have hlen := h1.len
      split at h
      · cases h
      · rename_i m hm
        obtain ⟨h3, h4⟩ := more_ok hm h2
        have ha2 : ∀ y ∈ acc ++ [x.1], WfJ y ∧ SmJ N y := fun y hy => by
          rcases List.mem_append.1 hy with hy | hy
          · exact ha y hy
          · rw [List.mem_singleton.1 hy]; exact ⟨h1.wf, h1.sm⟩
        have hsn : sumL (writeJs (acc ++ [x.1])) = sumL (writeJs acc) + (writeJ x.1).length + 1 := by
          rw [writeJs_eq, List.map_append, writeJs_eq]; exact sumL_snoc _ _
        have hal : (acc ++ [x.1]).length = acc.length + 1 := by simp
        split at h
        · have := items_ok hN hv f _ _ _ h h4 ha2 (by omega)
          refine ⟨this.1, this.2.1, by omega, this.2.2.2.1, ?_⟩
          have h5 := this.2.2.2.2
          omega
        · cases h
          refine ⟨ha2, by dsimp only; omega, by dsimp only; omega, h4, ?_⟩
          dsimp only
          omega
end
end Go.Proofs.YtbmeafeojcgndaaDoor

/- Plain: what Loose makes is well-formed, no larger than its text lets it be. -/
set_option linter.unusedVariables false
set_option linter.unusedSimpArgs false
namespace Go.Proofs.YtbmeafeojcgndaaDoor
open Go Go.Sl Go.RowKit
set_option maxRecDepth 100000
theorem zip_self {α β : Type} : ∀ l : List (α × β), (l.map (·.1)).zip (l.map (·.2)) = l
  | [] => rfl
  | x :: l => by simp [zip_self l]
theorem zip_snoc {α β : Type} (a : α) (b : β) : ∀ (l : List α) (m : List β), l.length = m.length → (l ++ [a]).zip (m ++ [b]) = l.zip m ++ [(a, b)]
  | [], [], _ => rfl
  | x :: l, y :: m, h => by
    have := zip_snoc a b l m (by simpa using h)
    simp [this]
  | [], _ :: _, h => by simp at h
  | _ :: _, [], h => by simp at h
theorem writeJs_len (xs : List J) : (writeJs xs).length = xs.length := by rw [writeJs_eq, List.length_map]
/-- The text of an object whose members were put in order. -/
theorem write_obj {ns : List (List UInt8)} {xs : List J} : writeJ (objJ ns xs) = 123 :: (joinC ((sortP (sortP (ns.zip (writeJs xs)))).map memB) ++ [125]) := by
  unfold objJ
  rw [writeJ]
  unfold headB
  rw [if_neg (by decide), if_neg (by decide), if_neg (by decide), if_neg (by decide), if_neg (by decide)]
  unfold objB
  have e : ((sortP (ns.zip xs)).map (·.1)).zip (writeJs ((sortP (ns.zip xs)).map (·.2))) = sortP (ns.zip (writeJs xs)) := by
    rw [writeJs_eq, writeJs_eq, List.map_map]
    have h1 := sortP_map writeJ (ns.zip xs)
    have h2 : (ns.zip xs).map (fun q => (q.1, writeJ q.2)) = ns.zip (xs.map writeJ) := by rw [List.zip_map_right]; rfl
    rw [h2] at h1
    rw [← h1]
    have h3 := zip_self ((sortP (ns.zip xs)).map fun q => (q.1, writeJ q.2))
    rw [List.map_map, List.map_map] at h3
    exact h3
  rw [e]
section
variable {b : List UInt8} {N : Nat} {val : Nat → Mo (J × Nat)}
def memS (ns : List (List UInt8)) (xs : List J) : Nat := sumL ((ns.zip (writeJs xs)).map memB)
theorem members_ok (hN : 4 * b.length ≤ N) (hv : ∀ p x, p ≤ b.length → val p = .ok x → OkV N x.1 p x.2 ∧ x.2 ≤ b.length) : ∀ (f : Nat) (ns : List (List UInt8)) (xs : List J) (p : Nat) (r : (List (List UInt8) × List J) × Nat), membersM val b f ns xs p = .ok r → p ≤ b.length → ns.length = xs.length → ns.Nodup → (∀ n ∈ ns, n.length ≤ N) → (∀ x ∈ xs, WfJ x ∧ SmJ N x) → xs.length ≤ p →
    (r.1.1.length = r.1.2.length ∧ r.1.1.Nodup ∧ (∀ n ∈ r.1.1, n.length ≤ N) ∧ (∀ x ∈ r.1.2, WfJ x ∧ SmJ N x) ∧ r.1.2.length ≤ N) ∧ p < r.2 ∧ r.2 ≤ b.length ∧ memS r.1.1 r.1.2 + 64 * p ≤ memS ns xs + 64 * r.2
  | 0, _, _, _, _, h, _, _, _, _, _, _ => by cases h
  | f + 1, ns, xs, p, r, h, hp, hl, hd, hn, ha, hxl => by
    rw [membersM_succ] at h
    split at h
    · cases h
    split at h
    · cases h
    split at h
    · cases h
    rename_i t ht
    obtain ⟨ht1, ht2, ht3⟩ := textM_len ht
    split at h
    · cases h
    rename_i hin
    have hb1 := blanks_le ht2
    split at h
    · cases h
    rename_i c2 hc2
    have hc3 := (peek_some hc2).2
    split at h
    · cases h
    have hb2 := blanks_le (b := b) (p := blanksM b t.2 + 1) (by omega)
    split at h
    · cases h
    rename_i x hx
    obtain ⟨h1, h2⟩ := hv _ x hb2.2 hx
    have hlt := h1.lt
    have hlen := h1.len
    split at h
    · cases h
    rename_i m hm
    obtain ⟨h3, h4⟩ := more_ok hm h2
    have ha2 : ∀ y ∈ xs ++ [x.1], WfJ y ∧ SmJ N y := fun y hy => by
      rcases List.mem_append.1 hy with hy | hy
      · exact ha y hy
      · rw [List.mem_singleton.1 hy]; exact ⟨h1.wf, h1.sm⟩
    have hn2 : ∀ y ∈ ns ++ [t.1], y.length ≤ N := fun y hy => by
      rcases List.mem_append.1 hy with hy | hy
      · exact hn y hy
      · rw [List.mem_singleton.1 hy]; omega
    have hd2 : (ns ++ [t.1]).Nodup := by
      refine List.nodup_append.2 ⟨hd, by simp, fun a ha b' hb' e => ?_⟩
      rw [List.mem_singleton.1 hb'] at e
      exact hin (e ▸ ha)
    have hq := quote_len t.1
    have hms : memS (ns ++ [t.1]) (xs ++ [x.1]) = memS ns xs + ((quoteB t.1).length + ((writeJ x.1).length + 1)) + 1 := by
      unfold memS
      have e : writeJs (xs ++ [x.1]) = writeJs xs ++ [writeJ x.1] := by rw [writeJs_eq, writeJs_eq, List.map_append]; rfl
      rw [e, zip_snoc _ _ _ _ (by rw [writeJs_len]; exact hl), List.map_append]
      rw [show [(t.1, writeJ x.1)].map memB = [memB (t.1, writeJ x.1)] from rfl, sumL_snoc]
      unfold memB
      rw [List.length_append, List.length_cons]
    have hal : (xs ++ [x.1]).length = xs.length + 1 := by simp
    have hal2 : (ns ++ [t.1]).length = ns.length + 1 := by simp
    split at h
    · have := members_ok hN hv f _ _ _ _ h h4 (by omega) hd2 hn2 ha2 (by omega)
      refine ⟨this.1, by omega, this.2.2.1, ?_⟩
      have h5 := this.2.2.2
      omega
    · cases h
      refine ⟨⟨by dsimp only; omega, hd2, hn2, ha2, by dsimp only; omega⟩, by dsimp only; omega, h4, ?_⟩
      dsimp only
      omega
end
theorem wordM_le {b : List UInt8} : ∀ (t : List UInt8) (p q : Nat), p ≤ b.length → wordM b t p = .ok q → q ≤ b.length
  | [], p, q, hp, h => by cases h; exact hp
  | c :: t, p, q, hp, h => by
    rw [wordM_cons] at h
    split at h
    · cases h
    · rename_i y hy
      have := (peek_some hy).2
      split at h
      · exact wordM_le t _ _ (by omega) h
      · cases h
theorem numberM_le {b : List UInt8} {p : Nat} {q : Int × Nat} (h : numberM b p = .ok q) : p < q.2 ∧ q.2 ≤ b.length := by
  unfold numberM at h
  split at h
  · cases h
  rename_i q1 hq1
  have h1 := intM_ok hq1
  unfold numB at h
  split at h
  · cases h
  rename_i q2 hq2
  have h2 := fracM_ok h1.2.1 hq2
  unfold numC at h
  split at h
  · cases h
  rename_i q3 hq3
  have h3 : q2.2 ≤ q3.2 ∧ q3.2 ≤ b.length := by
    unfold expM at hq3
    split at hq3
    · rename_i hz
      have hlt : q2.2 < b.length := by
        rcases Nat.lt_or_ge q2.2 b.length with h | h
        · exact h
        · rw [List.getElem?_eq_none h] at hz; simp at hz
      unfold exponentM at hq3
      split at hq3
      · cases hq3
      · rename_i q4 hq4
        have h4 := runM_ok hq4
        cases hq3
        dsimp only
        split at h4 <;> omega
    · cases hq3; dsimp only; omega
  unfold numD at h
  split at h
  · cases h
    dsimp only
    split at h1 <;> omega
  · cases h
theorem list_ok {b : List UInt8} {N d p : Nat} {val : Nat → Mo (J × Nat)} {x : J × Nat} (hN : 4 * b.length ≤ N) (hv : ∀ p x, p ≤ b.length → val p = .ok x → OkV N x.1 p x.2 ∧ x.2 ≤ b.length) (hp : p < b.length) (h : listM val b p d = .ok x) : OkV N x.1 p x.2 ∧ x.2 ≤ b.length := by
  unfold listM at h
  split at h
  · cases h
  rename_i q0 hq0
  obtain ⟨e1, e2, _⟩ := enter_ok hq0 hp
  split at h
  · cases h
  rename_i c hc
  have hcl := (peek_some hc).2
  have hk4 : ∀ ts : List (List UInt8), headB 4 0 [] [] ts = listB ts := fun ts => by
    unfold headB; rw [if_neg (by decide), if_neg (by decide), if_neg (by decide), if_neg (by decide), if_pos rfl]
  split at h
  · cases h
    refine ⟨⟨.mk ⟨by decide, by decide⟩ (fun h => absurd h (by decide)) (fun h => absurd h (by decide)) (by simp), .mk (by simp) (by simp) (by simp) (by simp) (by simp), by dsimp only; omega, ?_⟩, by dsimp only; omega⟩
    dsimp only
    rw [writeJ, hk4, writeJs]
    simp [listB, joinC]
    omega
  · split at h
    · cases h
    rename_i r hr
    obtain ⟨i1, i2, i3, i4, i5⟩ := items_ok (by omega) hv _ _ _ _ hr e2 (by simp) (by simp)
    cases h
    refine ⟨⟨.mk ⟨by decide, by decide⟩ (fun h => absurd h (by decide)) (fun h => absurd h (by decide)) (fun x hx => (i1 x hx).1), .mk (by simp) (by simp) (by simp) i2 (fun x hx => (i1 x hx).2), by dsimp only; omega, ?_⟩, i4⟩
    dsimp only
    rw [writeJ, hk4]
    have hj := joinC_sum (writeJs r.1)
    unfold listB
    rw [List.length_cons, List.length_append, List.length_singleton]
    have hz : sumL (writeJs []) = 0 := by simp [writeJs, sumL]
    omega
theorem object_ok {b : List UInt8} {N d p : Nat} {val : Nat → Mo (J × Nat)} {x : J × Nat} (hN : 4 * b.length ≤ N) (hv : ∀ p x, p ≤ b.length → val p = .ok x → OkV N x.1 p x.2 ∧ x.2 ≤ b.length) (hp : p < b.length) (h : objectM val b p d = .ok x) : OkV N x.1 p x.2 ∧ x.2 ≤ b.length := by
  unfold objectM at h
  split at h
  · cases h
  rename_i q0 hq0
  obtain ⟨e1, e2, _⟩ := enter_ok hq0 hp
  split at h
  · cases h
  rename_i c hc
  have hcl := (peek_some hc).2
  split at h
  · cases h
    have e0 : J.mk 5 0 [] [] [] = objJ [] [] := rfl
    refine ⟨⟨.mk ⟨by decide, by decide⟩ (fun h => absurd h (by decide)) (fun _ => ⟨rfl, List.nodup_nil⟩) (by simp), .mk (by simp) (by simp) (by simp) (by simp) (by simp), by dsimp only; omega, ?_⟩, by dsimp only; omega⟩
    dsimp only
    rw [e0, write_obj]
    simp [writeJs, sortP, joinC]
    omega
  · split at h
    · cases h
    rename_i r hr
    obtain ⟨⟨i1, i2, i3, i4, i5⟩, i6, i7, i8⟩ := members_ok hN hv _ _ _ _ _ hr e2 rfl List.nodup_nil (by simp) (by simp) (by simp)
    cases h
    have hp1 := sortP_perm (r.1.1.zip r.1.2)
    have hz1 : (r.1.1.zip r.1.2).map (·.1) = r.1.1 := List.map_fst_zip (by omega)
    have hz2 : (r.1.1.zip r.1.2).map (·.2) = r.1.2 := List.map_snd_zip (by omega)
    have hn1 := hp1.map (·.1)
    have hn2 := hp1.map (·.2)
    rw [hz1] at hn1
    rw [hz2] at hn2
    refine ⟨⟨.mk ⟨by decide, by decide⟩ (fun h => absurd h (by decide)) (fun _ => ⟨by simp, hn1.nodup_iff.2 i2⟩) (fun x hx => (i4 x (hn2.mem_iff.1 hx)).1), .mk (by simp) (fun n hn => i3 n (hn1.mem_iff.1 hn)) (by rw [hn1.length_eq]; omega) (by rw [hn2.length_eq]; omega) (fun x hx => (i4 x (hn2.mem_iff.1 hx)).2), by dsimp only; omega, ?_⟩, i7⟩
    dsimp only
    rw [write_obj]
    have hj := joinC_sum ((sortP (sortP (r.1.1.zip (writeJs r.1.2)))).map memB)
    have hs1 := sumL_perm (((sortP_perm (sortP (r.1.1.zip (writeJs r.1.2)))).trans (sortP_perm _)).map memB)
    rw [List.length_cons, List.length_append, List.length_singleton]
    have hz : memS [] [] = 0 := by simp [memS, sumL]
    unfold memS at i8 hz
    omega
theorem value_ok {b : List UInt8} {N : Nat} (hN : 4 * b.length ≤ N) : ∀ (k p : Nat) (x : J × Nat), p ≤ b.length → valueM b k p = .ok x → OkV N x.1 p x.2 ∧ x.2 ≤ b.length
  | 0, _, _, _, h => by cases h
  | k + 1, p, x, hp, h => by
    rw [valueM_succ] at h
    split at h
    · cases h
    rename_i c hc
    have hpl := (peek_some hc).2
    unfold headM at h
    split at h
    · split at h
      · cases h
      · rename_i q hq
        cases h
        have hq2 := wordM_ok hq
        have h4 : nullB.length = 4 := rfl
        exact ⟨leaf_ok (k := 0) (by decide) (by decide) (by simp) (by dsimp only; omega) (by simp [headB, nullB]; omega), wordM_le _ _ _ hp hq⟩
    split at h
    · split at h
      · cases h
      · rename_i q hq
        cases h
        have hq2 := wordM_ok hq
        have h4 : (boolB false).length = 5 := rfl
        exact ⟨leaf_ok (k := 1) (by decide) (by decide) (by simp) (by dsimp only; omega) (by simp [headB, boolB]; omega), wordM_le _ _ _ hp hq⟩
    split at h
    · split at h
      · cases h
      · rename_i q hq
        cases h
        have hq2 := wordM_ok hq
        have h4 : (boolB true).length = 4 := rfl
        exact ⟨leaf_ok (k := 1) (by decide) (by decide) (by simp) (by dsimp only; omega) (by simp [headB, boolB]; omega), wordM_le _ _ _ hp hq⟩
    split at h
    · split at h
      · cases h
      · rename_i t ht
        cases h
        obtain ⟨t1, t2, t3⟩ := textM_len ht
        have hq := quote_len t.1
        exact ⟨leaf_ok (k := 3) (by decide) (fun h => absurd h (by decide)) (by omega) (by dsimp only; omega) (by simp [headB]; omega), t2⟩
    split at h
    · exact list_ok hN (value_ok hN k) hpl h
    split at h
    · exact object_ok hN (value_ok hN k) hpl h
    split at h
    · split at h
      · cases h
      · rename_i n hn
        cases h
        have hr := numberM_ok hn
        have hl := numberM_le hn
        have hi := itoa_len hr.1 hr.2
        exact ⟨leaf_ok (k := 2) (by decide) (fun _ => hr) (by simp) (by dsimp only; omega) (by simp [headB]; omega), hl.2⟩
    · cases h
theorem loose_ok {b : List UInt8} {j : J} (h : looseM b = .ok j) : b.length ≤ 16777216 ∧ WfJ j ∧ SmJ 1099511627776 j ∧ (writeJ j).length ≤ 1099511627776 := by
  unfold looseM at h
  split at h
  · cases h
  rename_i hb
  split at h
  · cases h
  rename_i q hq
  split at h
  · cases h
  cases h
  have hbl := blanks_le (b := b) (p := 0) (Nat.zero_le _)
  obtain ⟨h1, h2⟩ := value_ok (N := 1099511627776) (by omega) _ _ _ hbl.2 hq
  have := h1.len
  exact ⟨by omega, h1.wf, h1.sm, by omega⟩
end Go.Proofs.YtbmeafeojcgndaaDoor
