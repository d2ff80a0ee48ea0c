/- Plain: what is written is read. -/
import Derived.Test.YtbmeafeojcgndaaDoorP11
set_option linter.unusedVariables false
set_option linter.unusedSimpArgs false
namespace Go.Proofs.YtbmeafeojcgndaaDoor
open Go Go.Sl Go.RowKit
set_option maxRecDepth 100000
/-- What may stand behind a value in a canonical text. -/
def Nx (s : List UInt8) : Prop := s = [] ∨ ∃ c t, s = c :: t ∧ (c = 44 ∨ c = 93 ∨ c = 125)
theorem Nx.non {s : List UInt8} (h : Nx s) : NoN s := by
  intro c t e
  rcases h with h | ⟨c', t', h, h2⟩
  · rw [h] at e; cases e
  · rw [h] at e; cases e
    rcases h2 with rfl | rfl | rfl <;> decide
theorem Nx.bl {s : List UInt8} (h : Nx s) {b : List UInt8} {p : Nat} (hd : b.drop p = s) : blanksM b p = p := by
  rcases h with rfl | ⟨c, t, rfl, h2⟩
  · exact at_blank_end hd
  · exact at_blank hd (by rcases h2 with rfl | rfl | rfl <;> decide)
theorem nx44 (s : List UInt8) : Nx (44 :: s) := .inr ⟨44, s, rfl, .inl rfl⟩
theorem nx93 (s : List UInt8) : Nx (93 :: s) := .inr ⟨93, s, rfl, .inr (.inl rfl)⟩
theorem nx125 (s : List UInt8) : Nx (125 :: s) := .inr ⟨125, s, rfl, .inr (.inr rfl)⟩
theorem itoa_head {n : Int} : ∃ c t, Lib.itoa n = c :: t ∧ (c.toNat = 45 ∨ 48 ≤ c.toNat ∧ c.toNat ≤ 57) := by
  unfold Lib.itoa
  split
  · exact ⟨45, _, rfl, .inl rfl⟩
  · obtain ⟨h1, h2, h3, h4⟩ := dec_digit n.toNat
    cases hh : Lib.decDigits n.toNat with
    | nil => exact absurd hh h4
    | cons c t =>
      have := h1 c (by rw [hh]; simp)
      unfold digit at this
      simp only [Bool.and_eq_true, decide_eq_true_eq] at this
      exact ⟨c, t, rfl, .inr this⟩
theorem blank_not {c : UInt8} (h : c.toNat ≠ 32) (h1 : c.toNat ≠ 9) (h2 : c.toNat ≠ 10) (h3 : c.toNat ≠ 13) : blank c = false := by
  have : blank c = true → c.toNat = 32 ∨ c.toNat = 9 ∨ c.toNat = 10 ∨ c.toNat = 13 := by
    unfold blank
    simp only [Bool.or_eq_true, beq_iff_eq, ← UInt8.toNat_inj]
    rintro (((h | h) | h) | h)
    · exact .inl h
    · exact .inr (.inl h)
    · exact .inr (.inr (.inl h))
    · exact .inr (.inr (.inr h))
  rw [Bool.eq_false_iff]
  intro hb
  have := this hb
  omega
theorem w_null : writeJ (.mk 0 0 [] [] []) = nullB := by rw [writeJ]; rfl
theorem w_bool (f : Bool) : writeJ (.mk 1 (f.toNat : Int) [] [] []) = boolB f := by rw [writeJ]; cases f <;> rfl
theorem w_int (i : Int) : writeJ (.mk 2 i [] [] []) = Lib.itoa i := by rw [writeJ]; rfl
theorem w_text (t : List UInt8) : writeJ (.mk 3 0 t [] []) = quoteB t := by rw [writeJ]; rfl
theorem w_list (xs : List J) : writeJ (.mk 4 0 [] [] xs) = 91 :: (joinC (xs.map writeJ) ++ [93]) := by rw [writeJ, writeJs_eq]; rfl
theorem w_obj {ns : List (List UInt8)} {xs : List J} (hl : ns.length = xs.length) (hd : ns.Nodup) (hu : Up (ns.zip xs)) : writeJ (.mk 5 0 [] ns xs) = 123 :: (joinC ((ns.zip xs).map fun q => memB (q.1, writeJ q.2)) ++ [125]) := by
  rw [writeJ, writeJs_eq]
  have h1 := sortP_map writeJ (ns.zip xs)
  have hz1 : (ns.zip xs).map (·.1) = ns := List.map_fst_zip (by omega)
  rw [sortP_of_up hu (by rw [hz1]; exact hd)] at h1
  have h2 : (ns.zip xs).map (fun q => (q.1, writeJ q.2)) = ns.zip (xs.map writeJ) := by rw [List.zip_map_right]; rfl
  have h3 : sortP (ns.zip (xs.map writeJ)) = (ns.zip xs).map (fun q => (q.1, writeJ q.2)) := by rw [← h2, ← h1]
  show objB ns (xs.map writeJ) = _
  unfold objB
  rw [h3, List.map_map]; rfl
/-- What a value's text begins with. -/
theorem head_at {k : Nat} {j : J} (h : Cj k j) : ∃ c t, writeJ j = c :: t ∧ blank c = false ∧ c.toNat ≠ 93 ∧ c.toNat ≠ 125 := by
  cases h with
  | null => exact ⟨110, _, by rw [w_null]; rfl, rfl, by decide, by decide⟩
  | bool k f => cases f
                · exact ⟨102, _, by rw [w_bool]; rfl, rfl, by decide, by decide⟩
                · exact ⟨116, _, by rw [w_bool]; rfl, rfl, by decide, by decide⟩
  | int k i h0 h1 =>
    obtain ⟨c, t, e, hc⟩ := itoa_head (n := i)
    exact ⟨c, t, by rw [w_int, e], blank_not (by omega) (by omega) (by omega) (by omega), by omega, by omega⟩
  | text k h => exact ⟨34, _, by rw [w_text]; rfl, rfl, by decide, by decide⟩
  | list h => exact ⟨91, _, by rw [w_list], rfl, by decide, by decide⟩
  | obj hl hd hw hu h => exact ⟨123, _, by rw [w_obj hl hd hu], rfl, by decide, by decide⟩
theorem joinC_len : ∀ ts : List (List UInt8), (∀ t ∈ ts, t ≠ []) → ts.length ≤ (joinC ts).length
  | [], _ => Nat.le_refl _
  | [x], h => by
    have := List.length_pos_iff.2 (h x (by simp))
    show 1 ≤ x.length
    omega
  | x :: y :: l, h => by
    have := joinC_len (y :: l) fun t ht => h t (List.mem_cons_of_mem _ ht)
    rw [joinC_cons2]
    simp only [List.length_append, List.length_cons] at this ⊢
    omega
theorem more_yes {b s : List UInt8} {p : Nat} {e c : UInt8} (h : b.drop p = 44 :: c :: s) (hc : blank c = false) : moreM b e p = .ok (true, p + 1) := by
  unfold moreM
  rw [at_blank h rfl, at_peek h]
  dsimp only
  rw [if_pos rfl, at_blank (at_one h) hc]
theorem more_no {b s : List UInt8} {p : Nat} {e : UInt8} (h : b.drop p = e :: s) (he : e = 93 ∨ e = 125) (hs : Nx s) : moreM b e p = .ok (false, p + 1) := by
  unfold moreM
  rw [at_blank h (by rcases he with rfl | rfl <;> rfl), at_peek h]
  dsimp only
  rw [if_neg (by rcases he with rfl | rfl <;> decide), if_pos rfl, hs.bl (at_one h)]
/-- Reading a value where it stands. -/
def ValAt (b : List UInt8) (val : Nat → Mo (J × Nat)) (j : J) : Prop := ∀ (p : Nat) (s : List UInt8), b.drop p = writeJ j ++ s → Nx s → val p = .ok (j, p + (writeJ j).length)
theorem items_at {b : List UInt8} {k : Nat} {val : Nat → Mo (J × Nat)} : ∀ (xs : List J) (x : J) (f : Nat) (acc : List J) (p : Nat) (s : List UInt8), (∀ y ∈ x :: xs, Cj k y ∧ ValAt b val y) → xs.length < f → b.drop p = joinC ((x :: xs).map writeJ) ++ 93 :: s → Nx s →
    itemsM val b f acc p = .ok (acc ++ x :: xs, p + (joinC ((x :: xs).map writeJ)).length + 1)
  | [], x, 0, _, _, _, _, hf, _, _ => by simp at hf
  | [], x, f + 1, acc, p, s, hv, _, h, hs => by
    have h2 : b.drop p = writeJ x ++ 93 :: s := h
    rw [itemsM_succ, (hv x (by simp)).2 p _ h2 (nx93 s)]
    dsimp only
    rw [more_no (at_next h2) (.inl rfl) hs]
    dsimp only
    rw [if_neg (by decide)]; rfl
  | y :: xs, x, 0, _, _, _, _, hf, _, _ => by simp at hf
  | y :: xs, x, f + 1, acc, p, s, hv, hf, h, hs => by
    have h2 : b.drop p = writeJ x ++ 44 :: (joinC ((y :: xs).map writeJ) ++ 93 :: s) := by
      rw [h]
      show (writeJ x ++ 44 :: joinC ((y :: xs).map writeJ)) ++ 93 :: s = _
      simp
    have h3 := at_next h2
    obtain ⟨c, t, hct, hcb, _, _⟩ := head_at (hv y (by simp)).1
    have h4 : ∃ t2, joinC ((y :: xs).map writeJ) ++ 93 :: s = c :: t2 := by
      cases xs with
      | nil => exact ⟨t ++ 93 :: s, by show writeJ y ++ 93 :: s = _; rw [hct]; rfl⟩
      | cons z xs => exact ⟨t ++ (44 :: joinC ((z :: xs).map writeJ) ++ 93 :: s), by show (writeJ y ++ 44 :: joinC ((z :: xs).map writeJ)) ++ 93 :: s = _; rw [hct]; simp⟩
    obtain ⟨t2, h4⟩ := h4
    rw [itemsM_succ, (hv x (by simp)).2 p _ h2 (nx44 _)]
    dsimp only
    rw [more_yes (c := c) (s := t2) (by rw [h3, h4]) hcb]
    dsimp only
    rw [if_pos rfl, items_at xs y f (acc ++ [x]) _ s (fun z hz => hv z (List.mem_cons_of_mem _ hz)) (by simpa using hf) (at_one h3) hs]
    have e : (joinC ((x :: y :: xs).map writeJ)).length = (writeJ x).length + 1 + (joinC ((y :: xs).map writeJ)).length := by
      show (writeJ x ++ 44 :: joinC ((y :: xs).map writeJ)).length = _
      rw [List.length_append, List.length_cons]; omega
    rw [e]
    simp [Nat.add_assoc]
theorem members_at {b : List UInt8} {k : Nat} {val : Nat → Mo (J × Nat)} : ∀ (l : List (List UInt8 × J)) (q : List UInt8 × J) (f : Nat) (ns : List (List UInt8)) (xs : List J) (p : Nat) (s : List UInt8), (∀ y ∈ q :: l, Wh y.1 ∧ Cj k y.2 ∧ ValAt b val y.2) → (ns ++ (q :: l).map (·.1)).Nodup → l.length < f → b.drop p = joinC ((q :: l).map fun q => memB (q.1, writeJ q.2)) ++ 125 :: s → Nx s →
    membersM val b f ns xs p = .ok ((ns ++ (q :: l).map (·.1), xs ++ (q :: l).map (·.2)), p + (joinC ((q :: l).map fun q => memB (q.1, writeJ q.2))).length + 1)
  | l, q, 0, _, _, _, _, _, _, hf, _, _ => by simp at hf
  | l, q, f + 1, ns, xs, p, s, hv, hd, hf, h, hs => by
    obtain ⟨hw, hcj, hva⟩ := hv q (by simp)
    have hnin : q.1 ∉ ns := fun hin => (List.nodup_append.1 hd).2.2 q.1 hin q.1 (by simp) rfl
    obtain ⟨c, t, hct, hcb, _, _⟩ := head_at hcj
    -- what stands behind this member
    obtain ⟨R, hR, hNx⟩ : ∃ R, b.drop p = quoteB q.1 ++ 58 :: (writeJ q.2 ++ R) ∧ Nx R ∧ (l = [] → R = 125 :: s) ∧ (∀ z l', l = z :: l' → R = 44 :: (joinC ((z :: l').map fun q => memB (q.1, writeJ q.2)) ++ 125 :: s)) := by
      cases l with
      | nil => exact ⟨125 :: s, by rw [h]; show (quoteB q.1 ++ 58 :: writeJ q.2) ++ 125 :: s = _; simp, nx125 s, (fun _ => rfl), (fun z l' e => nomatch e)⟩
      | cons z l => exact ⟨44 :: (joinC ((z :: l).map fun q => memB (q.1, writeJ q.2)) ++ 125 :: s), by rw [h]; show ((quoteB q.1 ++ 58 :: writeJ q.2) ++ 44 :: joinC ((z :: l).map fun q => memB (q.1, writeJ q.2))) ++ 125 :: s = _; simp, nx44 _, (fun e => nomatch e), (fun z' l' e => by injection e with e1 e2; subst e1; subst e2; rfl)⟩
    obtain ⟨hNx, hR1, hR2⟩ := hNx
    have hq0 : ∃ t0, quoteB q.1 ++ 58 :: (writeJ q.2 ++ R) = 34 :: t0 := ⟨_, rfl⟩
    obtain ⟨t0, hq0⟩ := hq0
    have h1 := at_next hR
    have h2 := at_one h1
    have h3 := at_next h2
    have hb2 : blanksM b (p + (quoteB q.1).length + 1) = p + (quoteB q.1).length + 1 := at_blank (c := c) (s := t ++ R) (by rw [h2, hct]; rfl) hcb
    rw [membersM_succ, at_peek (c := 34) (s := t0) (by rw [hR, hq0])]
    dsimp only
    rw [if_neg (by decide), text_at hw hR]
    dsimp only
    rw [if_neg hnin, at_blank h1 rfl, at_peek h1]
    dsimp only
    rw [if_neg (by decide), hb2, hva _ _ h2 hNx]
    dsimp only
    cases l with
    | nil =>
      rw [hR1 rfl] at h3
      rw [more_no h3 (.inr rfl) hs]
      dsimp only
      rw [if_neg (by decide)]
      have e : (joinC ([q].map fun q => memB (q.1, writeJ q.2))).length = (quoteB q.1).length + 1 + (writeJ q.2).length := by
        show (quoteB q.1 ++ 58 :: writeJ q.2).length = _
        rw [List.length_append, List.length_cons]; omega
      rw [e]
      simp [Nat.add_assoc]
    | cons z l =>
      rw [hR2 z l rfl] at h3
      have h5 : ∃ t2, joinC ((z :: l).map fun q => memB (q.1, writeJ q.2)) ++ 125 :: s = 34 :: t2 := by
        cases l with
        | nil => exact ⟨_, rfl⟩
        | cons y l => exact ⟨_, rfl⟩
      obtain ⟨t2, h5⟩ := h5
      rw [more_yes (c := 34) (s := t2) (by rw [h3, h5]) rfl]
      dsimp only
      rw [if_pos rfl, members_at l z f (ns ++ [q.1]) (xs ++ [q.2]) _ s (fun y hy => hv y (List.mem_cons_of_mem _ hy)) (by simpa using hd) (by simpa using hf) (at_one h3) hs]
      have e : (joinC ((q :: z :: l).map fun q => memB (q.1, writeJ q.2))).length = (quoteB q.1).length + 1 + (writeJ q.2).length + 1 + (joinC ((z :: l).map fun q => memB (q.1, writeJ q.2))).length := by
        show ((quoteB q.1 ++ 58 :: writeJ q.2) ++ 44 :: joinC ((z :: l).map fun q => memB (q.1, writeJ q.2))).length = _
        rw [List.length_append, List.length_append, List.length_cons, List.length_cons]; omega
      rw [e]
      simp [Nat.add_assoc]
end Go.Proofs.YtbmeafeojcgndaaDoor

/- Plain: what is written is read, whole. -/
set_option linter.unusedVariables false
set_option linter.unusedSimpArgs false
namespace Go.Proofs.YtbmeafeojcgndaaDoor
open Go Go.Sl Go.RowKit
set_option maxRecDepth 100000
theorem w_ne {k : Nat} {j : J} (h : Cj k j) : writeJ j ≠ [] := by
  obtain ⟨c, t, e, _⟩ := head_at h
  rw [e]; simp
theorem joinC_head {x : List UInt8} {l : List (List UInt8)} {c : UInt8} {t : List UInt8} (h : x = c :: t) : ∃ t2, joinC (x :: l) = c :: t2 := by
  cases l with
  | nil => exact ⟨t, h⟩
  | cons y l => exact ⟨t ++ 44 :: joinC (y :: l), by rw [joinC_cons2, h]; rfl⟩
theorem value_at {b : List UInt8} : ∀ (k : Nat) (j : J), k ≤ 16 → Cj k j → ValAt b (valueM b (k + 1)) j
  | k, j, hk, h => by
    intro p s hd hs
    obtain ⟨c, t, hct, hcb, h93, h125⟩ := head_at h
    have hd0 : b.drop p = c :: (t ++ s) := by rw [hd, hct]; rfl
    rw [valueM_succ, at_peek hd0]
    dsimp only
    unfold headM
    cases h with
    | null k =>
      rw [w_null] at hd hct ⊢
      cases hct
      rw [if_pos (by decide), word_at hd]
    | bool k f =>
      rw [w_bool] at hd hct ⊢
      cases f
      · cases hct
        rw [if_neg (by decide), if_pos (by decide), word_at hd]; rfl
      · cases hct
        rw [if_neg (by decide), if_neg (by decide), if_pos (by decide), word_at hd]; rfl
    | int k i h0 h1 =>
      rw [w_int] at hd hct ⊢
      obtain ⟨c', t', e, hc⟩ := itoa_head (n := i)
      rw [e] at hct
      cases hct
      rw [if_neg (by omega), if_neg (by omega), if_neg (by omega), if_neg (by omega), if_neg (by omega), if_neg (by omega), if_pos (by omega), num_at h0 h1 hd hs.non]
    | text k hw =>
      rw [w_text] at hd hct ⊢
      cases hct
      rw [if_neg (by decide), if_neg (by decide), if_neg (by decide), if_pos (by decide), text_at hw hd]
    | @list k xs hx =>
      rw [w_list] at hd hct ⊢
      cases hct
      rw [if_neg (by decide), if_neg (by decide), if_neg (by decide), if_neg (by decide), if_pos (by decide)]
      have h1 := at_one hd0
      unfold listM enterM
      rw [if_pos (by omega)]
      dsimp only
      cases xs with
      | nil =>
        have h2 : b.drop (p + 1) = 93 :: s := h1
        rw [at_blank h2 rfl, at_peek h2]
        dsimp only
        rw [if_pos (by decide)]; rfl
      | cons x xs =>
        have h2 : b.drop (p + 1) = joinC ((x :: xs).map writeJ) ++ 93 :: s := by rw [h1]; simp
        obtain ⟨c2, t2, e2, hb2, h932, _⟩ := head_at (hx x (by simp))
        obtain ⟨t3, e3⟩ := joinC_head (l := xs.map writeJ) e2
        have h3 : b.drop (p + 1) = c2 :: (t3 ++ 93 :: s) := by rw [h2, List.map_cons, e3]; rfl
        have hjl := joinC_len ((x :: xs).map writeJ) (fun t ht => by
          obtain ⟨y, hy, rfl⟩ := List.mem_map.1 ht
          exact w_ne (hx y hy))
        have hll := congrArg List.length h2
        rw [List.length_drop, List.length_append] at hll
        simp only [List.length_map, List.length_cons] at hjl hll
        rw [at_blank h3 hb2, at_peek h3]
        dsimp only
        rw [if_neg h932, items_at xs x (b.length + 1) [] (p + 1) s (fun y hy => ⟨hx y hy, value_at k y (by omega) (hx y hy)⟩) (by simp only [List.map_cons] at hjl hll; omega) h2 hs]
        simp
        omega
    | @obj k ns xs hl hnd hw hu hx =>
      rw [w_obj hl hnd hu] at hd hct ⊢
      cases hct
      rw [if_neg (by decide), if_neg (by decide), if_neg (by decide), if_neg (by decide), if_neg (by decide), if_pos (by decide)]
      have h1 := at_one hd0
      have hz1 : (ns.zip xs).map (·.1) = ns := List.map_fst_zip (by omega)
      have hz2 : (ns.zip xs).map (·.2) = xs := List.map_snd_zip (by omega)
      unfold objectM enterM
      rw [if_pos (by omega)]
      dsimp only
      cases hzz : ns.zip xs with
      | nil =>
        rw [hzz] at hz1 hz2 h1
        have h2 : b.drop (p + 1) = 125 :: s := h1
        rw [at_blank h2 rfl, at_peek h2]
        dsimp only
        rw [if_pos (by decide), ← hz1, ← hz2]; rfl
      | cons q l =>
        rw [hzz] at h1
        have h2 : b.drop (p + 1) = joinC ((q :: l).map fun q => memB (q.1, writeJ q.2)) ++ 125 :: s := by rw [h1]; simp
        obtain ⟨t3, e3⟩ := joinC_head (x := memB (q.1, writeJ q.2)) (l := l.map fun q => memB (q.1, writeJ q.2)) (c := 34) rfl
        have h3 : b.drop (p + 1) = 34 :: (t3 ++ 125 :: s) := by rw [h2, List.map_cons, e3]; rfl
        have hjl := joinC_len ((q :: l).map fun q => memB (q.1, writeJ q.2)) (fun t ht => by
          obtain ⟨y, hy, rfl⟩ := List.mem_map.1 ht
          simp [memB, quoteB])
        have hll := congrArg List.length h2
        rw [List.length_drop, List.length_append] at hll
        simp only [List.length_map, List.length_cons] at hjl hll
        have hmem : ∀ y ∈ q :: l, Wh y.1 ∧ Cj k y.2 ∧ ValAt b (valueM b (k + 1)) y.2 := fun y hy => by
          rw [← hzz] at hy
          have hy1 : y.1 ∈ ns := (List.of_mem_zip (a := y.1) (b := y.2) hy).1
          have hy2 : y.2 ∈ xs := (List.of_mem_zip (a := y.1) (b := y.2) hy).2
          exact ⟨hw _ hy1, hx _ hy2, value_at k _ (by omega) (hx _ hy2)⟩
        rw [hzz] at hz1 hz2
        rw [at_blank h3 rfl, at_peek h3]
        dsimp only
        rw [if_neg (by decide), members_at l q (b.length + 1) [] [] (p + 1) s hmem (by rw [List.nil_append, hz1]; exact hnd) (by simp only [List.map_cons] at hjl hll; omega) h2 hs]
        dsimp only
        rw [List.nil_append, List.nil_append, hz1, hz2]
        unfold objJ
        rw [sortP_of_up hu (by rw [List.map_fst_zip (by omega)]; exact hnd)]
        rw [List.map_fst_zip (by omega), List.map_snd_zip (by omega)]
        simp
        omega
theorem loose_back {j : J} (h : Cj 16 j) (hl : (writeJ j).length ≤ 16777216) : looseM (writeJ j) = .ok j := by
  obtain ⟨c, t, hct, hcb, _⟩ := head_at h
  have hd : (writeJ j).drop 0 = writeJ j ++ [] := by simp
  have hd0 : (writeJ j).drop 0 = c :: t := hct
  unfold looseM
  rw [if_neg (by omega), at_blank hd0 hcb, value_at 16 j (Nat.le_refl _) h 0 [] hd (.inl rfl)]
  dsimp only
  rw [Nat.zero_add, at_blank_end List.drop_length, if_neg (by omega)]
end Go.Proofs.YtbmeafeojcgndaaDoor
