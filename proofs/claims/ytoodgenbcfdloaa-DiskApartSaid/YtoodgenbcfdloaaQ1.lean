/- A list of blocks, of which some are forgotten. -/
import Derived.Test.YtoodgenbcfdloaaSlB
import Derived.Test.YtoodgenbcfdloaaG18
set_option linter.unusedVariables false
set_option linter.unusedSimpArgs false
namespace Go.Sl
open Go.RowKit
section
variable {W w : World} {L : List HProp}
theorem Sat.app : ∀ {A B : List HProp}, Sat W w (A ++ B) → Sat W w B
  | [], _, h => h
  | _ :: A, _, h => Sat.app (A := A) (Sat.drop1 h)
theorem Sat.firsts (h : Sat W w L) (k : Nat) : Sat W w (L.take k) :=
  Sat.app (A := L.drop k) (h.perm (by have p := List.perm_append_comm (l₁ := L.take k) (l₂ := L.drop k); rw [List.take_append_drop] at p; exact p))
/-- The blocks at the places of a list, in its order; the others are forgotten. -/
theorem Sat.keeps (h : Sat W w L) (is : List Nat) : Sat W w ((Go.Sl.picks L is).take is.length) := (h.picks is).firsts _
end
end Go.Sl

/- The document's disk: how it lies; walks: part, into, path, find, without, with. -/
set_option linter.unusedVariables false
set_option linter.unusedSimpArgs false
namespace Go.Proofs.Ytoodgenbcfdloaa
open Go Go.Sl Go.RowKit
set_option maxRecDepth 100000
attribute [local irreducible] CW LW DW FR DP Calls

/-- A thing of the document's disk, as it lies. -/
structure RTh where
  A : Option Addr
  c : Nat
  d : List UInt8
  syn : Nat
  there : Bool
  deriving Inhabited
def eT (t : RTh) : List Value := [.slice t.A t.d.length t.c, .int .i64 (t.syn : Int), .bool t.there]
theorem eT_ok : (∀ x, (eT x).length = 3) ∧ ∀ x, ∀ u ∈ eT x, u.oneCell' = true := ⟨fun _ => rfl, fun x u h => by
  simp [eT] at h
  rcases h with rfl | rfl | rfl <;> rfl⟩
def eE (p : Nm × Nat) : List Value := [sv p.1, .int .i64 (p.2 : Int)]
theorem eE_ok : (∀ x, (eE x).length = 2) ∧ ∀ x, ∀ u ∈ eE x, u.oneCell' = true := ⟨fun _ => rfl, fun x u h => by
  simp [eE] at h
  rcases h with rfl | rfl <;> rfl⟩
def kindC (c : Chg) : Int := if c.a = [] then 1 else if c.b = [] then 3 else 2
def eCh (c : Chg) : List Value := [.int .i64 (kindC c), sv (if c.a = [] then c.b else c.a), sv (if c.a = [] then [] else c.b), .int .i64 ((c.made.getD 0 : Nat) : Int)]
theorem eCh_ok : (∀ x, (eCh x).length = 4) ∧ ∀ x, ∀ u ∈ eCh x, u.oneCell' = true := ⟨fun _ => rfl, fun x u h => by
  simp [eCh] at h
  rcases h with rfl | rfl | rfl | rfl <;> rfl⟩
theorem into_call (w : World) (n lo hi : Int) (h : lo ≤ hi) : Calls Try.prog 66 [Value.int .i64 n, .int .i64 lo, .int .i64 hi].toArray w (Ret fun v w' => v = .int .i64 (clamp n lo hi) ∧ w = w') := by
  refine Calls_of Try.func66 rfl 16 Try.ntmps66 rfl ?_
  unfold clamp
  (repeat' (first | (refine isLW ?_; first | refine LW_nil ?_ | (refine isLbin ?_; first | (refine LW_cmp rfl (fun _ => ?_) (fun _ => ?_) <;> try (exfalso; omega))) | refine LW_pure TOK rfl ?_) | (with_reducible first | refine then_n ?_ | refine CW_seq ?_ | refine CW_region ?_ | refine CW_skip ?_ | refine CW_ret ?_ | refine then_r ?_) | refine CW_true rfl ?_ | refine CW_false rfl ?_ | refine RET1 Try.results66 rfl ?_))
  all_goals first
    | (rw [if_pos (by assumption)]; exact ⟨rfl, rfl⟩)
    | (rw [if_neg (by assumption), if_pos (by assumption)]; exact ⟨rfl, rfl⟩)
    | (rw [if_neg (by assumption), if_neg (by assumption)]; exact ⟨rfl, rfl⟩)
theorem part_call (w : World) (b : List UInt8) (A : Option Addr) (c hi : Nat) (rb : Rd eB w A b) (h : hi ≤ b.length) (hb : b.length ≤ 140737488355328) :
    Calls Try.prog 63 [Value.slice A b.length c, .int .i64 0, .int .i64 (hi : Int)].toArray w (Ret fun v w' => ∃ A' c', v = .slice A' (b.take hi).length c' ∧ Sat w w' [RowOf eB 5 1 A' c' (b.take hi)]) := by
  refine Calls_of Try.func63 rfl 23 Try.ntmps63 rfl ?_
  have hs := (Sat.start w).nilRow 5 1
  (repeat' (first | (refine isLW ?_; first | refine LW_nil ?_ | refine LW_pure TOK rfl ?_) | (with_reducible first | refine then_n ?_ | refine CW_seq ?_ | refine CW_region ?_ | refine CW_block ?_)))
  refine CW_loop (γ := Nat × Option Addr × Nat) (fun g => [(0, .slice A b.length c), (2, .int .i64 (hi : Int)), (7, .slice g.2.1 (b.take g.1).length g.2.2), (8, .int .i64 (g.1 : Int))]) (fun g w' => Sat w w' [RowOf eB 5 1 g.2.1 g.2.2 (b.take g.1)] ∧ g.1 ≤ hi) (fun g => hi - g.1) (0, none, 0) ⟨rfl, rfl, rfl, rfl, trivial⟩ ⟨hs, by omega⟩ ?_
  clear hs
  rintro ⟨i, A1, c1⟩ τ w' ⟨hs, h1⟩
  try dsimp only at hs h1 ⊢
  have hlen : (b.take i).length = i := by rw [List.length_take]; omega
  by_cases hlt : i < hi
  · have hru := rd_at (xs := b) (i := i) (by omega)
    have hnx : b.take (i + 1) = b.take i ++ [b[i]] := List.take_succ_eq_append_getElem (by omega)
    rw [← hru] at hnx
    (repeat' (first | (refine isLW ?_; first | refine LW_nil ?_ | (refine isLload ?_; first | refine LW_loadRd0 (rb.of hs) (fun _ => rfl) TOK rfl (by assumption) rfl rfl (by omega) (by omega) rfl ?_) | (refine isLcall ?_; first | (refine LW_append1 0 eB_ok (z := rd b (i : Int)) hs TOK rfl rfl rfl rfl rfl rfl rfl rfl rfl rfl (by unfold maxLen; omega) (by simp only []; omega) ?_; clear hs; intro A3 c3 w hs)) | (refine isLidx ?_; first | (refine LW_indexRd (rb.of hs) TOK rfl rfl rfl rfl rfl (by omega) (by omega) ?_; intro _ _ _)) | (refine isLbin ?_; first | refine LW_i64 rfl (by omega) (by omega) ?_ | (refine LW_cmp rfl (fun _ => ?_) (fun _ => ?_) <;> try (exfalso; omega))) | refine LW_pure TOK rfl ?_ | (refine LW_buildSlice TOK hs rfl rfl rfl rfl rfl rfl rfl ?_; clear hs; intro _ w hs)) | (with_reducible first | refine then_n ?_ | refine CW_seq ?_ | refine CW_region ?_ | refine CW_block ?_ | refine CW_skip ?_ | refine blk_n ?_) | refine CW_true rfl ?_))
    exact ⟨(i + 1, A3, c3), _, FR_forget _ ⟨rfl, rfl, by dsimp only; rw [hnx]; rfl, rfl, trivial⟩, ⟨by dsimp only; rw [hnx]; exact hs, hlt⟩, by dsimp only; omega⟩
  · (repeat' (first | (refine isLW ?_; first | refine LW_nil ?_ | (refine isLbin ?_; first | (refine LW_cmp rfl (fun _ => ?_) (fun _ => ?_) <;> try (exfalso; omega))) | refine LW_pure TOK rfl ?_) | (with_reducible first | refine then_n ?_ | refine CW_seq ?_ | refine CW_region ?_ | refine CW_exit ?_ | refine CW_ret ?_ | refine then_e ?_ | refine blk_same ?_) | refine CW_false rfl ?_ | refine RET1 Try.results63 rfl ?_))
    have : i = hi := by omega
    subst this
    exact ⟨A1, c1, rfl, hs⟩
theorem rpath_call (w : World) (n : Nm) (hn : n.length ≤ 140737488355328) :
    Calls Try.prog 61 [sv n].toArray w (Ret fun v w' => v = .bool (pathB n) ∧ Sat w w' []) := by
  refine Calls_of Try.func61 rfl 34 Try.ntmps61 rfl ?_
  have hs := Sat.start w
  (repeat' (first | (refine isLW ?_; first | refine LW_nil ?_ | refine LW_pure TOK rfl ?_) | (with_reducible first | refine then_n ?_ | refine CW_seq ?_ | refine CW_region ?_ | refine CW_block ?_)))
  refine CW_loop (γ := Nat) (fun g => [(0, sv n), (3, .int .i64 (g : Int))]) (fun g w' => Sat w w' [] ∧ g ≤ n.length ∧ ∀ j (h : j < n.length), j < g → okc n[j] = true) (fun g => n.length - g) 0 ⟨rfl, rfl, trivial⟩ ⟨hs, by omega, fun j _ h => absurd h (Nat.not_lt_zero _)⟩ ?_
  clear hs
  rintro i τ w' ⟨hs, h1, h2⟩
  try dsimp only at h1 h2 ⊢
  by_cases hlt : i < n.length
  · have hru := rd_at hlt
    have hd : (rd n (i : Int)).toNat < 256 := (rd n (i : Int)).toNat_lt
    by_cases hc : okc n[i] = true
    · have hc' := hc
      rw [← hru] at hc'
      unfold okc at hc'
      simp only [Bool.and_eq_true, decide_eq_true_eq, Bool.not_eq_true', decide_eq_false_iff_not] at hc'
      (repeat' (first | refine LW_lenN (a := n) TOK rfl rfl rfl rfl rfl ?_ | (refine isLW ?_; first | refine LW_nil ?_ | (refine isLg ?_; first | refine LW_take rfl ?_) | (refine isLbin ?_; first | refine LW_i64 rfl (by omega) (by omega) ?_ | (refine LW_cmp rfl (fun _ => ?_) (fun _ => ?_) <;> try (exfalso; omega))) | refine LW_strIdx (a := n) TOK rfl rfl rfl rfl rfl (by omega) (by omega) ?_ | refine LW_pure TOK rfl ?_) | (with_reducible first | refine then_n ?_ | refine CW_seq ?_ | refine CW_region ?_ | refine CW_block ?_ | refine CW_skip ?_ | refine blk_n ?_) | refine CW_true rfl ?_ | refine CW_false rfl ?_))
      refine ⟨i + 1, _, FR_forget _ ⟨rfl, rfl, trivial⟩, ⟨hs, hlt, fun j hj hji => ?_⟩, by omega⟩
      by_cases e : j = i
      · subst e; exact hc
      · exact h2 j hj (by omega)
    · have hbad : pathB n = false := by
        unfold pathB
        have : n.all okc = false := by
          rw [List.all_eq_false]
          exact ⟨n[i], List.getElem_mem hlt, by simpa using hc⟩
        rw [this]; simp
      rw [hbad]
      have hc' := hc
      rw [← hru] at hc'
      unfold okc at hc'
      simp only [Bool.and_eq_true, decide_eq_true_eq, Bool.not_eq_true', decide_eq_false_iff_not] at hc'
      (repeat' (first | refine LW_lenN (a := n) TOK rfl rfl rfl rfl rfl ?_ | (refine isLW ?_; first | refine LW_nil ?_ | (refine isLg ?_; first | refine LW_take rfl ?_ | refine LW_pass rfl rfl ?_) | (refine isLbin ?_; first | (refine LW_cmp rfl (fun _ => ?_) (fun _ => ?_) <;> try (exfalso; omega))) | refine LW_strIdx (a := n) TOK rfl rfl rfl rfl rfl (by omega) (by omega) ?_ | refine LW_pure TOK rfl ?_) | (with_reducible first | refine then_n ?_ | refine CW_seq ?_ | refine CW_region ?_ | refine CW_block ?_ | refine CW_skip ?_ | refine CW_ret ?_ | refine then_r ?_ | refine blk_r ?_) | refine CW_true rfl ?_ | refine RET1 Try.results61 rfl ?_))
      all_goals exact ⟨rfl, hs⟩
  · have hall : n.all okc = true := by
      rw [List.all_eq_true]
      intro x hx
      obtain ⟨j, hj, rfl⟩ := List.getElem_of_mem hx
      exact h2 j hj (by omega)
    have hp : pathB n = decide (1 ≤ n.length ∧ n.length ≤ 40) := by
      unfold pathB
      rw [hall, Bool.and_true]
      cases n with
      | nil => rfl
      | cons x n => simp
    rw [hp]
    (repeat' (first | refine LW_lenN (a := n) TOK rfl rfl rfl rfl rfl ?_ | (refine isLW ?_; first | refine LW_nil ?_ | (refine isLg ?_; first | refine LW_take rfl ?_ | refine LW_pass rfl rfl ?_) | (refine isLbin ?_; first | (refine LW_cmp rfl (fun _ => ?_) (fun _ => ?_) <;> try (exfalso; omega))) | refine LW_pure TOK rfl ?_) | (with_reducible first | refine then_n ?_ | refine CW_seq ?_ | refine CW_region ?_ | refine CW_exit ?_ | refine CW_ret ?_ | refine then_e ?_ | refine blk_same ?_) | refine CW_false rfl ?_ | refine RET1 Try.results61 rfl ?_))
    · exact ⟨by rw [decide_eq_true ⟨by omega, by omega⟩], hs⟩
    · exact ⟨by rw [decide_eq_false (by omega)], hs⟩
    · exact ⟨by rw [decide_eq_false (by omega)], hs⟩
def optE : Option Nat → Int
  | none => -1
  | some i => i
def placeE (l : Names) (n : Nm) : Option Nat := l.findIdx? fun p => decide (p.1 = n)
theorem placeE_fnd {l : Names} {n : Nm} : (placeE l n = none ∧ fnd l n = none) ∨ ∃ i, placeE l n = some i ∧ i < l.length ∧ fnd l n = some (l.getD i default).2 := by
  cases h : placeE l n with
  | none =>
    left
    refine ⟨rfl, fnd_none.2 fun p hp e => ?_⟩
    have := List.findIdx?_eq_none_iff.1 h p hp
    simp [e] at this
  | some i =>
    right
    obtain ⟨h1, h2, h3⟩ := List.findIdx?_eq_some_iff_getElem.1 h
    refine ⟨i, rfl, h1, ?_⟩
    unfold fnd
    have e : l.getD i default = l[i] := by simp [List.getD, h1]
    rw [e]
    have : l.find? (fun p => decide (n = p.1)) = some l[i] := by
      rw [List.find?_eq_some_iff_getElem]
      refine ⟨by have := of_decide_eq_true h2; simp [this], i, h1, rfl, fun j hj => ?_⟩
      have := h3 j hj
      simp only [Bool.not_eq_true, decide_eq_false_iff_not] at this
      simp only [Bool.not_eq_true', decide_eq_false_iff_not]
      exact fun e => this e.symm
    rw [this]; rfl
theorem find_go {α : Type} (p : α → Bool) (l : List α) {i : Nat} (h : i < l.length) (h1 : ∀ j (hj : j < i), p (l[j]'(by omega)) = false) (h2 : p l[i] = true) : l.findIdx? p = some i :=
  List.findIdx?_eq_some_iff_getElem.2 ⟨h, h2, fun j hj => by simpa using h1 j hj⟩
theorem rfind_call (w : World) (l : Names) (A : Option Addr) (c : Nat) (n : Nm) (ra : Rd eE w A l) (hl : l.length ≤ 4611686018427387904) :
    Calls Try.prog 84 [Value.slice A l.length c, sv n].toArray w (Ret fun v w' => v = .int .i64 (optE (placeE l n)) ∧ Sat w w' []) := by
  refine Calls_of Try.func84 rfl 20 Try.ntmps84 rfl ?_
  have hs := Sat.start w
  (repeat' (first | (refine isLW ?_; first | refine LW_nil ?_ | refine LW_pure TOK rfl ?_) | (with_reducible first | refine then_n ?_ | refine CW_seq ?_ | refine CW_region ?_ | refine CW_block ?_)))
  refine CW_loop (γ := Nat) (fun g => [(0, .slice A l.length c), (1, sv n), (5, .int .i64 (g : Int))]) (fun g w' => Sat w w' [] ∧ g ≤ l.length ∧ ∀ j (hj : j < l.length), j < g → ¬ l[j].1 = n) (fun g => l.length - g) 0 ⟨rfl, rfl, rfl, trivial⟩ ⟨hs, by omega, fun j _ h => absurd h (Nat.not_lt_zero _)⟩ ?_
  clear hs
  rintro i τ w' ⟨hs, h1, h2⟩
  try dsimp only at h1 ⊢
  by_cases hlt : i < l.length
  · have hru := rd_at hlt
    (repeat' (first | (refine LW_strEq (a := (rd l (i : Int)).1) (b := n) rfl rfl rfl rfl (fun hq => ?_) (fun hq => ?_)) | (refine isLW ?_; first | refine LW_nil ?_ | (refine isLload ?_; first | refine LW_loadRd (ra.of hs) (fun _ => rfl) TOK rfl (by assumption) rfl rfl (by omega) (by omega) rfl ?_) | (refine isLcall ?_; first | refine LW_pure TOK rfl ?_) | (refine isLidx ?_; first | (refine LW_indexRd (ra.of hs) TOK rfl rfl rfl rfl rfl (by omega) (by omega) ?_; intro _ _ _)) | (refine isLbin ?_; first | refine LW_i64 rfl (by omega) (by omega) ?_ | (refine LW_cmp rfl (fun _ => ?_) (fun _ => ?_) <;> try (exfalso; omega))) | refine LW_pure TOK rfl ?_) | (with_reducible first | refine then_n ?_ | refine CW_seq ?_ | refine CW_region ?_ | refine CW_block ?_ | refine CW_skip ?_ | refine CW_ret ?_ | refine then_r ?_ | refine blk_n ?_ | refine blk_r ?_) | refine CW_true rfl ?_ | refine CW_false rfl ?_ | refine RET1 Try.results84 rfl ?_))
    · rw [hru] at hq
      have : placeE l n = some i := find_go _ l hlt (fun j hj => by simpa using h2 j (by omega) hj) (by simpa using hq)
      rw [this]
      exact ⟨rfl, hs⟩
    · rw [hru] at hq
      refine ⟨i + 1, _, FR_forget _ ⟨rfl, rfl, rfl, trivial⟩, ⟨hs, hlt, fun j hj hji => ?_⟩, by omega⟩
      by_cases e : j = i
      · subst e; exact hq
      · exact h2 j hj (by omega)
  · (repeat' (first | (refine isLW ?_; first | refine LW_nil ?_ | (refine isLcall ?_; first | refine LW_pure TOK rfl ?_) | (refine isLbin ?_; first | (refine LW_cmp rfl (fun _ => ?_) (fun _ => ?_) <;> try (exfalso; omega))) | refine LW_pure TOK rfl ?_) | (with_reducible first | refine then_n ?_ | refine CW_seq ?_ | refine CW_region ?_ | refine CW_exit ?_ | refine CW_ret ?_ | refine then_e ?_ | refine blk_same ?_) | refine CW_false rfl ?_ | refine RET1 Try.results84 rfl ?_))
    have : placeE l n = none := List.findIdx?_eq_none_iff.2 fun x hx => by
      obtain ⟨j, hj, rfl⟩ := List.getElem_of_mem hx
      simpa using h2 j hj (by omega)
    rw [this]
    exact ⟨rfl, hs⟩
theorem without_call (w : World) (l : Names) (A : Option Addr) (c : Nat) (n : Nm) (ra : Rd eE w A l) (hl : l.length ≤ 4398046511104) :
    Calls Try.prog 85 [Value.slice A l.length c, sv n].toArray w (Ret fun v w' => ∃ A' c', v = .slice A' (wo l n).length c' ∧ Sat w w' [RowOf eE 113 2 A' c' (wo l n)]) := by
  refine Calls_of Try.func85 rfl 28 Try.ntmps85 rfl ?_
  have hs := Sat.start w
  (repeat' (first | (refine isLW ?_; first | refine LW_nil ?_ | refine LW_pure TOK rfl ?_) | (with_reducible first | refine then_n ?_ | refine CW_seq ?_ | refine CW_region ?_ | refine CW_block ?_)))
  refine CW_loop (γ := Nat × Option Addr × Nat) (fun g => [(0, .slice A l.length c), (1, sv n), (5, .slice g.2.1 (wo (l.take g.1) n).length g.2.2), (6, .int .i64 (g.1 : Int))]) (fun g w' => Sat w w' [RowOf eE 113 2 g.2.1 g.2.2 (wo (l.take g.1) n)] ∧ g.1 ≤ l.length) (fun g => l.length - g.1) (0, none, 0) ⟨rfl, rfl, rfl, rfl, trivial⟩ ⟨hs.nilRow 113 2, by omega⟩ ?_
  clear hs
  rintro ⟨i, A1, c1⟩ τ w' ⟨hs, h1⟩
  try dsimp only at hs h1 ⊢
  by_cases hlt : i < l.length
  · have hru := rd_at hlt
    have hlen : (wo (l.take i) n).length ≤ i := by
      refine Nat.le_trans (List.length_filter_le _ _) ?_
      rw [List.length_take]; omega
    have hnx : wo (l.take (i + 1)) n = wo (l.take i) n ++ (if l[i].1 = n then [] else [l[i]]) := by
      unfold wo
      rw [List.take_succ_eq_append_getElem hlt, List.filter_append]
      congr 1
      by_cases e : l[i].1 = n <;> simp [e]
    (repeat' (first | (refine LW_strNe (a := (rd l (i : Int)).1) (b := n) rfl rfl rfl rfl (fun hq => ?_) (fun hq => ?_)) | (refine isLW ?_; first | refine LW_nil ?_ | (refine isLload ?_; first | refine LW_loadRdA (vs := eE l[i]) (ra.of hs) (fun _ => rfl) TOK rfl (by assumption) rfl rfl rfl (by omega) (by omega) (by rw [hru]) ?_ | refine LW_loadRd (ra.of hs) (fun _ => rfl) TOK rfl (by assumption) rfl rfl (by omega) (by omega) rfl ?_) | (refine isLcall ?_; first | (refine LW_append1 0 eE_ok (z := l[i]) hs TOK rfl rfl rfl rfl rfl rfl rfl rfl rfl rfl (by unfold maxLen; omega) (by simp only []; omega) ?_; clear hs; intro A3 c3 w hs) | refine LW_pure TOK rfl ?_) | (refine isLidx ?_; first | (refine LW_indexRd (ra.of hs) TOK rfl rfl rfl rfl rfl (by omega) (by omega) ?_; intro _ _ _)) | (refine isLbin ?_; first | refine LW_i64 rfl (by omega) (by omega) ?_ | (refine LW_cmp rfl (fun _ => ?_) (fun _ => ?_) <;> try (exfalso; omega))) | refine LW_pure TOK rfl ?_ | (refine LW_buildSlice TOK hs rfl rfl rfl rfl rfl rfl rfl ?_; clear hs; intro _ w hs)) | (with_reducible first | refine then_n ?_ | refine CW_seq ?_ | refine CW_region ?_ | refine CW_block ?_ | refine CW_skip ?_ | refine blk_n ?_) | refine CW_true rfl ?_ | refine CW_false rfl ?_))
    · rw [hru] at hq
      rw [if_neg hq] at hnx
      exact ⟨(i + 1, A3, c3), _, FR_forget _ ⟨rfl, rfl, by dsimp only; rw [hnx]; rfl, rfl, trivial⟩, ⟨by dsimp only; rw [hnx]; exact hs, hlt⟩, by dsimp only; omega⟩
    · rw [hru] at hq
      rw [if_pos hq, List.append_nil] at hnx
      exact ⟨(i + 1, A1, c1), _, FR_forget _ ⟨rfl, rfl, by dsimp only; rw [hnx]; rfl, rfl, trivial⟩, ⟨by dsimp only; rw [hnx]; exact hs, hlt⟩, by dsimp only; omega⟩
  · (repeat' (first | (refine isLW ?_; first | refine LW_nil ?_ | (refine isLcall ?_; first | refine LW_pure TOK rfl ?_) | (refine isLbin ?_; first | (refine LW_cmp rfl (fun _ => ?_) (fun _ => ?_) <;> try (exfalso; omega))) | refine LW_pure TOK rfl ?_) | (with_reducible first | refine then_n ?_ | refine CW_seq ?_ | refine CW_region ?_ | refine CW_exit ?_ | refine CW_ret ?_ | refine then_e ?_ | refine blk_same ?_) | refine CW_false rfl ?_ | refine RET1 Try.results85 rfl ?_))
    have : l.take i = l := List.take_of_length_le (by omega)
    rw [this] at hs ⊢
    exact ⟨A1, c1, rfl, hs⟩
end Go.Proofs.Ytoodgenbcfdloaa
