/- Plain: where the reader gives up it says why. -/
import Derived.Test.YtbmeafeojcgndaaDoorP2
set_option linter.unusedVariables false
set_option linter.unusedSimpArgs false
namespace Go.Proofs.YtbmeafeojcgndaaDoor
open Go Go.Sl Go.RowKit
set_option maxRecDepth 100000
def GE (e : Er) : Prop := 130 ≤ e.1 ∧ e.1 ≤ 139
theorem ge_mk {c : Int} {p : Nat} (h0 : 130 ≤ c) (h1 : c ≤ 139) : GE (c, p) := ⟨h0, h1⟩
theorem ge130 (p : Nat) : GE (130, p) := ge_mk (by decide) (by decide)
theorem ge131 (p : Nat) : GE (131, p) := ge_mk (by decide) (by decide)
theorem ge134 (p : Nat) : GE (134, p) := ge_mk (by decide) (by decide)
theorem ge135 (p : Nat) : GE (135, p) := ge_mk (by decide) (by decide)
theorem ge136 (p : Nat) : GE (136, p) := ge_mk (by decide) (by decide)
theorem ge137 (p : Nat) : GE (137, p) := ge_mk (by decide) (by decide)
section
variable {b : List UInt8} {e : Er}
theorem peek_err {p : Nat} (h : peekM b p = .error e) : GE e := by
  unfold peekM at h
  split at h
  · cases h
  · injection h with h; rw [← h]; exact ge130 p
theorem unitL_err {fr : Nat} : ∀ (k u p : Nat), unitL b fr k u p = .error e → GE e
  | 0, _, _, h => by cases h
  | k + 1, u, p, h => by
    rw [unitL_succ] at h
    split at h
    · rename_i hx; injection h with h; rw [← h]; exact peek_err hx
    · split at h
      · exact unitL_err k _ _ h
      · injection h with h; rw [← h]; exact ge135 fr
theorem litM_err {fr : Nat} : ∀ (l : List UInt8) (p : Nat), litM b fr l p = .error e → GE e
  | [], _, h => by cases h
  | c :: l, p, h => by
    rw [litM_cons] at h
    split at h
    · rename_i hx; injection h with h; rw [← h]; exact peek_err hx
    · split at h
      · exact litM_err l _ h
      · injection h with h; rw [← h]; exact ge135 fr
theorem lowM_err {fr u p : Nat} (h : lowM b fr u p = .error e) : GE e := by
  unfold lowM at h
  split at h
  · rename_i hx; injection h with h; rw [← h]; exact unitL_err _ _ _ hx
  · split at h
    · injection h with h; rw [← h]; exact ge135 fr
    · injection h
theorem unitsM_err {fr p : Nat} (h : unitsM b fr p = .error e) : GE e := by
  unfold unitsM at h
  split at h
  · rename_i hx; injection h with h; rw [← h]; exact unitL_err _ _ _ hx
  · split at h
    · injection h
    · split at h
      · injection h with h; rw [← h]; exact ge135 fr
      · split at h
        · rename_i hx; injection h with h; rw [← h]; exact litM_err _ _ hx
        · exact lowM_err h
theorem escM_err {p : Nat} (h : escM b p = .error e) : GE e := by
  unfold escM at h
  split at h
  · rename_i hx; injection h with h; rw [← h]; exact peek_err hx
  · unfold escC at h
    repeat' split at h
    all_goals first | exact unitsM_err h | (injection h; done) | (injection h with h; rw [← h]; exact ge135 p)
theorem unitL_le {fr : Nat} : ∀ (k u p : Nat) (q : Nat × Nat), p ≤ b.length → unitL b fr k u p = .ok q → q.2 ≤ b.length
  | 0, _, _, _, hp, h => by cases h; exact hp
  | k + 1, u, p, q, hp, h => by
    rw [unitL_succ] at h
    split at h
    · cases h
    · rename_i c hc
      have := (peek_some hc).2
      split at h
      · exact unitL_le k _ _ _ (by omega) h
      · cases h
theorem litM_le {fr : Nat} : ∀ (l : List UInt8) (p q : Nat), p ≤ b.length → litM b fr l p = .ok q → q ≤ b.length
  | [], _, _, hp, h => by cases h; exact hp
  | c :: l, p, q, hp, h => by
    rw [litM_cons] at h
    split at h
    · cases h
    · rename_i y hy
      have := (peek_some hy).2
      split at h
      · exact litM_le l _ _ (by omega) h
      · cases h
theorem lowM_le {fr u p : Nat} {q : Nat × Nat} (hp : p ≤ b.length) (h : lowM b fr u p = .ok q) : q.2 ≤ b.length := by
  unfold lowM at h
  split at h
  · cases h
  · rename_i q' hq
    split at h
    · cases h
    · injection h with h
      have h3 := unitL_le _ _ _ _ hp hq
      rw [← h]
      dsimp only
      exact h3
theorem unitsM_le {fr p : Nat} {q : Nat × Nat} (hp : p ≤ b.length) (h : unitsM b fr p = .ok q) : q.2 ≤ b.length := by
  unfold unitsM at h
  split at h
  · cases h
  · rename_i q' hq
    have h1 := unitL_le _ _ _ _ hp hq
    split at h
    · injection h with h; rw [← h]; exact h1
    · split at h
      · cases h
      · split at h
        · cases h
        · rename_i p2 hp2
          exact lowM_le (litM_le _ _ _ h1 hp2) h
theorem escM_le {p : Nat} {q : Nat × Nat} (h : escM b p = .ok q) : q.2 ≤ b.length := by
  unfold escM at h
  split at h
  · cases h
  · rename_i x hx
    have := (peek_some hx).2
    unfold escC at h
    repeat' split at h
    all_goals first | exact unitsM_le (by omega) h | (injection h with h; rw [← h]; dsimp only; omega) | (cases h)
theorem textL_err : ∀ (f : Nat) (out : List UInt8) (p : Nat), p ≤ b.length → b.length < p + f → textL b f out p = .error e → GE e
  | 0, out, p, hp, hf, h => by omega
  | f + 1, out, p, hp, hf, h => by
    rw [textL_succ] at h
    split at h
    · rename_i hx; injection h with h; rw [← h]; exact peek_err hx
    · rename_i x hx
      have hpl := (peek_some hx).2
      split at h
      · injection h
      split at h
      · split at h
        · rename_i hx; injection h with h; rw [← h]; exact escM_err hx
        · rename_i q hq
          have h1 := escM_lt hq
          exact textL_err f _ _ (escM_le hq) (by omega) h
      split at h
      · injection h with h; rw [← h]; exact ge131 p
      split at h
      · injection h with h; rw [← h]; exact ge134 p
      · have hdl : (b.drop p).length = b.length - p := List.length_drop
        obtain ⟨hw1, hw2⟩ := dec_width (xs := b.drop p) (fun h => by rw [h] at hdl; simp at hdl; omega)
        exact textL_err f _ _ (by omega) (by omega) h
theorem textM_err {p : Nat} (hp : p < b.length) (h : textM b p = .error e) : GE e := textL_err _ _ _ (by omega) (by omega) h
theorem wordM_err : ∀ (t : List UInt8) (p : Nat), wordM b t p = .error e → GE e
  | [], _, h => by cases h
  | c :: l, p, h => by
    rw [wordM_cons] at h
    split at h
    · rename_i hx; injection h with h; rw [← h]; exact peek_err hx
    · split at h
      · exact wordM_err l _ h
      · injection h with h; rw [← h]; exact ge131 p
theorem runM_err {p : Nat} (h : runM b p = .error e) : GE e := by
  unfold runM at h
  split at h
  · rename_i hx; injection h with h; rw [← h]; exact peek_err hx
  · split at h
    · injection h
    · injection h with h; rw [← h]; exact ge131 p
theorem worth_code (all : List UInt8) (pw : Int) (mi : Bool) : (worthP all pw mi).2 = 0 ∨ (worthP all pw mi).2 = 132 ∨ (worthP all pw mi).2 = 133 := by
  unfold worthP worthN
  repeat' split
  all_goals simp
theorem numberM_err {p : Nat} (h : numberM b p = .error e) : GE e := by
  unfold numberM at h
  split at h
  · rename_i hx
    injection h with h; rw [← h]
    unfold intM at hx
    split at hx
    · rename_i hy; injection hx with hx; rw [← hx]; exact peek_err hy
    · split at hx
      · injection hx
      · exact runM_err hx
  unfold numB at h
  split at h
  · rename_i hx
    injection h with h; rw [← h]
    unfold fracM at hx
    split at hx
    · exact runM_err hx
    · injection hx
  unfold numC at h
  split at h
  · rename_i hx
    injection h with h; rw [← h]
    unfold expM at hx
    split at hx
    · unfold exponentM at hx
      split at hx
      · rename_i hy; injection hx with hx; rw [← hx]; exact runM_err hy
      · injection hx
    · injection hx
  unfold numD at h
  split at h
  · injection h
  · rename_i q3 hq3 hne
    injection h with h
    rw [← h]
    rename_i q1 _ _ q2 _
    rcases worth_code _ _ _ with h1 | h1 | h1
    · exact absurd h1 hne
    · rw [h1]; exact ge_mk (by decide) (by decide)
    · rw [h1]; exact ge_mk (by decide) (by decide)
theorem more_err {c : UInt8} {p : Nat} (h : moreM b c p = .error e) : GE e := by
  unfold moreM at h
  split at h
  · rename_i hx; injection h with h; rw [← h]; exact peek_err hx
  · split at h
    · injection h
    · split at h
      · injection h
      · injection h with h; rw [← h]; exact ge131 _
theorem enter_err {p d : Nat} (h : enterM b p d = .error e) : GE e := by
  unfold enterM at h
  split at h
  · injection h
  · injection h with h; rw [← h]; exact ge136 p
variable {val : Nat → Mo (J × Nat)}
theorem items_err (hv : ∀ p, p ≤ b.length → ∀ e, val p = .error e → GE e) (hok : ∀ p x, p ≤ b.length → val p = .ok x → p < x.2 ∧ x.2 ≤ b.length) : ∀ (f : Nat) (acc : List J) (p : Nat), p ≤ b.length → b.length < p + f → itemsM val b f acc p = .error e → GE e
  | 0, _, _, hp, hf, _ => by omega
  | f + 1, acc, p, hp, hf, h => by
    rw [itemsM_succ] at h
    split at h
    · rename_i hx; injection h with h; rw [← h]; exact hv p hp _ hx
    · rename_i x hx
      obtain ⟨h1, h2⟩ := hok p x hp hx
      split at h
      · rename_i hy; injection h with h; rw [← h]; exact more_err hy
      · rename_i m hm
        obtain ⟨h3, h4⟩ := more_ok hm h2
        split at h
        · exact items_err hv hok f _ _ h4 (by omega) h
        · injection h
theorem members_err (hv : ∀ p, p ≤ b.length → ∀ e, val p = .error e → GE e) (hok : ∀ p x, p ≤ b.length → val p = .ok x → p < x.2 ∧ x.2 ≤ b.length) : ∀ (f : Nat) (ns : List (List UInt8)) (xs : List J) (p : Nat), p ≤ b.length → b.length < p + f → membersM val b f ns xs p = .error e → GE e
  | 0, _, _, _, hp, hf, _ => by omega
  | f + 1, ns, xs, p, hp, hf, h => by
    rw [membersM_succ] at h
    split at h
    · rename_i hx; injection h with h; rw [← h]; exact peek_err hx
    rename_i c hc
    have hpl := (peek_some hc).2
    split at h
    · injection h with h; rw [← h]; exact ge131 p
    split at h
    · rename_i hx; injection h with h; rw [← h]; exact textM_err hpl hx
    rename_i t ht
    have htl := textM_len ht
    split at h
    · injection h with h; rw [← h]; exact ge137 p
    have hb1 := blanks_le htl.2.1
    split at h
    · rename_i hx; injection h with h; rw [← h]; exact peek_err hx
    rename_i c2 hc2
    have hc3 := (peek_some hc2).2
    split at h
    · injection h with h; rw [← h]; exact ge131 _
    have hb2 := blanks_le (b := b) (p := blanksM b t.2 + 1) (by omega)
    split at h
    · rename_i hx; injection h with h; rw [← h]; exact hv _ hb2.2 _ hx
    rename_i x hx
    obtain ⟨h1, h2⟩ := hok _ x hb2.2 hx
    split at h
    · rename_i hy; injection h with h; rw [← h]; exact more_err hy
    rename_i m hm
    obtain ⟨h3, h4⟩ := more_ok hm h2
    split at h
    · exact members_err hv hok f _ _ _ h4 (by omega) h
    · injection h
theorem value_err : ∀ (k p : Nat), p ≤ b.length → 0 < k → k ≤ 17 → ∀ e, valueM b k p = .error e → GE e
  | 0, _, _, h, _, _, _ => absurd h (Nat.lt_irrefl 0)
  | k + 1, p, hp, _, hk, e, h => by
    have hok : ∀ p x, p ≤ b.length → valueM b k p = .ok x → p < x.2 ∧ x.2 ≤ b.length := fun p x hp hx => by
      have := value_ok (N := 4 * b.length) (Nat.le_refl _) k p x hp hx
      exact ⟨this.1.lt, this.2⟩
    have hv : 0 < k → ∀ p, p ≤ b.length → ∀ e, valueM b k p = .error e → GE e := fun h0 p hp e he => value_err k p hp h0 (by omega) e he
    rw [valueM_succ] at h
    split at h
    · rename_i hx; injection h with h; rw [← h]; exact peek_err hx
    rename_i c hc
    have hpl := (peek_some hc).2
    unfold headM at h
    split at h
    · split at h
      · rename_i hx; injection h with h; rw [← h]; exact wordM_err _ _ hx
      · injection h
    split at h
    · split at h
      · rename_i hx; injection h with h; rw [← h]; exact wordM_err _ _ hx
      · injection h
    split at h
    · split at h
      · rename_i hx; injection h with h; rw [← h]; exact wordM_err _ _ hx
      · injection h
    split at h
    · split at h
      · rename_i hx; injection h with h; rw [← h]; exact textM_err hpl hx
      · injection h
    split at h
    · unfold listM at h
      split at h
      · rename_i hx; injection h with h; rw [← h]; exact enter_err hx
      rename_i q0 hq0
      obtain ⟨e1, e2, e3⟩ := enter_ok hq0 hpl
      split at h
      · rename_i hx; injection h with h; rw [← h]; exact peek_err hx
      split at h
      · injection h
      split at h
      · rename_i hx; injection h with h; rw [← h]; exact items_err (hv (by omega)) hok _ _ _ e2 (by omega) hx
      · injection h
    split at h
    · unfold objectM at h
      split at h
      · rename_i hx; injection h with h; rw [← h]; exact enter_err hx
      rename_i q0 hq0
      obtain ⟨e1, e2, e3⟩ := enter_ok hq0 hpl
      split at h
      · rename_i hx; injection h with h; rw [← h]; exact peek_err hx
      split at h
      · injection h
      split at h
      · rename_i hx; injection h with h; rw [← h]; exact members_err (hv (by omega)) hok _ _ _ _ e2 (by omega) hx
      · injection h
    split at h
    · split at h
      · rename_i hx; injection h with h; rw [← h]; exact numberM_err hx
      · injection h
    · injection h with h; rw [← h]; exact ge131 p
theorem loose_err_code (h : looseM b = .error e) : e.1 ≠ 0 ∧ 0 ≤ e.1 ∧ e.1 ≤ 139 := by
  unfold looseM at h
  split at h
  · injection h with h; rw [← h]; simp
  have hbl := blanks_le (b := b) (p := 0) (Nat.zero_le _)
  split at h
  · rename_i hx
    injection h with h; rw [← h]
    have := value_err 17 _ hbl.2 (by decide) (by decide) _ hx
    unfold GE at this
    omega
  · split at h
    · injection h with h; rw [← h]; simp
    · injection h
end
end Go.Proofs.YtbmeafeojcgndaaDoor

/- Walks: Print, Canon. -/
set_option linter.unusedVariables false
set_option linter.unusedSimpArgs false
namespace Go.Proofs.YtbmeafeojcgndaaDoor
open Go Go.Sl Go.RowKit
set_option maxRecDepth 100000
attribute [local irreducible] CW LW DW FR DP Calls Res Ret
noncomputable def printM (j : J) : Mo (List UInt8) := if soundJ j 0 = 0 then (if 16777216 < (writeJ j).length then .error (2, 0) else .ok (writeJ j)) else .error (soundJ j 0, 0)
def canonM (b : List UInt8) : Mo (List UInt8) := match looseM b with
  | .error e => .error e
  | .ok j => if 16777216 < (writeJ j).length then .error (2, 16777216) else .ok (writeJ j)
def resB (m : Mo (List UInt8)) : List UInt8 := match m with
  | .ok l => l
  | .error _ => []
section
variable {W : World} {L : List HProp}
set_option maxHeartbeats 2000000 in
theorem print_call (hU : Lib.Utf8Tabs 1 2 W) (hT : Tab W) {x : RV} (h : RdV W x) (w : World) (hwf : soundJ x.j 0 = 0 → WfJ x.j) (hsm : SmJ 1099511627776 x.j) (hlen : soundJ x.j 0 = 0 → (writeJ x.j).length ≤ 8796093022208) (hs : Sat W w L) :
    Calls Tryd.prog 17 [Value.agg (eV x).toArray].toArray w (Ret fun v w' => ∃ A c, v = .tuple #[.slice A (resB (printM x.j)).length c, .int .i64 (resE (printM x.j))] ∧ Sat W w' (RowOf eB 5 1 A c (resB (printM x.j)) :: L)) := by
  refine Calls_of Tryd.func17 rfl 17 Tryd.ntmps17 rfl ?_
  obtain ⟨j, hj⟩ : ∃ j, x.j = j := ⟨_, rfl⟩
  have hsc := fun (w : World) (L : List HProp) (hs : Sat W w L) => sound_call hU h L w 0 hsm hs (by omega)
  have hwc := write_call hT h
  unfold WrC at hwc
  rw [hj] at hwc hsc hwf hsm hlen ⊢
  unfold printM
  obtain ⟨sj, hsj⟩ : ∃ sj, soundJ j 0 = sj := ⟨_, rfl⟩
  rw [hsj] at hsc hwf hlen ⊢
  cases x with
  | mk k i t NA nc ns IA ic xs =>
  unfold eV at hsc hwc ⊢
  by_cases h0 : sj = 0
  · subst h0
    have hwf := hwf rfl
    have hlen := hlen rfl
    rw [if_pos rfl]
    obtain ⟨tx, htx⟩ : ∃ tx, writeJ j = tx := ⟨_, rfl⟩
    rw [htx] at hwc hlen ⊢
    by_cases hbig : 16777216 < tx.length
    · rw [if_pos hbig]
      (repeat' (first | (refine isLW ?_; first | refine LW_nil ?_ | (refine isLload ?_; first | refine LW_loadCAE 0 [.int .i64 k, .int .i64 i, sv t, .slice NA ns.length nc, .slice IA xs.length ic] TOK hs rfl rfl rfl rfl (Nat.le_of_ble_eq_true rfl) rfl ?_) | (refine isLcall ?_; first | (refine LW_call (cap := []) rfl rfl ent31 (hsc _ _ hs) ?_; clear hs; rintro _ w2 ⟨rfl, hs⟩) | (refine LW_call (cap := []) rfl rfl ent32 (hwc _ _ [] none 0 hwf hsm (hs.nilRow 5 1) (by simpa using hlen)) ?_; clear hs; rintro _ w2 ⟨A, c, rfl, hs⟩; rw [List.nil_append] at hs ⊢) | refine LW_pure TOK rfl ?_) | (refine isLbin ?_; first | (refine LW_cmp rfl (fun _ => ?_) (fun _ => ?_) <;> try (exfalso; omega))) | refine LW_pure TOK rfl ?_ | (refine LW_box hs rfl rfl ?_; clear hs; intro _ w hs)) | (with_reducible first | refine then_n ?_ | refine CW_seq ?_ | refine CW_region ?_ | refine CW_skip ?_ | refine CW_ret ?_ | refine then_r ?_) | refine CW_true rfl ?_ | refine CW_false rfl ?_ | refine RET2 Tryd.results17 rfl rfl ?_))
      all_goals exact ⟨none, 0, rfl, hs.drop1.drop1.nilRow 5 1⟩
    · rw [if_neg hbig]
      (repeat' (first | (refine isLW ?_; first | refine LW_nil ?_ | (refine isLload ?_; first | refine LW_loadCAE 0 [.int .i64 k, .int .i64 i, sv t, .slice NA ns.length nc, .slice IA xs.length ic] TOK hs rfl rfl rfl rfl (Nat.le_of_ble_eq_true rfl) rfl ?_) | (refine isLcall ?_; first | (refine LW_call (cap := []) rfl rfl ent31 (hsc _ _ hs) ?_; clear hs; rintro _ w2 ⟨rfl, hs⟩) | (refine LW_call (cap := []) rfl rfl ent32 (hwc _ _ [] none 0 hwf hsm (hs.nilRow 5 1) (by simpa using hlen)) ?_; clear hs; rintro _ w2 ⟨A, c, rfl, hs⟩; rw [List.nil_append] at hs ⊢) | refine LW_pure TOK rfl ?_) | (refine isLbin ?_; first | (refine LW_cmp rfl (fun _ => ?_) (fun _ => ?_) <;> try (exfalso; omega))) | refine LW_pure TOK rfl ?_ | (refine LW_box hs rfl rfl ?_; clear hs; intro _ w hs)) | (with_reducible first | refine then_n ?_ | refine CW_seq ?_ | refine CW_region ?_ | refine CW_skip ?_ | refine CW_ret ?_) | refine CW_false rfl ?_ | refine RET2 Tryd.results17 rfl rfl ?_))
      all_goals exact ⟨A, c, rfl, (hs.picks [1]).drop1⟩
  · rw [if_neg h0]
    (repeat' (first | (refine isLW ?_; first | refine LW_nil ?_ | (refine isLload ?_; first | refine LW_loadCAE 0 [.int .i64 k, .int .i64 i, sv t, .slice NA ns.length nc, .slice IA xs.length ic] TOK hs rfl rfl rfl rfl (Nat.le_of_ble_eq_true rfl) rfl ?_) | (refine isLcall ?_; first | (refine LW_call (cap := []) rfl rfl ent31 (hsc _ _ hs) ?_; clear hs; rintro _ w2 ⟨rfl, hs⟩)) | (refine isLbin ?_; first | (refine LW_cmp rfl (fun _ => ?_) (fun _ => ?_) <;> try (exfalso; omega))) | refine LW_pure TOK rfl ?_ | (refine LW_box hs rfl rfl ?_; clear hs; intro _ w hs)) | (with_reducible first | refine then_n ?_ | refine CW_seq ?_ | refine CW_region ?_ | refine CW_ret ?_ | refine then_r ?_) | refine CW_true rfl ?_ | refine RET2 Tryd.results17 rfl rfl ?_))
    all_goals exact ⟨none, 0, rfl, hs.drop1.nilRow 5 1⟩
end
section
variable {W : World} {b : List UInt8} {B : Option Addr} {c : Nat}
set_option maxHeartbeats 2000000 in
theorem canon_call (hU : Lib.Utf8Tabs 1 2 W) (hT : Tab W) (rb : Rd eB W B b) (hcb : b.length ≤ c) :
    Calls Tryd.prog 20 [Value.slice B b.length c].toArray W (Ret fun v w' => ∃ A c', v = .tuple #[.slice A (resB (canonM b)).length c', .int .i64 (resE (canonM b)), .int .i64 (resP (canonM b) : Nat)] ∧ Sat W w' [RowOf eB 5 1 A c' (resB (canonM b))]) := by
  refine Calls_of Tryd.func20 rfl 25 Tryd.ntmps20 rfl ?_
  have hlc := loose_call hU rb hcb
  unfold canonM
  rcases hm : looseM b with e | j
  · rw [hm] at hlc
    have hne := (loose_err_code hm).1
    have hne2 : ¬ resE (Except.error e : Mo J) = 0 := hne
    (repeat' (first | (refine isLW ?_; first | refine LW_nil ?_ | (refine isLstore ?_; first | (refine LW_storeCA 0 TOK hs rfl rfl rfl rfl rfl (oneV _ _ _ _ _ _ _ _ _) rfl (Nat.le_of_ble_eq_true rfl) ?_; clear hs; intro w hs)) | (refine isLcall ?_; first | (refine LW_call (cap := []) rfl rfl ent11 hlc ?_; rintro _ w2 ⟨x, rfl, hxj, hs⟩; obtain ⟨R0, hR0⟩ : ∃ R0, x.rows = R0 := ⟨_, rfl⟩; rw [hR0] at hs; obtain ⟨kk, ii, tt, NA0, nc0, ns0, IA0, ic0, xs0⟩ := x)) | (refine isLbin ?_; first | (refine LW_cmp rfl (fun _ => ?_) (fun _ => ?_) <;> try (exfalso; omega))) | refine LW_pure TOK rfl ?_ | (refine LW_alloc TOK hs rfl rfl ?_; clear hs; intro _ w hs)) | (with_reducible first | refine then_n ?_ | refine CW_seq ?_ | refine CW_region ?_ | refine CW_ret ?_ | refine then_r ?_) | refine CW_true rfl ?_ | refine RET3 Tryd.results20 rfl rfl rfl ?_))
    all_goals exact ⟨none, 0, rfl, (hs.firsts 0).nilRow 5 1⟩
  · rw [hm] at hlc
    obtain ⟨hbl, hwf, hsm, hwl⟩ := loose_ok hm
    have hres : resJ (Except.ok j : Mo J) = j := rfl
    have he0 : resE (Except.ok j : Mo J) = 0 := rfl
    dsimp only
    by_cases hbig : 16777216 < (writeJ j).length
    · rw [if_pos hbig]
      (repeat' (first | (refine isLW ?_; first | refine LW_nil ?_ | (refine isLload ?_; first | refine LW_loadCAE 0 [.int .i64 kk, .int .i64 ii, sv tt, .slice NA0 ns0.length nc0, .slice IA0 xs0.length ic0] TOK hs rfl rfl rfl rfl (Nat.le_of_ble_eq_true rfl) rfl ?_) | (refine isLstore ?_; first | (refine LW_storeCA 0 TOK hs rfl rfl rfl rfl rfl (oneV _ _ _ _ _ _ _ _ _) rfl (Nat.le_of_ble_eq_true rfl) ?_; clear hs; intro w hs)) | (refine isLcall ?_; first | (refine LW_call (cap := []) rfl rfl ent11 hlc ?_; rintro _ w2 ⟨x, rfl, hxj, hs⟩; replace hxj : x.j = j := hxj; obtain ⟨R0, hR0⟩ : ∃ R0, x.rows = R0 := ⟨_, rfl⟩; rw [hR0] at hs; obtain ⟨kk, ii, tt, NA0, nc0, ns0, IA0, ic0, xs0⟩ := x) | (refine LW_call (cap := []) rfl rfl ent32 (write_call (W := _) (x := .mk kk ii tt NA0 nc0 ns0 IA0 ic0 xs0) (Tab.to hT hs) (rdV_of _ [] (by rw [List.append_nil, hR0]; exact hs.drop1)) [] _ [] none 0 (by rw [hxj]; exact hwf) (by rw [hxj]; exact hsm) ((Sat.start _).nilRow 5 1) (by rw [hxj]; simp only [List.length_nil]; omega)) ?_; rintro _ w2 ⟨A, c', rfl, hs2⟩; rw [List.nil_append, hxj] at hs2 ⊢; replace hs := hs.and1 hs2; clear hs2) | refine LW_pure TOK rfl ?_) | (refine isLbin ?_; first | (refine LW_cmp rfl (fun _ => ?_) (fun _ => ?_) <;> try (exfalso; omega))) | refine LW_pure TOK rfl ?_ | (refine LW_alloc TOK hs rfl rfl ?_; clear hs; intro _ w hs)) | (with_reducible first | refine then_n ?_ | refine CW_seq ?_ | refine CW_region ?_ | refine CW_skip ?_ | refine CW_ret ?_ | refine then_r ?_) | refine CW_true rfl ?_ | refine CW_false rfl ?_ | refine RET3 Tryd.results20 rfl rfl rfl ?_))
      all_goals exact ⟨none, 0, rfl, (hs.firsts 0).nilRow 5 1⟩
    · rw [if_neg hbig]
      (repeat' (first | (refine isLW ?_; first | refine LW_nil ?_ | (refine isLload ?_; first | refine LW_loadCAE 0 [.int .i64 kk, .int .i64 ii, sv tt, .slice NA0 ns0.length nc0, .slice IA0 xs0.length ic0] TOK hs rfl rfl rfl rfl (Nat.le_of_ble_eq_true rfl) rfl ?_) | (refine isLstore ?_; first | (refine LW_storeCA 0 TOK hs rfl rfl rfl rfl rfl (oneV _ _ _ _ _ _ _ _ _) rfl (Nat.le_of_ble_eq_true rfl) ?_; clear hs; intro w hs)) | (refine isLcall ?_; first | (refine LW_call (cap := []) rfl rfl ent11 hlc ?_; rintro _ w2 ⟨x, rfl, hxj, hs⟩; replace hxj : x.j = j := hxj; obtain ⟨R0, hR0⟩ : ∃ R0, x.rows = R0 := ⟨_, rfl⟩; rw [hR0] at hs; obtain ⟨kk, ii, tt, NA0, nc0, ns0, IA0, ic0, xs0⟩ := x) | (refine LW_call (cap := []) rfl rfl ent32 (write_call (W := _) (x := .mk kk ii tt NA0 nc0 ns0 IA0 ic0 xs0) (Tab.to hT hs) (rdV_of _ [] (by rw [List.append_nil, hR0]; exact hs.drop1)) [] _ [] none 0 (by rw [hxj]; exact hwf) (by rw [hxj]; exact hsm) ((Sat.start _).nilRow 5 1) (by rw [hxj]; simp only [List.length_nil]; omega)) ?_; rintro _ w2 ⟨A, c', rfl, hs2⟩; rw [List.nil_append, hxj] at hs2 ⊢; replace hs := hs.and1 hs2; clear hs2) | refine LW_pure TOK rfl ?_) | (refine isLbin ?_; first | (refine LW_cmp rfl (fun _ => ?_) (fun _ => ?_) <;> try (exfalso; omega))) | refine LW_pure TOK rfl ?_ | (refine LW_alloc TOK hs rfl rfl ?_; clear hs; intro _ w hs)) | (with_reducible first | refine then_n ?_ | refine CW_seq ?_ | refine CW_region ?_ | refine CW_skip ?_ | refine CW_ret ?_) | refine CW_false rfl ?_ | refine RET3 Tryd.results20 rfl rfl rfl ?_))
      all_goals exact ⟨A, c', rfl, hs.firsts 1⟩
end
end Go.Proofs.YtbmeafeojcgndaaDoor
