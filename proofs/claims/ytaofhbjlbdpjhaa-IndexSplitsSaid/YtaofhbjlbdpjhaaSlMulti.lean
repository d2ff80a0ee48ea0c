/- A container of rows by keys: its cells, and what it stands for. -/
import Derived.Test.YtaofhbjlbdpjhaaSlKeep
set_option linter.unusedVariables false
set_option linter.unusedSimpArgs false
namespace Go.Sl
open Go.RowKit

section maps
variable {κ : Type} [DecidableEq κ]
theorem findV_mid {k1 k2 : List (κ × Value × Nat)} {k : κ} {v : Value} {n : Nat} (h : ∀ p ∈ k1, ¬ k = p.1) : findV (k1 ++ (k, v, n) :: k2) k = some v := by
  induction k1 with
  | nil => simp [findV]
  | cons p k1 ih =>
    have h1 := h p List.mem_cons_self
    have := ih fun q hq => h q (List.mem_cons_of_mem _ hq)
    simp only [findV, List.cons_append, List.find?_cons, h1, decide_false] at this ⊢
    exact this
theorem idxOf_mid {k1 k2 : List (κ × Value × Nat)} {k : κ} {v : Value} {n : Nat} (h : ∀ p ∈ k1, ¬ k = p.1) : idxOf (k1 ++ (k, v, n) :: k2) k = k1.length := by
  induction k1 with
  | nil => simp [idxOf, List.findIdx_cons]
  | cons p k1 ih =>
    have h1 := h p List.mem_cons_self
    have := ih fun q hq => h q (List.mem_cons_of_mem _ hq)
    simp only [idxOf, List.cons_append, List.findIdx_cons, h1, decide_false] at this ⊢
    simp [this]
theorem findV_none {kvs : List (κ × Value × Nat)} {k : κ} (h : ∀ p ∈ kvs, ¬ k = p.1) : findV kvs k = none := by
  simp only [findV, Option.map_eq_none_iff, List.find?_eq_none]
  intro p hp; simpa using h p hp
theorem putV_mid {k1 k2 : List (κ × Value × Nat)} {k : κ} {v v' : Value} {n ck : Nat} (h : ∀ p ∈ k1, ¬ k = p.1) : putV (k1 ++ (k, v, n) :: k2) ck k v' = k1 ++ (k, v', n) :: k2 := by
  unfold putV
  rw [findV_mid h, idxOf_mid h]
  simp only [Option.isSome_some, if_true]
  clear h
  induction k1 with
  | nil => rfl
  | cons p k1 ih => simp only [List.cons_append, List.length_cons, List.modify_succ_cons, ih]
theorem putCk_mid {k1 k2 : List (κ × Value × Nat)} {k : κ} {v : Value} {n ck : Nat} (h : ∀ p ∈ k1, ¬ k = p.1) : putCk (k1 ++ (k, v, n) :: k2) ck k = ck := by
  unfold putCk; rw [findV_mid h]; rfl
theorem putV_new {kvs : List (κ × Value × Nat)} {k : κ} {v : Value} {ck : Nat} (h : ∀ p ∈ kvs, ¬ k = p.1) : putV kvs ck k v = kvs ++ [(k, v, ck)] := by
  unfold putV; rw [findV_none h]; rfl
theorem putCk_new {kvs : List (κ × Value × Nat)} {k : κ} {ck : Nat} (h : ∀ p ∈ kvs, ¬ k = p.1) : putCk kvs ck k = ck + 1 := by
  unfold putCk; rw [findV_none h]; rfl
theorem delV_mid {k1 k2 : List (κ × Value × Nat)} {k : κ} {v : Value} {n : Nat} (h : ∀ p ∈ k1, ¬ k = p.1) : delV (k1 ++ (k, v, n) :: k2) k = k1 ++ k2 := by
  unfold delV
  rw [findV_mid h, idxOf_mid h]
  simp [List.eraseIdx_append_of_length_le]
theorem delV_none {kvs : List (κ × Value × Nat)} {k : κ} (h : ∀ p ∈ kvs, ¬ k = p.1) : delV kvs k = kvs := by
  unfold delV; rw [findV_none h]; rfl
end maps

structure MEnt (α : Type) where
  key : Int
  A : Option Addr
  c : Nat
  born : Nat
  vals : List α
structure Mu (α : Type) where
  m : Nat
  b : Nat
  ck : Nat
  E : List (MEnt α)
  R : List (MEnt α)
section
variable {α : Type}
def rowsE (enc : α → List Value) (e : TypeId) (l : List (MEnt α)) : List HProp := l.map fun x => RowOf enc e 1 x.A x.c x.vals
def kvsE (l : List (MEnt α)) : List (Int × Value × Nat) := l.map fun x => (x.key, .slice x.A x.vals.length x.c, x.born)
def totE (l : List (MEnt α)) : Nat := (l.map (·.vals.length)).sum
def Mu.L (enc : α → List Value) (e st : TypeId) (mu : Mu α) : List HProp :=
  [Cl mu.m [.map (some mu.b), .int .i64 (totE mu.E)] st, Mp keyI mu.b (kvsE mu.E) mu.ck, Big (rowsE enc e mu.E), Big (rowsE enc e mu.R)]
def getK (l : List (Int × α)) (k : Int) : List α := (l.filter fun p => decide (p.1 = k)).map (·.2)
def dropKey (l : List (Int × α)) (k : Int) : List (Int × α) := l.filter fun p => decide (¬ p.1 = k)
/-- What the container stands for. -/
structure Mu.Of (mu : Mu α) (l : List (Int × α)) : Prop where
  keys : (mu.E.map (·.key)).Nodup
  borns : (mu.E.map (·.born)).Nodup
  lt : ∀ e ∈ mu.E, e.born < mu.ck
  ne : ∀ e ∈ mu.E, e.vals ≠ []
  vals : ∀ e ∈ mu.E, e.vals = getK l e.key
  all : ∀ p ∈ l, ∃ e ∈ mu.E, e.key = p.1
  tot : totE mu.E = l.length
/-- Rows that were handed out once are there still, longer at most. -/
def Mu.grows (mu mu' : Mu α) : Prop := ∀ e ∈ mu.E ++ mu.R, ∃ e' ∈ mu'.E ++ mu'.R, e'.A = e.A ∧ e.vals <+: e'.vals
theorem Mu.grows.refl (mu : Mu α) : mu.grows mu := fun e he => ⟨e, he, rfl, List.prefix_refl _⟩
theorem Mu.grows.trans {a b c : Mu α} (h : a.grows b) (k : b.grows c) : a.grows c := fun e he => by
  obtain ⟨e', h1, h2, h3⟩ := h e he
  obtain ⟨e'', k1, k2, k3⟩ := k e' h1
  exact ⟨e'', k1, k2.trans h2, h3.trans k3⟩
theorem getK_append (l : List (Int × α)) (k : Int) (p : Int × α) : getK (l ++ [p]) k = if p.1 = k then getK l k ++ [p.2] else getK l k := by
  unfold getK
  by_cases h : p.1 = k <;> simp [h]
theorem getK_len (l : List (Int × α)) (k : Int) : (getK l k).length + (dropKey l k).length = l.length := by
  unfold getK dropKey
  induction l with
  | nil => rfl
  | cons p l ih =>
    by_cases h : p.1 = k <;> simp [h] at ih ⊢ <;> omega
theorem getK_drop (l : List (Int × α)) (k j : Int) : getK (dropKey l k) j = if j = k then [] else getK l j := by
  unfold getK dropKey
  rw [List.filter_filter]
  split
  · rename_i h; subst h
    have : l.filter (fun p => decide (p.1 = j) && decide (¬ p.1 = j)) = [] := by
      rw [List.filter_eq_nil_iff]; intro p _; simp
    rw [this]; rfl
  · rename_i h
    congr 1
    apply List.filter_congr
    intro p _
    by_cases h2 : p.1 = j <;> simp [h2, h]
theorem getK_nil_of {l : List (Int × α)} {k : Int} (h : ∀ p ∈ l, ¬ p.1 = k) : getK l k = [] := by
  unfold getK
  have : l.filter (fun p => decide (p.1 = k)) = [] := by rw [List.filter_eq_nil_iff]; intro p hp; simpa using h p hp
  rw [this]; rfl
/-- The entry of a key, if there is one. -/
theorem Mu.Of.find {mu : Mu α} {l : List (Int × α)} (h : mu.Of l) (k : Int) :
    (∃ E1 e E2, mu.E = E1 ++ e :: E2 ∧ e.key = k ∧ (∀ x ∈ E1, ¬ k = x.key) ∧ (∀ x ∈ E2, ¬ k = x.key) ∧ e.vals = getK l k) ∨ ((∀ x ∈ mu.E, ¬ k = x.key) ∧ getK l k = []) := by
  by_cases hx : ∃ e ∈ mu.E, e.key = k
  · obtain ⟨e, he, rfl⟩ := hx
    obtain ⟨E1, E2, hE⟩ := List.append_of_mem he
    refine .inl ⟨E1, e, E2, hE, rfl, ?_, ?_, h.vals e he⟩
    · intro x hx hk
      have := h.keys
      rw [hE] at this
      simp only [List.map_append, List.map_cons, List.nodup_append, List.nodup_cons] at this
      exact this.2.2 _ (List.mem_map_of_mem hx) _ List.mem_cons_self hk.symm
    · intro x hx hk
      have := h.keys
      rw [hE] at this
      simp only [List.map_append, List.map_cons, List.nodup_append, List.nodup_cons] at this
      exact this.2.1.1 (hk ▸ List.mem_map_of_mem hx)
  · have h2 : ∀ x ∈ mu.E, ¬ k = x.key := fun x hx' hk => hx ⟨x, hx', hk.symm⟩
    refine .inr ⟨h2, getK_nil_of fun p hp hk => ?_⟩
    obtain ⟨e, he, hek⟩ := h.all p hp
    exact h2 e he (by rw [hek, hk])
theorem kvsE_append (a b : List (MEnt α)) : kvsE (a ++ b) = kvsE a ++ kvsE b := by simp [kvsE]
theorem rowsE_append (enc : α → List Value) (e : TypeId) (a b : List (MEnt α)) : rowsE enc e (a ++ b) = rowsE enc e a ++ rowsE enc e b := by simp [rowsE]
theorem totE_mid (E1 E2 : List (MEnt α)) (e : MEnt α) : totE (E1 ++ e :: E2) = totE (E1 ++ E2) + e.vals.length := by
  simp [totE, List.map_append, List.sum_append]; omega
theorem kvsE_keys {E : List (MEnt α)} {k : Int} (h : ∀ x ∈ E, ¬ k = x.key) : ∀ p ∈ kvsE E, ¬ k = p.1 := by
  intro p hp
  simp only [kvsE, List.mem_map] at hp
  obtain ⟨x, hx, rfl⟩ := hp
  exact h x hx
/-- A value more at a key. -/
theorem Mu.Of.add_old {mu : Mu α} {l : List (Int × α)} (h : mu.Of l) {E1 E2 : List (MEnt α)} {e : MEnt α} (hE : mu.E = E1 ++ e :: E2) (h1 : ∀ x ∈ E1, ¬ e.key = x.key) (h2 : ∀ x ∈ E2, ¬ e.key = x.key) (v : α) (A' : Option Addr) (c' : Nat) (R' : List (MEnt α)) :
    Mu.Of { mu with E := E1 ++ { e with A := A', c := c', vals := e.vals ++ [v] } :: E2, R := R' } (l ++ [(e.key, v)]) := by
  have hk := h.keys; have hb := h.borns; have hl := h.lt; have hn := h.ne; have hv := h.vals; have ha := h.all; have ht := h.tot
  rw [hE] at hk hb hl hn hv ha ht
  refine ⟨by simpa using hk, by simpa using hb, ?_, ?_, ?_, ?_, ?_⟩
  · intro x hx
    simp only [List.mem_append, List.mem_cons] at hx
    rcases hx with hx | rfl | hx
    · exact hl x (by simp [hx])
    · exact hl e (by simp)
    · exact hl x (by simp [hx])
  · intro x hx
    simp only [List.mem_append, List.mem_cons] at hx
    rcases hx with hx | rfl | hx
    · exact hn x (by simp [hx])
    · simp
    · exact hn x (by simp [hx])
  · intro x hx
    simp only [List.mem_append, List.mem_cons] at hx
    rw [getK_append]
    rcases hx with hx | rfl | hx
    · rw [if_neg (h1 x hx)]; exact hv x (by simp [hx])
    · rw [if_pos rfl]; simp only; rw [hv e (by simp)]
    · rw [if_neg (h2 x hx)]; exact hv x (by simp [hx])
  · intro p hp
    rw [List.mem_append, List.mem_singleton] at hp
    rcases hp with hp | rfl
    · obtain ⟨x, hx, hxk⟩ := ha p hp
      simp only [List.mem_append, List.mem_cons] at hx ⊢
      rcases hx with hx | rfl | hx
      · exact ⟨x, .inl hx, hxk⟩
      · exact ⟨_, .inr (.inl rfl), hxk⟩
      · exact ⟨x, .inr (.inr hx), hxk⟩
    · exact ⟨{ e with A := A', c := c', vals := e.vals ++ [v] }, by simp, rfl⟩
  · simp only
    rw [totE_mid] at ht ⊢
    simp; omega
theorem Mu.Of.add_new {mu : Mu α} {l : List (Int × α)} (h : mu.Of l) {k : Int} (h1 : ∀ x ∈ mu.E, ¬ k = x.key) (hg : getK l k = []) (v : α) (A' : Option Addr) (c' : Nat) (R' : List (MEnt α)) :
    Mu.Of { mu with ck := mu.ck + 1, E := mu.E ++ [⟨k, A', c', mu.ck, [v]⟩], R := R' } (l ++ [(k, v)]) := by
  refine ⟨?_, ?_, ?_, ?_, ?_, ?_, ?_⟩
  · simp only [List.map_append, List.map_cons, List.map_nil, List.nodup_append]
    refine ⟨h.keys, by simp, ?_⟩
    intro a ha b hb hab
    simp at hb; subst hb; subst hab
    obtain ⟨x, hx, hxk⟩ := List.mem_map.1 ha
    exact h1 x hx hxk.symm
  · simp only [List.map_append, List.map_cons, List.map_nil, List.nodup_append]
    refine ⟨h.borns, by simp, ?_⟩
    intro a ha b hb hab
    simp at hb; subst hb; subst hab
    obtain ⟨x, hx, hxk⟩ := List.mem_map.1 ha
    have := h.lt x hx
    omega
  · intro x hx
    rw [List.mem_append, List.mem_singleton] at hx
    rcases hx with hx | rfl
    · have := h.lt x hx; simp only; omega
    · simp
  · intro x hx
    rw [List.mem_append, List.mem_singleton] at hx
    rcases hx with hx | rfl
    · exact h.ne x hx
    · simp
  · intro x hx
    rw [List.mem_append, List.mem_singleton] at hx
    rw [getK_append]
    rcases hx with hx | rfl
    · rw [if_neg (h1 x hx)]; exact h.vals x hx
    · rw [if_pos rfl, hg]; rfl
  · intro p hp
    rw [List.mem_append, List.mem_singleton] at hp
    rcases hp with hp | rfl
    · obtain ⟨x, hx, hxk⟩ := h.all p hp
      exact ⟨x, List.mem_append_left _ hx, hxk⟩
    · exact ⟨_, List.mem_append_right _ (List.mem_singleton.2 rfl), rfl⟩
  · have := h.tot
    simp only
    rw [totE_mid, List.append_nil, this]; simp
/-- A key fewer. -/
theorem Mu.Of.del_old {mu : Mu α} {l : List (Int × α)} (h : mu.Of l) {E1 E2 : List (MEnt α)} {e : MEnt α} (hE : mu.E = E1 ++ e :: E2) (h1 : ∀ x ∈ E1, ¬ e.key = x.key) (h2 : ∀ x ∈ E2, ¬ e.key = x.key) (R' : List (MEnt α)) :
    Mu.Of { mu with E := E1 ++ E2, R := R' } (dropKey l e.key) := by
  have hk := h.keys; have hb := h.borns; have hl := h.lt; have hn := h.ne; have hv := h.vals; have ha := h.all; have ht := h.tot
  rw [hE] at hk hb hl hn hv ha ht
  have hsub : List.Sublist (E1 ++ E2) (E1 ++ e :: E2) := List.Sublist.append (List.Sublist.refl _) (List.sublist_cons_self _ _)
  have hm : ∀ x ∈ E1 ++ E2, x ∈ E1 ++ e :: E2 := fun x hx => hsub.subset hx
  have hne : ∀ x ∈ E1 ++ E2, ¬ x.key = e.key := fun x hx hk => by
    rcases List.mem_append.1 hx with hx | hx
    · exact h1 x hx hk.symm
    · exact h2 x hx hk.symm
  refine ⟨hk.sublist (hsub.map _), hb.sublist (hsub.map _), fun x hx => hl x (hm x hx), fun x hx => hn x (hm x hx), ?_, ?_, ?_⟩
  · intro x hx
    rw [getK_drop, if_neg (hne x hx)]
    exact hv x (hm x hx)
  · intro p hp
    simp only [dropKey, List.mem_filter, decide_eq_true_eq] at hp
    obtain ⟨x, hx, hxk⟩ := ha p hp.1
    refine ⟨x, ?_, hxk⟩
    simp only [List.mem_append, List.mem_cons] at hx ⊢
    rcases hx with hx | rfl | hx
    · exact .inl hx
    · exact (hp.2 hxk.symm).elim
    · exact .inr hx
  · rw [totE_mid, hv e (by simp)] at ht
    have := getK_len l e.key
    simp only; omega
theorem dropKey_none {l : List (Int × α)} {k : Int} (h : getK l k = []) : dropKey l k = l := by
  have := getK_len l k
  rw [h] at this
  exact (List.filter_sublist).eq_of_length (by simpa [dropKey] using this)
end
section
variable {W w : World} {L X Y : List HProp} {p : HProp} {l1 l2 : List HProp}
theorem perm_open {β : Type} (q p : β) (X Y l : List β) : (X ++ q :: Y).Perm (q :: (X ++ Y)) := List.perm_middle
theorem Sat.openBig (h : Sat W w (X ++ Big (l1 ++ p :: l2) :: Y)) : Sat W w (p :: (X ++ Big (l1 ++ l2) :: Y)) := by
  have h1 := (h.perm List.perm_middle).big
  have h2 : Sat W w ((l1 ++ l2) ++ (p :: (X ++ Y))) := h1.perm ((List.Perm.append (List.perm_middle (l₁ := l1) (l₂ := l2) (a := p)) (List.Perm.refl (X ++ Y))).trans List.perm_middle.symm)
  exact (h2.mkBig.picks [1]).perm (List.Perm.cons _ List.perm_middle.symm)
theorem Sat.closeBig (h : Sat W w (p :: (X ++ Big (l1 ++ l2) :: Y))) : Sat W w (X ++ Big (l1 ++ p :: l2) :: Y) := by
  have h0 : Sat W w (Big (l1 ++ l2) :: (p :: (X ++ Y))) := h.perm ((List.Perm.cons _ List.perm_middle).trans (List.Perm.swap _ _ _))
  have h1 := h0.big
  have h2 : Sat W w ((l1 ++ p :: l2) ++ (X ++ Y)) := h1.perm (by
    refine (List.perm_middle (l₁ := l1 ++ l2) (l₂ := X ++ Y) (a := p)).trans ?_
    rw [← List.cons_append]
    exact List.Perm.append List.perm_middle.symm (List.Perm.refl _))
  exact h2.mkBig.perm List.perm_middle.symm
theorem Sat.big2 {K R : List HProp} (h : Sat W w (Big K :: Big R :: Y)) : Sat W w (Big (K ++ R) :: Y) := by
  have h1 := ((h.picks [1]).big)
  have h2 : Sat W w (Big K :: (R ++ Y)) := h1.perm List.perm_middle
  have h3 := h2.big
  exact Sat.mkBig (by rw [List.append_assoc]; exact h3)
/-- The container is put together again. -/
theorem Sat.closeMu {x1 x2 : HProp} {K l1 l2 R : List HProp} (h : Sat W w (p :: Big K :: ([x1, x2] ++ Big (l1 ++ l2) :: Big R :: L))) : Sat W w ([x1, x2] ++ Big (l1 ++ p :: l2) :: Big (K ++ R) :: L) := by
  have h1 : Sat W w (Big (K ++ R) :: p :: x1 :: x2 :: Big (l1 ++ l2) :: L) := (h.picks [1, 4]).big2
  exact Sat.closeBig (X := [x1, x2]) (h1.picks [1, 1, 1, 1])
end
section
variable {α : Type} {W w : World} {L : List HProp}
/-- A row out of a container, as it may be read. -/
theorem Sat.muRd {enc : α → List Value} {e st : TypeId} {mu : Mu α} (hs : Sat W w (mu.L enc e st ++ L)) {x : MEnt α} (hx : x ∈ mu.E ++ mu.R) : Rd enc w x.A x.vals := by
  rcases List.mem_append.1 hx with hx | hx
  · obtain ⟨E1, E2, hE⟩ := List.append_of_mem hx
    have h1 : Sat W w ([Cl mu.m [.map (some mu.b), .int .i64 (totE mu.E)] st, Mp keyI mu.b (kvsE mu.E) mu.ck] ++ Big (rowsE enc e E1 ++ RowOf enc e 1 x.A x.c x.vals :: rowsE enc e E2) :: (Big (rowsE enc e mu.R) :: L)) := by
      have e1 : rowsE enc e mu.E = rowsE enc e E1 ++ RowOf enc e 1 x.A x.c x.vals :: rowsE enc e E2 := by rw [hE]; simp [rowsE]
      rw [← e1]; exact hs
    exact h1.openBig.rd 0 rfl
  · obtain ⟨E1, E2, hE⟩ := List.append_of_mem hx
    have h1 : Sat W w ([Cl mu.m [.map (some mu.b), .int .i64 (totE mu.E)] st, Mp keyI mu.b (kvsE mu.E) mu.ck, Big (rowsE enc e mu.E)] ++ Big (rowsE enc e E1 ++ RowOf enc e 1 x.A x.c x.vals :: rowsE enc e E2) :: L) := by
      have e1 : rowsE enc e mu.R = rowsE enc e E1 ++ RowOf enc e 1 x.A x.c x.vals :: rowsE enc e E2 := by rw [hE]; simp [rowsE]
      rw [← e1]; exact hs
    exact h1.openBig.rd 0 rfl
theorem Rd.ahead {enc : α → List Value} {A : Option Addr} {xs ys : List α} (h : Rd enc w A ys) (hp : xs <+: ys) : Rd enc w A xs := by
  obtain ⟨t, rfl⟩ := hp
  have := h.take xs.length
  rwa [List.take_left] at this
/-- A row that was handed out once, as it may be read later. -/
theorem Sat.muOld {enc : α → List Value} {e st : TypeId} {mu mu' : Mu α} (hs : Sat W w (mu'.L enc e st ++ L)) (hg : mu.grows mu') {x : MEnt α} (hx : x ∈ mu.E ++ mu.R) : Rd enc w x.A x.vals := by
  obtain ⟨y, hy, h1, h2⟩ := hg x hx
  have := hs.muRd hy
  rw [h1] at this
  exact this.ahead h2
end
end Go.Sl
