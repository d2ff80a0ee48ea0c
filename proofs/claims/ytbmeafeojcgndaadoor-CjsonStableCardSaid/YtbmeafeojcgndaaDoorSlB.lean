/- Generic texts, one behind the other. -/
import Derived.Test.YtbmeafeojcgndaaDoorSlA
import Derived.ProofKit
import Derived.ChangeSlices
import Derived.Deep.SlicePairs
import Derived.OpenShut
import Derived.RangeFuncNested
set_option linter.unusedVariables false
set_option linter.unusedSimpArgs false
/- append, with what becomes of the row that it leaves. -/
namespace Go.Sl
open Go.RowKit
section
variable {W w : World} {L R : List HProp} {e : TypeId} {sz n c : Nat} {A : Option Addr} {cells : List Value}
/-- A row is lengthened: where it lay, or anew, and then what it leaves stays. -/
theorem Sat.rowKeep {w' : World} (hs : Sat W w (Row e sz A n c cells :: R)) {n' : Nat} {v' : Value} {cells' : List Value} (hown : OwnR w' W.heap.size e sz v' n' cells')
    (hg : w.grownBy w' (Value.slice A n c).ownBlock) (hat : v'.ownBlock = (Value.slice A n c).ownBlock ∨ v'.ownBlock = some w.heap.size ∧ w.grownBy w' none) :
    ∃ A' c' K, v' = .slice A' n' c' ∧ ((K = [] ∧ A' = A) ∨ K = [Row e sz A n c cells]) ∧ Sat W w' (Row e sz A' n' c' cells' :: Big K :: R) := by
  rcases hat with hat | ⟨hat, hg2⟩
  · obtain ⟨A', c', h1, h2⟩ := hs.rowTurn hown hg (.inl hat)
    refine ⟨A', c', [], h1, .inl ⟨rfl, ?_⟩, ?_⟩
    · subst h1
      obtain ⟨hl, hv⟩ := hown
      have hrow := hs.row0
      obtain ⟨hl2, hv2⟩ := hrow
      rcases hv with ⟨h3, h4⟩ | ⟨g, cap, cur, h3, _⟩ <;> rcases hv2 with ⟨h5, h6⟩ | ⟨g', cap', cur', h5, _⟩ <;> cases h3 <;> cases h5 <;> simp [Value.ownBlock] at hat ⊢
      exact hat
    · exact (Sat.perm h2 (List.Perm.refl _)).imp fun f hf => by
        obtain ⟨a1, a2, a3, a4, a5, a6, a7⟩ := hf
        exact ⟨a1, a2, a3, a4, a5, a6, fun _ => none, a2, fun _ => .inl rfl, fun _ _ h => (by cases h), Frag.le.refl _, trivial, a7⟩
  · obtain ⟨A', c', h1, h2⟩ := (hs.nilRow e sz).rowTurn hown hg2 (.inr hat)
    exact ⟨A', c', [Row e sz A n c cells], h1, .inr rfl, (h2.picks [1]).imp fun f hf => by
      have h3 : sepL ([Row e sz A n c cells] ++ (Row e sz A' n' c' cells' :: R)) f := hf
      have h4 := sepL_big.2 h3
      exact sepL_swap h4⟩
end
section steps
variable {r : Option Nat} {P : Program} {T : List (Nat × TI)} {ops : Array Oper} {Q : Exit → Act → World → Prop} {rest : List Oper} {n : Nat} {s : List (Nat × Value)} {τ : Nat → Value} {ds : List Deferred} {w : World}
  {ty : TypeId} {ps : String} {af : Array Edge} {d : Nat} {W : World} {L : List HProp} {α : Type} {e' : TypeId}
/-- append of one element onto a row of one's own, of which what is left behind is kept. -/
theorem LW_appendK {enc : α → List Value} {sz : Nat} (hE : (∀ x, (enc x).length = sz) ∧ ∀ x, ∀ u ∈ enc x, u.oneCell' = true) {xs : List α} {z : α} {A : Option Addr} {c bx : Nat} {cs : List Value} {x y : Operand} {t e : TypeId} {ti te : TI} (hs : Sat W w (Cl bx cs e' :: RowOf enc e sz A c xs :: L)) (hT : TyOK P T) (hx : EVO n s x = some (.slice A xs.length c)) (hy : EVO n s y = some (.slice (some ⟨bx, 0, none⟩) 1 1)) (hcs : enc z = cs)
    (ht : lookT T t = some ti) (hu : ti.u = .slice e) (he : lookT T e = some te) (hsz : te.size = sz) (hpos : Nat.ble 1 te.size = true) (hzc : te.zero.cells.size = te.size)
    (hlen : xs.length + 1 ≤ maxLen) (hby : (xs.length + 1) * te.bytes ≤ 140737488355328)
    (k : ∀ A' c' K w', ((K = [] ∧ A' = A) ∨ K = [RowOf enc e sz A c xs]) → Sat W w' (RowOf enc e sz A' c' (xs ++ [z]) :: Big K :: L) → LW r P ops Q rest (FR n ((d, .slice A' (xs ++ [z]).length c') :: s) τ ds) w') :
    LW r P ops Q (⟨some d, .call { callee := .builtin .append, args := #[x, y], argTypes := #[t, t] }, ty, ps, af, none⟩ :: rest) (FR n s τ ds) w := by
  have hr : Rd enc w (some ⟨bx, 0, none⟩) [z] := hs.rdC (t := e') 0 (by simp [getA, hcs])
  have hs' := hs.drop1
  have hown := hs'.row0
  obtain ⟨hu1, f, hf1, hf2, hf3, hf4⟩ := ty_info (hT _ _ ht)
  obtain ⟨hu2, fe, hfe, hfe2, hfe3, hfe4⟩ := ty_info (hT _ _ he)
  rw [hu] at hu1
  have hpos' : 0 < sz := by rw [← hsz]; exact Nat.le_of_ble_eq_true hpos
  rcases hr with hr | ⟨b, o, hB, hr⟩
  · cases hr
  cases hB
  obtain ⟨v', w', hrun, hown', hg, hat⟩ := run_appendR (P := P) w W.heap.size t ty e fe te.zero sz te.bytes hu1 hfe hfe2 (by rw [hfe3, hsz]) hfe4 (by rw [hzc, hsz]) hpos' (.slice A xs.length c) xs.length (xs.flatMap enc) hown ⟨bx, 0, none⟩ 1 1 ([z].flatMap enc) (flat_len hE.1 [z])
        (fun j u h => by
          have e : (⟨bx, 0, none⟩ : Addr).add j = ⟨bx, 0 + j, none⟩ := by unfold Addr.add; split <;> simp_all
          rw [e]; exact hr j u h) (fun u h => by obtain ⟨x, _, hx⟩ := List.mem_flatMap.1 h; exact hE.2 x u hx) hlen hby hs.size
  obtain ⟨A', c', K, rfl, hK, hs2⟩ := hs'.rowKeep hown' hg hat
  have hcat : xs.flatMap enc ++ [z].flatMap enc = (xs ++ [z]).flatMap enc := by simp
  have hln : xs.length + 1 = (xs ++ [z]).length := by simp
  rw [hcat, hln] at hs2
  rw [hln] at hrun
  refine LW_run (v := .slice A' (xs ++ [z]).length c') (w' := w') rfl (fun c e => by cases e) ?_ (by rw [put_FR]; exact k A' c' K w' hK hs2)
  show Sem.run P (do let d ← resolve (FR n s τ ds).eval { callee := .builtin .append, args := #[x, y], argTypes := #[t, t] } ty; invoke d.target d.args) w = _
  have e1 : (#[x, y] : Array Operand).map (FR n s τ ds).eval = #[.slice A xs.length c, .slice (some ⟨bx, 0, none⟩) 1 1] := by simp [eval_of hx, eval_of hy]
  simp only [resolve, e1, Sem.run_bind, Sem.run_pure, Result.andThen, invoke, builtin, hrun]
end steps
end Go.Sl

/- A container of rows by keys: its cells, and what it stands for. -/
namespace Go.Sl
open Go.RowKit

section maps
variable {κ : Type} [DecidableEq κ]
theorem findV_mid {k1 k2 : List (κ × Value × Nat)} {k : κ} {v : Value} {n : Nat} (h : ∀ p ∈ k1, ¬ k = p.1) : findV (k1 ++ (k, v, n) :: k2) k = some v := by
  induction k1 with
  | nil => simp [findV]
  | cons p k1 ih =>
    have h1 := h p List.mem_cons_self
    have := ih fun q hq => h q (List.mem_cons_of_mem _ hq)
    simp only [findV, List.cons_append, List.find?_cons, h1, decide_false] at this ⊢
    exact this
theorem idxOf_mid {k1 k2 : List (κ × Value × Nat)} {k : κ} {v : Value} {n : Nat} (h : ∀ p ∈ k1, ¬ k = p.1) : idxOf (k1 ++ (k, v, n) :: k2) k = k1.length := by
  induction k1 with
  | nil => simp [idxOf, List.findIdx_cons]
  | cons p k1 ih =>
    have h1 := h p List.mem_cons_self
    have := ih fun q hq => h q (List.mem_cons_of_mem _ hq)
    simp only [idxOf, List.cons_append, List.findIdx_cons, h1, decide_false] at this ⊢
    simp [this]
theorem findV_none {kvs : List (κ × Value × Nat)} {k : κ} (h : ∀ p ∈ kvs, ¬ k = p.1) : findV kvs k = none := by
  simp only [findV, Option.map_eq_none_iff, List.find?_eq_none]
  intro p hp; simpa using h p hp
theorem putV_mid {k1 k2 : List (κ × Value × Nat)} {k : κ} {v v' : Value} {n ck : Nat} (h : ∀ p ∈ k1, ¬ k = p.1) : putV (k1 ++ (k, v, n) :: k2) ck k v' = k1 ++ (k, v', n) :: k2 := by
  unfold putV
  rw [findV_mid h, idxOf_mid h]
  simp only [Option.isSome_some, if_true]
  clear h
  induction k1 with
  | nil => rfl
  | cons p k1 ih => simp only [List.cons_append, List.length_cons, List.modify_succ_cons, ih]
theorem putCk_mid {k1 k2 : List (κ × Value × Nat)} {k : κ} {v : Value} {n ck : Nat} (h : ∀ p ∈ k1, ¬ k = p.1) : putCk (k1 ++ (k, v, n) :: k2) ck k = ck := by
  unfold putCk; rw [findV_mid h]; rfl
theorem putV_new {kvs : List (κ × Value × Nat)} {k : κ} {v : Value} {ck : Nat} (h : ∀ p ∈ kvs, ¬ k = p.1) : putV kvs ck k v = kvs ++ [(k, v, ck)] := by
  unfold putV; rw [findV_none h]; rfl
theorem putCk_new {kvs : List (κ × Value × Nat)} {k : κ} {ck : Nat} (h : ∀ p ∈ kvs, ¬ k = p.1) : putCk kvs ck k = ck + 1 := by
  unfold putCk; rw [findV_none h]; rfl
theorem delV_mid {k1 k2 : List (κ × Value × Nat)} {k : κ} {v : Value} {n : Nat} (h : ∀ p ∈ k1, ¬ k = p.1) : delV (k1 ++ (k, v, n) :: k2) k = k1 ++ k2 := by
  unfold delV
  rw [findV_mid h, idxOf_mid h]
  simp [List.eraseIdx_append_of_length_le]
theorem delV_none {kvs : List (κ × Value × Nat)} {k : κ} (h : ∀ p ∈ kvs, ¬ k = p.1) : delV kvs k = kvs := by
  unfold delV; rw [findV_none h]; rfl
end maps

structure MEnt (α : Type) where
  key : Int
  A : Option Addr
  c : Nat
  born : Nat
  vals : List α
structure Mu (α : Type) where
  m : Nat
  b : Nat
  ck : Nat
  E : List (MEnt α)
  R : List (MEnt α)
section
variable {α : Type}
def rowsE (enc : α → List Value) (e : TypeId) (l : List (MEnt α)) : List HProp := l.map fun x => RowOf enc e 1 x.A x.c x.vals
def kvsE (l : List (MEnt α)) : List (Int × Value × Nat) := l.map fun x => (x.key, .slice x.A x.vals.length x.c, x.born)
def totE (l : List (MEnt α)) : Nat := (l.map (·.vals.length)).sum
def Mu.L (enc : α → List Value) (e st : TypeId) (mu : Mu α) : List HProp :=
  [Cl mu.m [.map (some mu.b), .int .i64 (totE mu.E)] st, Mp keyI mu.b (kvsE mu.E) mu.ck, Big (rowsE enc e mu.E), Big (rowsE enc e mu.R)]
def getK (l : List (Int × α)) (k : Int) : List α := (l.filter fun p => decide (p.1 = k)).map (·.2)
def dropKey (l : List (Int × α)) (k : Int) : List (Int × α) := l.filter fun p => decide (¬ p.1 = k)
/-- What the container stands for. -/
structure Mu.Of (mu : Mu α) (l : List (Int × α)) : Prop where
  keys : (mu.E.map (·.key)).Nodup
  borns : (mu.E.map (·.born)).Nodup
  lt : ∀ e ∈ mu.E, e.born < mu.ck
  ne : ∀ e ∈ mu.E, e.vals ≠ []
  vals : ∀ e ∈ mu.E, e.vals = getK l e.key
  all : ∀ p ∈ l, ∃ e ∈ mu.E, e.key = p.1
  tot : totE mu.E = l.length
/-- Rows that were handed out once are there still, longer at most. -/
def Mu.grows (mu mu' : Mu α) : Prop := ∀ e ∈ mu.E ++ mu.R, ∃ e' ∈ mu'.E ++ mu'.R, e'.A = e.A ∧ e.vals <+: e'.vals
theorem Mu.grows.refl (mu : Mu α) : mu.grows mu := fun e he => ⟨e, he, rfl, List.prefix_refl _⟩
theorem Mu.grows.trans {a b c : Mu α} (h : a.grows b) (k : b.grows c) : a.grows c := fun e he => by
  obtain ⟨e', h1, h2, h3⟩ := h e he
  obtain ⟨e'', k1, k2, k3⟩ := k e' h1
  exact ⟨e'', k1, k2.trans h2, h3.trans k3⟩
theorem getK_append (l : List (Int × α)) (k : Int) (p : Int × α) : getK (l ++ [p]) k = if p.1 = k then getK l k ++ [p.2] else getK l k := by
  unfold getK
  by_cases h : p.1 = k <;> simp [h]
theorem getK_len (l : List (Int × α)) (k : Int) : (getK l k).length + (dropKey l k).length = l.length := by
  unfold getK dropKey
  induction l with
  | nil => rfl
  | cons p l ih =>
    by_cases h : p.1 = k <;> simp [h] at ih ⊢ <;> omega
theorem getK_drop (l : List (Int × α)) (k j : Int) : getK (dropKey l k) j = if j = k then [] else getK l j := by
  unfold getK dropKey
  rw [List.filter_filter]
  split
  · rename_i h; subst h
    have : l.filter (fun p => decide (p.1 = j) && decide (¬ p.1 = j)) = [] := by
      rw [List.filter_eq_nil_iff]; intro p _; simp
    rw [this]; rfl
  · rename_i h
    congr 1
    apply List.filter_congr
    intro p _
    by_cases h2 : p.1 = j <;> simp [h2, h]
theorem getK_nil_of {l : List (Int × α)} {k : Int} (h : ∀ p ∈ l, ¬ p.1 = k) : getK l k = [] := by
  unfold getK
  have : l.filter (fun p => decide (p.1 = k)) = [] := by rw [List.filter_eq_nil_iff]; intro p hp; simpa using h p hp
  rw [this]; rfl
/-- The entry of a key, if there is one. -/
theorem Mu.Of.find {mu : Mu α} {l : List (Int × α)} (h : mu.Of l) (k : Int) :
    (∃ E1 e E2, mu.E = E1 ++ e :: E2 ∧ e.key = k ∧ (∀ x ∈ E1, ¬ k = x.key) ∧ (∀ x ∈ E2, ¬ k = x.key) ∧ e.vals = getK l k) ∨ ((∀ x ∈ mu.E, ¬ k = x.key) ∧ getK l k = []) := by
  by_cases hx : ∃ e ∈ mu.E, e.key = k
  · obtain ⟨e, he, rfl⟩ := hx
    obtain ⟨E1, E2, hE⟩ := List.append_of_mem he
    refine .inl ⟨E1, e, E2, hE, rfl, ?_, ?_, h.vals e he⟩
    · intro x hx hk
      have := h.keys
      rw [hE] at this
      simp only [List.map_append, List.map_cons, List.nodup_append, List.nodup_cons] at this
      exact this.2.2 _ (List.mem_map_of_mem hx) _ List.mem_cons_self hk.symm
    · intro x hx hk
      have := h.keys
      rw [hE] at this
      simp only [List.map_append, List.map_cons, List.nodup_append, List.nodup_cons] at this
      exact this.2.1.1 (hk ▸ List.mem_map_of_mem hx)
  · have h2 : ∀ x ∈ mu.E, ¬ k = x.key := fun x hx' hk => hx ⟨x, hx', hk.symm⟩
    refine .inr ⟨h2, getK_nil_of fun p hp hk => ?_⟩
    obtain ⟨e, he, hek⟩ := h.all p hp
    exact h2 e he (by rw [hek, hk])
theorem kvsE_append (a b : List (MEnt α)) : kvsE (a ++ b) = kvsE a ++ kvsE b := by simp [kvsE]
theorem rowsE_append (enc : α → List Value) (e : TypeId) (a b : List (MEnt α)) : rowsE enc e (a ++ b) = rowsE enc e a ++ rowsE enc e b := by simp [rowsE]
theorem totE_mid (E1 E2 : List (MEnt α)) (e : MEnt α) : totE (E1 ++ e :: E2) = totE (E1 ++ E2) + e.vals.length := by
  simp [totE, List.map_append, List.sum_append]; omega
theorem kvsE_keys {E : List (MEnt α)} {k : Int} (h : ∀ x ∈ E, ¬ k = x.key) : ∀ p ∈ kvsE E, ¬ k = p.1 := by
  intro p hp
  simp only [kvsE, List.mem_map] at hp
  obtain ⟨x, hx, rfl⟩ := hp
  exact h x hx
/-- A value more at a key. -/
theorem Mu.Of.add_old {mu : Mu α} {l : List (Int × α)} (h : mu.Of l) {E1 E2 : List (MEnt α)} {e : MEnt α} (hE : mu.E = E1 ++ e :: E2) (h1 : ∀ x ∈ E1, ¬ e.key = x.key) (h2 : ∀ x ∈ E2, ¬ e.key = x.key) (v : α) (A' : Option Addr) (c' : Nat) (R' : List (MEnt α)) :
    Mu.Of { mu with E := E1 ++ { e with A := A', c := c', vals := e.vals ++ [v] } :: E2, R := R' } (l ++ [(e.key, v)]) := by
  have hk := h.keys; have hb := h.borns; have hl := h.lt; have hn := h.ne; have hv := h.vals; have ha := h.all; have ht := h.tot
  rw [hE] at hk hb hl hn hv ha ht
  refine ⟨by simpa using hk, by simpa using hb, ?_, ?_, ?_, ?_, ?_⟩
  · intro x hx
    simp only [List.mem_append, List.mem_cons] at hx
    rcases hx with hx | rfl | hx
    · exact hl x (by simp [hx])
    · exact hl e (by simp)
    · exact hl x (by simp [hx])
  · intro x hx
    simp only [List.mem_append, List.mem_cons] at hx
    rcases hx with hx | rfl | hx
    · exact hn x (by simp [hx])
    · simp
    · exact hn x (by simp [hx])
  · intro x hx
    simp only [List.mem_append, List.mem_cons] at hx
    rw [getK_append]
    rcases hx with hx | rfl | hx
    · rw [if_neg (h1 x hx)]; exact hv x (by simp [hx])
    · rw [if_pos rfl]; simp only; rw [hv e (by simp)]
    · rw [if_neg (h2 x hx)]; exact hv x (by simp [hx])
  · intro p hp
    rw [List.mem_append, List.mem_singleton] at hp
    rcases hp with hp | rfl
    · obtain ⟨x, hx, hxk⟩ := ha p hp
      simp only [List.mem_append, List.mem_cons] at hx ⊢
      rcases hx with hx | rfl | hx
      · exact ⟨x, .inl hx, hxk⟩
      · exact ⟨_, .inr (.inl rfl), hxk⟩
      · exact ⟨x, .inr (.inr hx), hxk⟩
    · exact ⟨{ e with A := A', c := c', vals := e.vals ++ [v] }, by simp, rfl⟩
  · simp only
    rw [totE_mid] at ht ⊢
    simp; omega
theorem Mu.Of.add_new {mu : Mu α} {l : List (Int × α)} (h : mu.Of l) {k : Int} (h1 : ∀ x ∈ mu.E, ¬ k = x.key) (hg : getK l k = []) (v : α) (A' : Option Addr) (c' : Nat) (R' : List (MEnt α)) :
    Mu.Of { mu with ck := mu.ck + 1, E := mu.E ++ [⟨k, A', c', mu.ck, [v]⟩], R := R' } (l ++ [(k, v)]) := by
  refine ⟨?_, ?_, ?_, ?_, ?_, ?_, ?_⟩
  · simp only [List.map_append, List.map_cons, List.map_nil, List.nodup_append]
    refine ⟨h.keys, by simp, ?_⟩
    intro a ha b hb hab
    simp at hb; subst hb; subst hab
    obtain ⟨x, hx, hxk⟩ := List.mem_map.1 ha
    exact h1 x hx hxk.symm
  · simp only [List.map_append, List.map_cons, List.map_nil, List.nodup_append]
    refine ⟨h.borns, by simp, ?_⟩
    intro a ha b hb hab
    simp at hb; subst hb; subst hab
    obtain ⟨x, hx, hxk⟩ := List.mem_map.1 ha
    have := h.lt x hx
    omega
  · intro x hx
    rw [List.mem_append, List.mem_singleton] at hx
    rcases hx with hx | rfl
    · have := h.lt x hx; simp only; omega
    · simp
  · intro x hx
    rw [List.mem_append, List.mem_singleton] at hx
    rcases hx with hx | rfl
    · exact h.ne x hx
    · simp
  · intro x hx
    rw [List.mem_append, List.mem_singleton] at hx
    rw [getK_append]
    rcases hx with hx | rfl
    · rw [if_neg (h1 x hx)]; exact h.vals x hx
    · rw [if_pos rfl, hg]; rfl
  · intro p hp
    rw [List.mem_append, List.mem_singleton] at hp
    rcases hp with hp | rfl
    · obtain ⟨x, hx, hxk⟩ := h.all p hp
      exact ⟨x, List.mem_append_left _ hx, hxk⟩
    · exact ⟨_, List.mem_append_right _ (List.mem_singleton.2 rfl), rfl⟩
  · have := h.tot
    simp only
    rw [totE_mid, List.append_nil, this]; simp
/-- A key fewer. -/
theorem Mu.Of.del_old {mu : Mu α} {l : List (Int × α)} (h : mu.Of l) {E1 E2 : List (MEnt α)} {e : MEnt α} (hE : mu.E = E1 ++ e :: E2) (h1 : ∀ x ∈ E1, ¬ e.key = x.key) (h2 : ∀ x ∈ E2, ¬ e.key = x.key) (R' : List (MEnt α)) :
    Mu.Of { mu with E := E1 ++ E2, R := R' } (dropKey l e.key) := by
  have hk := h.keys; have hb := h.borns; have hl := h.lt; have hn := h.ne; have hv := h.vals; have ha := h.all; have ht := h.tot
  rw [hE] at hk hb hl hn hv ha ht
  have hsub : List.Sublist (E1 ++ E2) (E1 ++ e :: E2) := List.Sublist.append (List.Sublist.refl _) (List.sublist_cons_self _ _)
  have hm : ∀ x ∈ E1 ++ E2, x ∈ E1 ++ e :: E2 := fun x hx => hsub.subset hx
  have hne : ∀ x ∈ E1 ++ E2, ¬ x.key = e.key := fun x hx hk => by
    rcases List.mem_append.1 hx with hx | hx
    · exact h1 x hx hk.symm
    · exact h2 x hx hk.symm
  refine ⟨hk.sublist (hsub.map _), hb.sublist (hsub.map _), fun x hx => hl x (hm x hx), fun x hx => hn x (hm x hx), ?_, ?_, ?_⟩
  · intro x hx
    rw [getK_drop, if_neg (hne x hx)]
    exact hv x (hm x hx)
  · intro p hp
    simp only [dropKey, List.mem_filter, decide_eq_true_eq] at hp
    obtain ⟨x, hx, hxk⟩ := ha p hp.1
    refine ⟨x, ?_, hxk⟩
    simp only [List.mem_append, List.mem_cons] at hx ⊢
    rcases hx with hx | rfl | hx
    · exact .inl hx
    · exact (hp.2 hxk.symm).elim
    · exact .inr hx
  · rw [totE_mid, hv e (by simp)] at ht
    have := getK_len l e.key
    simp only; omega
theorem dropKey_none {l : List (Int × α)} {k : Int} (h : getK l k = []) : dropKey l k = l := by
  have := getK_len l k
  rw [h] at this
  exact (List.filter_sublist).eq_of_length (by simpa [dropKey] using this)
end
section
variable {W w : World} {L X Y : List HProp} {p : HProp} {l1 l2 : List HProp}
theorem perm_open {β : Type} (q p : β) (X Y l : List β) : (X ++ q :: Y).Perm (q :: (X ++ Y)) := List.perm_middle
theorem Sat.openBig (h : Sat W w (X ++ Big (l1 ++ p :: l2) :: Y)) : Sat W w (p :: (X ++ Big (l1 ++ l2) :: Y)) := by
  have h1 := (h.perm List.perm_middle).big
  have h2 : Sat W w ((l1 ++ l2) ++ (p :: (X ++ Y))) := h1.perm ((List.Perm.append (List.perm_middle (l₁ := l1) (l₂ := l2) (a := p)) (List.Perm.refl (X ++ Y))).trans List.perm_middle.symm)
  exact (h2.mkBig.picks [1]).perm (List.Perm.cons _ List.perm_middle.symm)
theorem Sat.closeBig (h : Sat W w (p :: (X ++ Big (l1 ++ l2) :: Y))) : Sat W w (X ++ Big (l1 ++ p :: l2) :: Y) := by
  have h0 : Sat W w (Big (l1 ++ l2) :: (p :: (X ++ Y))) := h.perm ((List.Perm.cons _ List.perm_middle).trans (List.Perm.swap _ _ _))
  have h1 := h0.big
  have h2 : Sat W w ((l1 ++ p :: l2) ++ (X ++ Y)) := h1.perm (by
    refine (List.perm_middle (l₁ := l1 ++ l2) (l₂ := X ++ Y) (a := p)).trans ?_
    rw [← List.cons_append]
    exact List.Perm.append List.perm_middle.symm (List.Perm.refl _))
  exact h2.mkBig.perm List.perm_middle.symm
theorem Sat.big2 {K R : List HProp} (h : Sat W w (Big K :: Big R :: Y)) : Sat W w (Big (K ++ R) :: Y) := by
  have h1 := ((h.picks [1]).big)
  have h2 : Sat W w (Big K :: (R ++ Y)) := h1.perm List.perm_middle
  have h3 := h2.big
  exact Sat.mkBig (by rw [List.append_assoc]; exact h3)
/-- The container is put together again. -/
theorem Sat.closeMu {x1 x2 : HProp} {K l1 l2 R : List HProp} (h : Sat W w (p :: Big K :: ([x1, x2] ++ Big (l1 ++ l2) :: Big R :: L))) : Sat W w ([x1, x2] ++ Big (l1 ++ p :: l2) :: Big (K ++ R) :: L) := by
  have h1 : Sat W w (Big (K ++ R) :: p :: x1 :: x2 :: Big (l1 ++ l2) :: L) := (h.picks [1, 4]).big2
  exact Sat.closeBig (X := [x1, x2]) (h1.picks [1, 1, 1, 1])
end
section
variable {α : Type} {W w : World} {L : List HProp}
/-- A row out of a container, as it may be read. -/
theorem Sat.muRd {enc : α → List Value} {e st : TypeId} {mu : Mu α} (hs : Sat W w (mu.L enc e st ++ L)) {x : MEnt α} (hx : x ∈ mu.E ++ mu.R) : Rd enc w x.A x.vals := by
  rcases List.mem_append.1 hx with hx | hx
  · obtain ⟨E1, E2, hE⟩ := List.append_of_mem hx
    have h1 : Sat W w ([Cl mu.m [.map (some mu.b), .int .i64 (totE mu.E)] st, Mp keyI mu.b (kvsE mu.E) mu.ck] ++ Big (rowsE enc e E1 ++ RowOf enc e 1 x.A x.c x.vals :: rowsE enc e E2) :: (Big (rowsE enc e mu.R) :: L)) := by
      have e1 : rowsE enc e mu.E = rowsE enc e E1 ++ RowOf enc e 1 x.A x.c x.vals :: rowsE enc e E2 := by rw [hE]; simp [rowsE]
      rw [← e1]; exact hs
    exact h1.openBig.rd 0 rfl
  · obtain ⟨E1, E2, hE⟩ := List.append_of_mem hx
    have h1 : Sat W w ([Cl mu.m [.map (some mu.b), .int .i64 (totE mu.E)] st, Mp keyI mu.b (kvsE mu.E) mu.ck, Big (rowsE enc e mu.E)] ++ Big (rowsE enc e E1 ++ RowOf enc e 1 x.A x.c x.vals :: rowsE enc e E2) :: L) := by
      have e1 : rowsE enc e mu.R = rowsE enc e E1 ++ RowOf enc e 1 x.A x.c x.vals :: rowsE enc e E2 := by rw [hE]; simp [rowsE]
      rw [← e1]; exact hs
    exact h1.openBig.rd 0 rfl
theorem Rd.ahead {enc : α → List Value} {A : Option Addr} {xs ys : List α} (h : Rd enc w A ys) (hp : xs <+: ys) : Rd enc w A xs := by
  obtain ⟨t, rfl⟩ := hp
  have := h.take xs.length
  rwa [List.take_left] at this
/-- A row that was handed out once, as it may be read later. -/
theorem Sat.muOld {enc : α → List Value} {e st : TypeId} {mu mu' : Mu α} (hs : Sat W w (mu'.L enc e st ++ L)) (hg : mu.grows mu') {x : MEnt α} (hx : x ∈ mu.E ++ mu.R) : Rd enc w x.A x.vals := by
  obtain ⟨y, hy, h1, h2⟩ := hg x hx
  have := hs.muRd hy
  rw [h1] at this
  exact this.ahead h2
end
end Go.Sl

/- append onto the front part of a row: the row may be known further than the slice goes. -/
namespace Go.Sl
open Go.RowKit
section
variable {W w : World} {L R : List HProp} {e : TypeId} {sz n N c : Nat} {A : Option Addr} {cells : List Value}
theorem Sat.cutFront (hs : Sat W w (Row e sz A N c cells :: R)) (h1 : n ≤ N) (h2 : n ≤ c) : Sat W w (Row e sz A n c (cells.take (n * sz)) :: R) :=
  hs.imp fun f hf => by
    obtain ⟨a1, a2, a3, a4, a5, a6, a7⟩ := hf
    exact ⟨a1, a2, a3, a4, a5, a6.cut h1 h2 (Nat.le_refl _), a7⟩
theorem Sat.rowKeepL {w' : World} (hs : Sat W w (Row e sz A N c cells :: R)) (h1 : n ≤ N) (h2 : n ≤ c) {n' : Nat} {v' : Value} {cells' : List Value} (hown : OwnR w' W.heap.size e sz v' n' cells')
    (hg : w.grownBy w' (Value.slice A n c).ownBlock) (hat : v'.ownBlock = (Value.slice A n c).ownBlock ∨ v'.ownBlock = some w.heap.size ∧ w.grownBy w' none) :
    ∃ A' c' K, v' = .slice A' n' c' ∧ ((K = [] ∧ A' = A) ∨ K = [Row e sz A N c cells]) ∧ Sat W w' (Row e sz A' n' c' cells' :: Big K :: R) := by
  rcases hat with hat | ⟨hat, hg2⟩
  · have hs := hs.cutFront h1 h2
    obtain ⟨A', c', h1, h2⟩ := hs.rowTurn hown hg (.inl hat)
    refine ⟨A', c', [], h1, .inl ⟨rfl, ?_⟩, ?_⟩
    · subst h1
      obtain ⟨hl, hv⟩ := hown
      have hrow := hs.row0
      obtain ⟨hl2, hv2⟩ := hrow
      rcases hv with ⟨h3, h4⟩ | ⟨g, cap, cur, h3, _⟩ <;> rcases hv2 with ⟨h5, h6⟩ | ⟨g', cap', cur', h5, _⟩ <;> cases h3 <;> cases h5 <;> simp [Value.ownBlock] at hat ⊢
      exact hat
    · exact (Sat.perm h2 (List.Perm.refl _)).imp fun f hf => by
        obtain ⟨a1, a2, a3, a4, a5, a6, a7⟩ := hf
        exact ⟨a1, a2, a3, a4, a5, a6, fun _ => none, a2, fun _ => .inl rfl, fun _ _ h => (by cases h), Frag.le.refl _, trivial, a7⟩
  · obtain ⟨A', c', h1, h2⟩ := (hs.nilRow e sz).rowTurn hown hg2 (.inr hat)
    exact ⟨A', c', [Row e sz A N c cells], h1, .inr rfl, (h2.picks [1]).imp fun f hf => by
      have h3 : sepL ([Row e sz A N c cells] ++ (Row e sz A' n' c' cells' :: R)) f := hf
      have h4 := sepL_big.2 h3
      exact sepL_swap h4⟩
end
section steps
variable {r : Option Nat} {P : Program} {T : List (Nat × TI)} {ops : Array Oper} {Q : Exit → Act → World → Prop} {rest : List Oper} {n : Nat} {s : List (Nat × Value)} {τ : Nat → Value} {ds : List Deferred} {w : World}
  {ty : TypeId} {ps : String} {af : Array Edge} {d : Nat} {W : World} {L : List HProp} {α : Type} {e' : TypeId}
/-- append of some elements onto the front part (k elements) of a row of one's own. -/
theorem LW_appendL {enc : α → List Value} {sz : Nat} (hE : (∀ x, (enc x).length = sz) ∧ ∀ x, ∀ u ∈ enc x, u.oneCell' = true) {xs ys : List α} {A : Option Addr} {c bx m nn : Nat} {x y : Operand} {t e : TypeId} {ti te : TI} (hs : Sat W w (Cl bx (ys.flatMap enc) e' :: RowOf enc e sz A c xs :: L)) (hT : TyOK P T) (hx : EVO n s x = some (.slice A nn c)) (hy : EVO n s y = some (.slice (some ⟨bx, 0, none⟩) m m)) (hm : ys.length = m) (hn : nn ≤ xs.length) (hnc : nn ≤ c)
    (ht : lookT T t = some ti) (hu : ti.u = .slice e) (he : lookT T e = some te) (hsz : te.size = sz) (hpos : Nat.ble 1 te.size = true) (hzc : te.zero.cells.size = te.size)
    (hlen : nn + m ≤ maxLen) (hby : (nn + m) * te.bytes ≤ 140737488355328)
    (k : ∀ A' c' K w', ((K = [] ∧ A' = A) ∨ K = [RowOf enc e sz A c xs]) → Sat W w' (RowOf enc e sz A' c' (xs.take nn ++ ys) :: Big K :: L) → LW r P ops Q rest (FR n ((d, .slice A' (nn + m) c') :: s) τ ds) w') :
    LW r P ops Q (⟨some d, .call { callee := .builtin .append, args := #[x, y], argTypes := #[t, t] }, ty, ps, af, none⟩ :: rest) (FR n s τ ds) w := by
  have hcells := (hs.at 0 rfl).2
  have hs' := hs.drop1
  have hlx : (xs.take nn).length = nn := by rw [List.length_take]; omega
  have hcut : (xs.flatMap enc).take (nn * sz) = (xs.take nn).flatMap enc := by
    have h1 : xs.flatMap enc = (xs.take nn).flatMap enc ++ (xs.drop nn).flatMap enc := by rw [← List.flatMap_append, List.take_append_drop]
    rw [h1, List.take_left' (by rw [flat_len hE.1, hlx])]
  have hown := (hs'.cutFront hn hnc).row0
  rw [hcut] at hown
  obtain ⟨hu1, f, hf1, hf2, hf3, hf4⟩ := ty_info (hT _ _ ht)
  obtain ⟨hu2, fe, hfe, hfe2, hfe3, hfe4⟩ := ty_info (hT _ _ he)
  rw [hu] at hu1
  have hpos' : 0 < sz := by rw [← hsz]; exact Nat.le_of_ble_eq_true hpos
  obtain ⟨v', w', hrun, hown', hg, hat⟩ := run_appendR (P := P) w W.heap.size t ty e fe te.zero sz te.bytes hu1 hfe hfe2 (by rw [hfe3, hsz]) hfe4 (by rw [hzc, hsz]) hpos' (.slice A nn c) nn ((xs.take nn).flatMap enc) hown ⟨bx, 0, none⟩ m m (ys.flatMap enc) (by rw [flat_len hE.1, hm])
        (fun j u h => by
          have e : (⟨bx, 0, none⟩ : Addr).add j = ⟨bx, 0 + j, none⟩ := by unfold Addr.add; split <;> simp_all
          rw [e, hs.cell 0 rfl (0 + j), Nat.zero_add]; exact h) (fun u h => by obtain ⟨x, _, hx⟩ := List.mem_flatMap.1 h; exact hE.2 x u hx) hlen hby hs.size
  obtain ⟨A', c', K, rfl, hK, hs2⟩ := hs'.rowKeepL hn hnc hown' hg hat
  have hln : nn + m = (xs.take nn ++ ys).length := by rw [List.length_append, hlx, hm]
  rw [← List.flatMap_append] at hs2
  have hs3 : Sat W w' (RowOf enc e sz A' c' (xs.take nn ++ ys) :: Big K :: L) := by
    show Sat W w' (Row e sz A' (xs.take nn ++ ys).length c' ((xs.take nn ++ ys).flatMap enc) :: Big K :: L)
    rw [← hln]; exact hs2
  refine LW_run (v := .slice A' (nn + m) c') (w' := w') rfl (fun c e => by cases e) ?_ (by rw [put_FR]; exact k A' c' K w' hK hs3)
  show Sem.run P (do let d ← resolve (FR n s τ ds).eval { callee := .builtin .append, args := #[x, y], argTypes := #[t, t] } ty; invoke d.target d.args) w = _
  have e1 : (#[x, y] : Array Operand).map (FR n s τ ds).eval = #[.slice A nn c, .slice (some ⟨bx, 0, none⟩) m m] := by simp [eval_of hx, eval_of hy]
  simp only [resolve, e1, Sem.run_bind, Sem.run_pure, Result.andThen, invoke, builtin, hrun]
end steps
end Go.Sl

/- Numbers: bits told as sums. -/
namespace Go.Sl
open Go.RowKit
theorem wrap_u8 {e : Int} (h0 : 0 ≤ e) (h1 : e < 256) : IntKind.u8.wrap e = e := by simp [IntKind.wrap, IntKind.bits, IntKind.signed]; omega
theorem wrap_u64 {e : Int} (h0 : 0 ≤ e) (h1 : e < 18446744073709551616) : IntKind.u64.wrap e = e := by simp [IntKind.wrap, IntKind.bits, IntKind.signed]; omega
theorem wrap_i64 {e : Int} (h0 : -9223372036854775808 ≤ e) (h1 : e ≤ 9223372036854775807) : IntKind.i64.wrap e = e := IntWalk.i64_in e (by omega)
theorem ofInt_toNat (k : Nat) (c : Nat) (h : c < 2 ^ k) : (BitVec.ofInt k (c : Int)).toNat = c := by
  rw [BitVec.toNat_ofInt]
  have : ((c : Int) % ((2 ^ k : Nat) : Int)) = c := Int.emod_eq_of_lt (by omega) (by omega)
  rw [this]; rfl
theorem and_127 (c : Nat) (h : c < 256) : IntKind.u8.wrap ((BitVec.ofInt 8 (c : Int) &&& BitVec.ofInt 8 127).toNat : Int) = ((c % 128 : Nat) : Int) := by
  rw [BitVec.toNat_and, ofInt_toNat 8 c h]
  have e : (BitVec.ofInt 8 127).toNat = 2 ^ 7 - 1 := by decide
  rw [e, Nat.and_two_pow_sub_one_eq_mod]
  exact wrap_u8 (by omega) (by omega)
theorem or_128 (c : Nat) (h : c < 256) : IntKind.u8.wrap ((BitVec.ofInt 8 (c : Int) ||| BitVec.ofInt 8 128).toNat : Int) = ((c % 128 + 128 : Nat) : Int) := by
  rw [BitVec.toNat_or, ofInt_toNat 8 c h]
  have e : (BitVec.ofInt 8 128).toNat = 128 := by decide
  rw [e]
  have h3 : c % 128 < 2 ^ 7 := Nat.mod_lt _ (by decide)
  have h4 := Nat.shiftLeft_add_eq_or_of_lt h3 1
  have h5 : c ||| 128 = c % 128 + 128 := by
    have e1 : (1 : Nat) <<< 7 = 128 := by decide
    rw [e1] at h4
    by_cases hc : c < 128
    · rw [Nat.mod_eq_of_lt hc] at h4 ⊢; rw [Nat.or_comm, ← h4, Nat.add_comm]
    · have e2 : c = 128 ||| c % 128 := by rw [← h4]; omega
      have e3 : c ||| 128 = (128 ||| c % 128) ||| 128 := by rw [← e2]
      rw [e3, Nat.or_comm (128 ||| c % 128) 128, ← Nat.or_assoc, Nat.or_self, ← h4, Nat.add_comm]
  rw [h5]
  exact wrap_u8 (by omega) (by omega)
theorem or_sum (v y i : Nat) (hv : v < 2 ^ i) (hs : v + y * 2 ^ i < 2 ^ 64) : IntKind.u64.wrap ((BitVec.ofInt 64 (v : Int) ||| BitVec.ofInt 64 ((y * 2 ^ i : Nat) : Int)).toNat : Int) = ((v + y * 2 ^ i : Nat) : Int) := by
  rw [BitVec.toNat_or, ofInt_toNat 64 v (by omega), ofInt_toNat 64 _ (by omega)]
  have e := Nat.shiftLeft_add_eq_or_of_lt hv y
  rw [Nat.shiftLeft_eq] at e
  rw [Nat.or_comm, ← e, Nat.add_comm]
  exact wrap_u64 (by omega) (by have : (2:Nat) ^ 64 = 18446744073709551616 := by decide
                                omega)
theorem and_max (c : Nat) (h : c < 2 ^ 64) : IntKind.u64.wrap ((BitVec.ofInt 64 (c : Int) &&& BitVec.ofInt 64 9223372036854775807).toNat : Int) = ((c % 2 ^ 63 : Nat) : Int) := by
  rw [BitVec.toNat_and, ofInt_toNat 64 c h]
  have e : (BitVec.ofInt 64 9223372036854775807).toNat = 2 ^ 63 - 1 := by decide
  rw [e, Nat.and_two_pow_sub_one_eq_mod]
  have : (2:Nat) ^ 63 = 9223372036854775808 := by decide
  exact wrap_u64 (by omega) (by omega)
/- THE NUMBERS OF 1.2 -/
def Bt (b : List UInt8) (i : Int) : Nat := (rd b i).toNat
theorem Bt_lt (b : List UInt8) (i : Int) : Bt b i < 256 := (rd b i).toNat_lt
def ruN (b : List UInt8) (at' : Int) : Nat → Int → Int
  | 0, i => i
  | k + 1, i => if at' + i < b.length ∧ 128 ≤ Bt b (at' + i) then ruN b at' k (i + 1) else i
def ruV (b : List UInt8) (at' : Int) : Nat → Int → Nat
  | 0, _ => 0
  | k + 1, i => Bt b (at' + i) % 128 + 128 * ruV b at' k (i + 1)
theorem ruN_ge (b : List UInt8) (at' : Int) : ∀ k i, i ≤ ruN b at' k i ∧ ruN b at' k i ≤ i + k
  | 0, i => by simp [ruN]
  | k + 1, i => by
    simp only [ruN]
    split
    · have := ruN_ge b at' k (i + 1); omega
    · omega
theorem ruN_le (b : List UInt8) (at' : Int) : ∀ k i, at' + i ≤ b.length → at' + ruN b at' k i ≤ b.length
  | 0, i, h => by simpa [ruN] using h
  | k + 1, i, h => by
    simp only [ruN]
    split
    · rename_i hc; exact ruN_le b at' k (i + 1) (by omega)
    · exact h
theorem ruV_lt (b : List UInt8) (at' : Int) : ∀ k i, ruV b at' k i < 128 ^ k
  | 0, i => by simp [ruV]
  | k + 1, i => by
    have := ruV_lt b at' k (i + 1)
    simp only [ruV]
    have h2 : 128 ^ (k + 1) = 128 * 128 ^ k := by rw [Nat.pow_succ, Nat.mul_comm]
    omega
theorem ruV_top (b : List UInt8) (at' : Int) : ∀ (k : Nat) (i : Int), Bt b (at' + i + k) ≤ 1 → ruV b at' (k + 1) i < 2 * 128 ^ k
  | 0, i, h => by simp [ruV]; simp at h; omega
  | k + 1, i, h => by
    have := ruV_top b at' k (i + 1) (by rw [show at' + (i + 1) + (k : Int) = at' + i + ((k + 1 : Nat) : Int) by push_cast; omega]; exact h)
    rw [ruV]
    have h2 : 128 ^ (k + 1) = 128 * 128 ^ k := by rw [Nat.pow_succ, Nat.mul_comm]
    omega
/-- What a number at a place reads as: the value, where it ends, the error. -/
def ru (b : List UInt8) (at' : Int) : Int × Int × Int :=
  if at' < 0 ∨ (b.length : Int) < at' then (0, 0, 1) else
  let n := ruN b at' 9 0
  if n = b.length - at' then (0, 0, 10) else
  if n = 9 ∧ 1 < Bt b (at' + n) then (0, 0, 12) else
  if 0 < n ∧ Bt b (at' + n) = 0 then (0, 0, 11) else
  ((ruV b at' (n.toNat + 1) 0 : Int), at' + n + 1, 0)
theorem ruV_64 (b : List UInt8) (at' : Int) (n : Nat) (hn : n ≤ 9) (h : ¬ (n = 9 ∧ 1 < Bt b (at' + n))) (i : Nat) (hi : i ≤ n + 1) : ruV b at' (n + 1 - i) i < 18446744073709551616 := by
  by_cases h9 : n = 9
  · subst h9
    have h1 : Bt b (at' + 9) ≤ 1 := by
      have := fun x => h ⟨rfl, x⟩
      have e : Bt b (at' + ((9 : Nat) : Int)) = Bt b (at' + 9) := rfl
      omega
    by_cases h10 : i = 10
    · subst h10; simp [ruV]
    · have := ruV_top b at' (9 - i) i (by rw [show at' + (i : Int) + ((9 - i : Nat) : Int) = at' + 9 by omega]; exact h1)
      have e : 9 + 1 - i = 9 - i + 1 := by omega
      rw [e]
      have h3 : 128 ^ (9 - i) ≤ 128 ^ 9 := Nat.pow_le_pow_right (by decide) (by omega)
      have : (128:Nat) ^ 9 = 9223372036854775808 := by decide
      omega
  · have := ruV_lt b at' (n + 1 - i) i
    have h3 : 128 ^ (n + 1 - i) ≤ 128 ^ 9 := Nat.pow_le_pow_right (by decide) (by omega)
    have : (128:Nat) ^ 9 = 9223372036854775808 := by decide
    omega
theorem ruN_stop (b : List UInt8) (at' : Int) {k : Nat} {i : Int} (h : k = 0 ∨ ¬ (at' + i < b.length ∧ 128 ≤ Bt b (at' + i))) : ruN b at' k i = i := by
  cases k with
  | zero => rfl
  | succ k => rw [ruN, if_neg]; rcases h with h | h; · cases h
              · exact h
theorem ruN_go (b : List UInt8) (at' : Int) {k : Nat} {i : Int} (hk : 0 < k) (h : at' + i < b.length ∧ 128 ≤ Bt b (at' + i)) : ruN b at' k i = ruN b at' (k - 1) (i + 1) := by
  cases k with
  | zero => cases hk
  | succ k => rw [ruN, if_pos h, Nat.add_sub_cancel]
theorem ru_eq (b : List UInt8) (at' n : Int) (h0 : 0 ≤ at') (h1 : at' ≤ b.length) (hN : ruN b at' 9 0 = n) : ru b at' =
    if n = b.length - at' then (0, 0, 10) else if n = 9 ∧ 1 < Bt b (at' + n) then (0, 0, 12) else if 0 < n ∧ Bt b (at' + n) = 0 then (0, 0, 11) else ((ruV b at' (n.toNat + 1) 0 : Int), at' + n + 1, 0) := by
  unfold ru
  rw [if_neg (by omega), hN]
theorem ru_step {i c v : Nat} (hi : i ≤ 9) (hv : v < 2 ^ (7 * i)) (hc : c < 256) (h : ¬ (i = 9 ∧ 1 < c)) : v + c % 128 * 2 ^ (7 * i) < 2 ^ 64 ∧ (c % 128 * 2 ^ (7 * i) < 2 ^ 64) ∧ (i < 9 → v + c % 128 * 2 ^ (7 * i) < 2 ^ (7 * (i + 1))) := by
  have : i = 0 ∨ i = 1 ∨ i = 2 ∨ i = 3 ∨ i = 4 ∨ i = 5 ∨ i = 6 ∨ i = 7 ∨ i = 8 ∨ i = 9 := by omega
  rcases this with rfl | rfl | rfl | rfl | rfl | rfl | rfl | rfl | rfl | rfl <;> simp at hv h ⊢ <;> omega
theorem shl_sum {y i : Nat} (hi : i ≤ 9) (h : y * 2 ^ (7 * i) < 2 ^ 64) : IntKind.u64.wrap ((y : Int) * 2 ^ (min (7 * (i : Int)).toNat 64)) = ((y * 2 ^ (7 * i) : Nat) : Int) := by
  have e : min (7 * (i : Int)).toNat 64 = 7 * i := by omega
  rw [e]
  have e2 : (y : Int) * 2 ^ (7 * i) = ((y * 2 ^ (7 * i) : Nat) : Int) := by push_cast; rfl
  rw [e2]
  exact wrap_u64 (by omega) (by have : (2:Nat) ^ 64 = 18446744073709551616 := by decide
                                omega)
theorem ru_next {b : List UInt8} {at' : Int} {i v : Nat} (h4 : ∀ k, ruV b at' (i + k) 0 = v + 2 ^ (7 * i) * ruV b at' k i) (k : Nat) : ruV b at' (i + 1 + k) 0 = v + Bt b (at' + i) % 128 * 2 ^ (7 * i) + 2 ^ (7 * (i + 1)) * ruV b at' k ((i + 1 : Nat) : Int) := by
  have h := h4 (k + 1)
  rw [show i + (k + 1) = i + 1 + k by omega] at h
  rw [h, ruV, Nat.mul_add, Nat.mul_comm (2 ^ (7 * i)) (Bt b (at' + i) % 128), ← Nat.mul_assoc, show 7 * (i + 1) = 7 * i + 7 by omega, Nat.pow_add]
  have e : ((i : Int) + 1) = ((i + 1 : Nat) : Int) := by push_cast; rfl
  rw [e, Nat.add_assoc]
theorem ru_last {b : List UInt8} {at' : Int} {i v : Nat} (h4 : ∀ k, ruV b at' (i + k) 0 = v + 2 ^ (7 * i) * ruV b at' k i) : ruV b at' (i + 1) 0 = v + Bt b (at' + i) % 128 * 2 ^ (7 * i) := by
  have h := ru_next h4 0
  simpa [ruV] using h
theorem ru_ok (b : List UInt8) (at' : Int) : 0 ≤ (ru b at').1 ∧ (ru b at').1 < 18446744073709551616 ∧ ((ru b at').2.2 = 0 → at' < (ru b at').2.1 ∧ (ru b at').2.1 ≤ b.length ∧ 0 ≤ at') ∧ 0 ≤ (ru b at').2.1 ∧ ((ru b at').2.2 = 0 ∨ (ru b at').2.2 = 1 ∨ (ru b at').2.2 = 10 ∨ (ru b at').2.2 = 11 ∨ (ru b at').2.2 = 12) ∧ (¬ (ru b at').2.2 = 0 → (ru b at').1 = 0 ∧ (ru b at').2.1 = 0) := by
  unfold ru
  split
  · simp
  rename_i h
  have h1 := ruN_ge b at' 9 0
  have h2 := ruN_le b at' 9 0 (by omega)
  simp only []
  split
  · simp
  split
  · simp
  split
  · simp
  rename_i h3 h4 h5
  have h6 := ruV_64 b at' (ruN b at' 9 0).toNat (by omega) (by rw [show (((ruN b at' 9 0).toNat : Nat) : Int) = ruN b at' 9 0 by omega]; intro h; exact h4 ⟨by omega, h.2⟩) 0 (by omega)
  simp only [Nat.sub_zero] at h6
  have h7 : ((0:Nat):Int) = 0 := rfl
  rw [h7] at h6
  refine ⟨by show (0:Int) ≤ _; omega, by show _ < (18446744073709551616 : Int); omega, fun _ => ⟨by show at' < at' + ruN b at' 9 0 + 1; omega, by show at' + ruN b at' 9 0 + 1 ≤ _; omega, by omega⟩, by show 0 ≤ at' + ruN b at' 9 0 + 1; omega, .inl rfl, fun h => (h rfl).elim⟩
end Go.Sl

/- What index.Decode reads: the plain law. -/
namespace Go.Sl
open Go.RowKit
abbrev DR := Except Int (List (Int × Int) × Int)
/-- k values of a key. -/
def decV (b : List UInt8) (key : Int) : Nat → Option Int → Int → DR
  | 0, _, at' => .ok ([], at')
  | k + 1, prev, at' =>
    let r := ru b at'
    if ¬ r.2.2 = 0 then .error r.2.2 else
    match prev with
    | none => if (9223372036854775807 : Int) < r.1 then .error 52 else match decV b key k (some r.1) r.2.1 with
      | .error e => .error e
      | .ok (l, a) => .ok ((key, r.1) :: l, a)
    | some p => if r.1 = 0 ∨ (9223372036854775807 : Int) - p < r.1 then .error 52 else match decV b key k (some (p + r.1)) r.2.1 with
      | .error e => .error e
      | .ok (l, a) => .ok ((key, p + r.1) :: l, a)
/-- n keys. -/
def decK (b : List UInt8) : Nat → Int → Int → DR
  | 0, _, at' => .ok ([], at')
  | n + 1, key, at' =>
    let r := ru b at'
    if ¬ r.2.2 = 0 then .error r.2.2 else
    if r.1 = 0 ∨ (9223372036854775807 : Int) - key < r.1 then .error 50 else
    let m := ru b r.2.1
    if ¬ m.2.2 = 0 then .error m.2.2 else
    if m.1 = 0 then .error 51 else
    match decV b (key + r.1) m.1.toNat none m.2.1 with
    | .error e => .error e
    | .ok (l, a) => match decK b n (key + r.1) a with
      | .error e => .error e
      | .ok (l', a') => .ok (l ++ l', a')
def pre (acc : List (Int × Int)) : DR → DR
  | .error e => .error e
  | .ok (l, a) => .ok (acc ++ l, a)
def fin (b : List UInt8) : DR → Except Int (List (Int × Int))
  | .error e => .error e
  | .ok (l, a) => if a = b.length then .ok l else .error 53
def dec (b : List UInt8) : Except Int (List (Int × Int)) :=
  let r := ru b 0
  if ¬ r.2.2 = 0 then .error r.2.2 else fin b (decK b r.1.toNat 0 r.2.1)
/-- The rest of a key, and of the keys behind it. -/
def decR (b : List UInt8) (key : Int) (k : Nat) (prev : Option Int) (at' : Int) (n : Nat) : DR :=
  match decV b key k prev at' with
  | .error e => .error e
  | .ok (l, a) => pre l (decK b n key a)
theorem decK_succ (b : List UInt8) (n : Nat) (key at' : Int) : decK b (n + 1) key at' =
    (if ¬ (ru b at').2.2 = 0 then .error (ru b at').2.2 else if (ru b at').1 = 0 ∨ (9223372036854775807 : Int) - key < (ru b at').1 then .error 50 else
     if ¬ (ru b (ru b at').2.1).2.2 = 0 then .error (ru b (ru b at').2.1).2.2 else if (ru b (ru b at').2.1).1 = 0 then .error 51 else
     decR b (key + (ru b at').1) (ru b (ru b at').2.1).1.toNat none (ru b (ru b at').2.1).2.1 n) := by
  rw [decK]
  simp only []
  split
  · rfl
  split
  · rfl
  split
  · rfl
  split
  · rfl
  unfold decR pre
  cases decV b (key + (ru b at').1) (ru b (ru b at').2.1).1.toNat none (ru b (ru b at').2.1).2.1 with
  | error e => rfl
  | ok p => obtain ⟨l, a⟩ := p; cases h : decK b n (key + (ru b at').1) a <;> simp [h]
theorem decR_zero (b : List UInt8) (key : Int) (prev : Option Int) (at' : Int) (n : Nat) : decR b key 0 prev at' n = decK b n key at' := by
  unfold decR; rw [decV]; simp only [pre]
  cases decK b n key at' with
  | error e => rfl
  | ok p => rfl
theorem decR_first (b : List UInt8) (key : Int) (k : Nat) (at' : Int) (n : Nat) : decR b key (k + 1) none at' n =
    (if ¬ (ru b at').2.2 = 0 then .error (ru b at').2.2 else if (9223372036854775807 : Int) < (ru b at').1 then .error 52 else pre [(key, (ru b at').1)] (decR b key k (some (ru b at').1) (ru b at').2.1 n)) := by
  unfold decR
  rw [decV]
  by_cases h1 : (ru b at').2.2 = 0
  · by_cases h2 : (9223372036854775807 : Int) < (ru b at').1
    · simp [h1, h2]
    · simp only [h1, h2, not_true, if_false]
      cases decV b key k (some (ru b at').1) (ru b at').2.1 with
      | error e => rfl
      | ok p => obtain ⟨l, a⟩ := p; cases h : decK b n key a <;> simp [pre, h]
  · simp [h1]
theorem decR_next (b : List UInt8) (key : Int) (k : Nat) (p at' : Int) (n : Nat) : decR b key (k + 1) (some p) at' n =
    (if ¬ (ru b at').2.2 = 0 then .error (ru b at').2.2 else if (ru b at').1 = 0 ∨ (9223372036854775807 : Int) - p < (ru b at').1 then .error 52 else pre [(key, p + (ru b at').1)] (decR b key k (some (p + (ru b at').1)) (ru b at').2.1 n)) := by
  unfold decR
  rw [decV]
  by_cases h1 : (ru b at').2.2 = 0
  · by_cases h2 : (ru b at').1 = 0 ∨ (9223372036854775807 : Int) - p < (ru b at').1
    · simp [h1, h2]
    · simp only [h1, h2, not_true, if_false]
      cases decV b key k (some (p + (ru b at').1)) (ru b at').2.1 with
      | error e => rfl
      | ok p => obtain ⟨l, a⟩ := p; cases h : decK b n key a <;> simp [pre, h]
  · simp [h1]
theorem pre_pre (a c : List (Int × Int)) (d : DR) : pre a (pre c d) = pre (a ++ c) d := by
  cases d with
  | error e => rfl
  | ok p => obtain ⟨l, x⟩ := p; simp [pre]
theorem pre_nil (d : DR) : pre [] d = d := by
  cases d with
  | error e => rfl
  | ok p => rfl
/- THE CODE's READER: at the place at', the error er. -/
def nextS (b : List UInt8) (at' er least most e : Int) : Int × Int × Int :=
  if ¬ er = 0 then (0, at', er) else
  let r := ru b at'
  if ¬ r.2.2 = 0 then (0, at', r.2.2) else if r.1 < least ∨ most < r.1 then (0, at', e) else (r.1, r.2.1, 0)
/- THE REFERENCE's. -/
def numS (b : List UInt8) (at' er : Int) : Int × Int × Int := if ¬ er = 0 then (0, at', er) else ru b at'
def aboveS (er before gap e : Int) : Int × Int := if ¬ er = 0 then (0, er) else if gap = 0 ∨ (9223372036854775807 : Int) - before < gap then (0, e) else (before + gap, 0)
section
variable {b : List UInt8} {at' er least most e : Int}
theorem nextS_1 (h : ¬ er = 0) : nextS b at' er least most e = (0, at', er) := by unfold nextS; rw [if_pos h]
theorem nextS_2 (h : er = 0) (h2 : ¬ (ru b at').2.2 = 0) : nextS b at' er least most e = (0, at', (ru b at').2.2) := by unfold nextS; rw [if_neg (by omega)]; simp only []; rw [if_pos h2]
theorem nextS_3 (h : er = 0) (h2 : (ru b at').2.2 = 0) (h3 : (ru b at').1 < least ∨ most < (ru b at').1) : nextS b at' er least most e = (0, at', e) := by unfold nextS; rw [if_neg (by omega)]; simp only []; rw [if_neg (by omega), if_pos h3]
theorem nextS_4 (h : er = 0) (h2 : (ru b at').2.2 = 0) (h3 : ¬ ((ru b at').1 < least ∨ most < (ru b at').1)) : nextS b at' er least most e = ((ru b at').1, (ru b at').2.1, 0) := by unfold nextS; rw [if_neg (by omega)]; simp only []; rw [if_neg (by omega), if_neg h3]
theorem numS_1 (h : ¬ er = 0) : numS b at' er = (0, at', er) := by unfold numS; rw [if_pos h]
theorem numS_2 (h : er = 0) : numS b at' er = ru b at' := by unfold numS; rw [if_neg (by omega)]
end
section
variable {er before gap e : Int}
theorem aboveS_1 (h : ¬ er = 0) : aboveS er before gap e = (0, er) := by unfold aboveS; rw [if_pos h]
theorem aboveS_2 (h : er = 0) (h2 : gap = 0 ∨ (9223372036854775807 : Int) - before < gap) : aboveS er before gap e = (0, e) := by unfold aboveS; rw [if_neg (by omega), if_pos h2]
theorem aboveS_3 (h : er = 0) (h2 : ¬ (gap = 0 ∨ (9223372036854775807 : Int) - before < gap)) : aboveS er before gap e = (before + gap, 0) := by unfold aboveS; rw [if_neg (by omega), if_neg h2]
end
section
variable {b : List UInt8} {at' least most e x y z : Int}
theorem nextS_inv (he : ¬ e = 0) (h : nextS b at' 0 least most e = (x, y, z)) :
    (¬ z = 0 ∧ x = 0 ∧ y = at' ∧ ((¬ (ru b at').2.2 = 0 ∧ (ru b at').2.2 = z) ∨ ((ru b at').2.2 = 0 ∧ ((ru b at').1 < least ∨ most < (ru b at').1) ∧ z = e))) ∨
    (z = 0 ∧ (ru b at').2.2 = 0 ∧ (ru b at').1 = x ∧ (ru b at').2.1 = y ∧ least ≤ x ∧ x ≤ most) := by
  by_cases h1 : (ru b at').2.2 = 0
  · by_cases h2 : (ru b at').1 < least ∨ most < (ru b at').1
    · rw [nextS_3 rfl h1 h2] at h
      cases h
      exact .inl ⟨he, rfl, rfl, .inr ⟨h1, h2, rfl⟩⟩
    · rw [nextS_4 rfl h1 h2] at h
      cases h
      exact .inr ⟨rfl, h1, rfl, rfl, by omega, by omega⟩
  · rw [nextS_2 rfl h1] at h
    cases h
    exact .inl ⟨h1, rfl, rfl, .inl ⟨h1, rfl⟩⟩
end
theorem fin_err (b : List UInt8) (l : List (Int × Int)) (e : Int) : fin b (pre l (.error e)) = .error e := rfl
section
variable {b : List UInt8} {key at' x y z : Int} {n : Nat} {l0 : List (Int × Int)}
theorem out_A (h : dec b = fin b (pre l0 (decK b (n + 1) key at'))) (hz : ¬ z = 0) (hx : nextS b at' 0 1 (9223372036854775807 - key) 50 = (x, y, z)) : dec b = .error z := by
  have h0 := (ru_ok b at').1
  rcases nextS_inv (by decide) hx with ⟨_, _, _, h1 | h1⟩ | h1
  · rw [h, decK_succ, if_pos h1.1, h1.2]; rfl
  · rw [h, decK_succ, if_neg (by omega), if_pos (by omega), h1.2.2]; rfl
  · exact (hz h1.1).elim
theorem out_C1 (h : dec b = fin b (pre l0 (decK b (n + 1) key at'))) (hx : nextS b at' 0 1 (9223372036854775807 - key) 50 = (x, y, 0)) (hz : ¬ (ru b y).2.2 = 0) : dec b = .error (ru b y).2.2 := by
  rcases nextS_inv (by decide) hx with h1 | ⟨_, h1, h2, h3, h4, h5⟩
  · exact (h1.1 rfl).elim
  · rw [h, decK_succ, if_neg (by omega), if_neg (by omega), h3, if_pos hz]; rfl
theorem out_C2 (h : dec b = fin b (pre l0 (decK b (n + 1) key at'))) (hx : nextS b at' 0 1 (9223372036854775807 - key) 50 = (x, y, 0)) (hz : (ru b y).2.2 = 0) (hc : (ru b y).1 = 0) : dec b = .error 51 := by
  rcases nextS_inv (by decide) hx with h1 | ⟨_, h1, h2, h3, h4, h5⟩
  · exact (h1.1 rfl).elim
  · rw [h, decK_succ, if_neg (by omega), if_neg (by omega), h3, if_neg (by omega), if_pos hc]; rfl
theorem out_C3 (h : dec b = fin b (pre l0 (decK b (n + 1) key at'))) (hx : nextS b at' 0 1 (9223372036854775807 - key) 50 = (x, y, 0)) (hz : (ru b y).2.2 = 0) (hc : ¬ (ru b y).1 = 0) :
    dec b = fin b (pre l0 (decR b (key + x) (((ru b y).1.toNat - 1) + 1) none (ru b y).2.1 n)) := by
  have h0 := (ru_ok b y).1
  rcases nextS_inv (by decide) hx with h1 | ⟨_, h1, h2, h3, h4, h5⟩
  · exact (h1.1 rfl).elim
  · rw [h, decK_succ, if_neg (by omega), if_neg (by omega), h3, if_neg (by omega), if_neg hc, h2, Nat.sub_add_cancel (by omega)]
theorem first_A {k : Nat} (h : dec b = fin b (pre l0 (decR b key (k + 1) none at' n))) (hz : ¬ z = 0) (hx : nextS b at' 0 0 9223372036854775807 52 = (x, y, z)) : dec b = .error z := by
  have h0 := (ru_ok b at').1
  rcases nextS_inv (by decide) hx with ⟨_, _, _, h1 | h1⟩ | h1
  · rw [h, decR_first, if_pos h1.1, h1.2]; rfl
  · rw [h, decR_first, if_neg (by omega), if_pos (by omega), h1.2.2]; rfl
  · exact (hz h1.1).elim
theorem first_C {k : Nat} (h : dec b = fin b (pre l0 (decR b key (k + 1) none at' n))) (hx : nextS b at' 0 0 9223372036854775807 52 = (x, y, 0)) : dec b = fin b (pre (l0 ++ [(key, x)]) (decR b key k (some x) y n)) := by
  rcases nextS_inv (by decide) hx with h1 | ⟨_, h1, h2, h3, h4, h5⟩
  · exact (h1.1 rfl).elim
  · rw [h, decR_first, if_neg (by omega), if_neg (by omega), pre_pre, h2, h3]
theorem in_A {k : Nat} {p : Int} (h : dec b = fin b (pre l0 (decR b key (k + 1) (some p) at' n))) (hz : ¬ z = 0) (hx : nextS b at' 0 1 (9223372036854775807 - p) 52 = (x, y, z)) : dec b = .error z := by
  have h0 := (ru_ok b at').1
  rcases nextS_inv (by decide) hx with ⟨_, _, _, h1 | h1⟩ | h1
  · rw [h, decR_next, if_pos h1.1, h1.2]; rfl
  · rw [h, decR_next, if_neg (by omega), if_pos (by omega), h1.2.2]; rfl
  · exact (hz h1.1).elim
theorem in_C {k : Nat} {p : Int} (h : dec b = fin b (pre l0 (decR b key (k + 1) (some p) at' n))) (hx : nextS b at' 0 1 (9223372036854775807 - p) 52 = (x, y, 0)) : dec b = fin b (pre (l0 ++ [(key, p + x)]) (decR b key k (some (p + x)) y n)) := by
  rcases nextS_inv (by decide) hx with h1 | ⟨_, h1, h2, h3, h4, h5⟩
  · exact (h1.1 rfl).elim
  · rw [h, decR_next, if_neg (by omega), if_neg (by omega), pre_pre, h2, h3]
end
end Go.Sl

/- Stores of several cells: into a block of one's own, into a row's element. -/
namespace Go.Sl
open Go.RowKit
section
variable {r : Option Nat} {P : Program} {T : List (Nat × TI)} {ops : Array Oper} {Q : Exit → Act → World → Prop} {rest : List Oper} {n : Nat} {s : List (Nat × Value)} {τ : Nat → Value} {ds : List Deferred} {w : World}
  {ty : TypeId} {ps : String} {af : Array Edge} {d : Nat} {W : World} {L : List HProp}
theorem grownBy_setRow (w : World) (g : Nat) (cs : Array Value) : w.grownBy (w.setRow g cs) (some g) :=
  ⟨rfl, rfl, rfl, by simp, fun k _ hk => setRow_other w g k _ (fun e => hk (by rw [e]))⟩
theorem run_storeW {t e : TypeId} {ti : TI} {g o : Nat} {v : Value} {vs : List Value} {cur : Array Value} (ht : tyOf P t = some ti) (hv : cellsO v = some vs) (hl : vs.length = ti.size) (hg : w.heap[g]? = some (.cells cur e (0, 0))) (hfit : o + vs.length ≤ cur.size) (h1 : ∀ u ∈ vs, u.oneCell' = true) :
    (Instr.storeAt t (.pointer (some ⟨g, o, none⟩)) v).run P w = .ok () (w.setRow g (cur.toList.take o ++ vs ++ cur.toList.drop (o + vs.length)).toArray) := by
  have h2 := ty_sizeOf ht w
  have h3 := cellsO_eq hv
  have h4 := run_storeCells_at P g o e vs 0 cur w hg (by simpa using hfit) h1
  simp only [Nat.add_zero] at h4
  simp only [Instr.storeAt, Instr.sureAddr, Sem.run_bind, Sem.run_pure, Result.andThen, storeVar, h2, h3]
  simp [hl, h4]
theorem LW_storeCA (i : Nat) {x y : Operand} {t : TypeId} {ti : TI} {b o : Nat} {v : Value} {ws vs : List Value} {te : TypeId} (hT : TyOK P T) (hs : Sat W w L) (hx : EVO n s x = some (.pointer (some ⟨b, o, none⟩))) (hy : EVO n s y = some v) (ht : lookT T t = some ti) (hv : cellsO v = some ws) (hl : ws.length = ti.size) (h1 : ∀ u ∈ ws, u.oneCell' = true)
    (hi : getA L i = some (Cl b vs te)) (hfit : o + ws.length ≤ vs.length) (k : ∀ w', Sat W w' (L.set i (Cl b (vs.take o ++ ws ++ vs.drop (o + ws.length)) te)) → LW r P ops Q rest (FR n s τ ds) w') : LW r P ops Q (⟨none, .store t x y, ty, ps, af, none⟩ :: rest) (FR n s τ ds) w := by
  rw [getA_eq] at hi
  have hb := (hs.at i hi).2
  refine LW_runSkip (w' := w.setRow b (vs.take o ++ ws ++ vs.drop (o + ws.length)).toArray) rfl (fun c e => by cases e) ?_ (k _ (hs.turn i hi _ (grownBy_setRow w b _) (setRow_heap w b _ _ te (0, 0) hb)))
  show Sem.run P (do Instr.storeAt t ((FR n s τ ds).eval x) ((FR n s τ ds).eval y); pure Next.skip) w = _
  rw [eval_of hx, eval_of hy, Sem.run_bind, run_storeW (hT _ _ ht) hv hl hb (by simpa using hfit) h1]; rfl
theorem LW_loadCA (i : Nat) {x : Operand} {t : TypeId} {ti : TI} {b o : Nat} {vs : List Value} {te : TypeId} (hT : TyOK P T) (hs : Sat W w L) (hx : EVO n s x = some (.pointer (some ⟨b, o, none⟩))) (ht : lookT T t = some ti) (ha : ti.agg = true) (hi : getA L i = some (Cl b vs te)) (hfit : o + ti.size ≤ vs.length)
    (k : LW r P ops Q rest (FR n ((d, .agg ((vs.drop o).take ti.size).toArray) :: s) τ ds) w) : LW r P ops Q (⟨some d, .load t x, ty, ps, af, none⟩ :: rest) (FR n s τ ds) w := by
  rw [getA_eq] at hi
  refine LW_loadA hT hx ht ha (by rw [List.length_take, List.length_drop]; omega) (fun j v hj => ?_) k
  rw [hs.cell i hi (o + j)]
  rw [List.getElem?_take] at hj
  split at hj
  · rwa [List.getElem?_drop] at hj
  · cases hj
theorem LW_loadCAE (i : Nat) (ws : List Value) {x : Operand} {t : TypeId} {ti : TI} {b o : Nat} {vs : List Value} {te : TypeId} (hT : TyOK P T) (hs : Sat W w L) (hx : EVO n s x = some (.pointer (some ⟨b, o, none⟩))) (ht : lookT T t = some ti) (ha : ti.agg = true) (hi : getA L i = some (Cl b vs te)) (hfit : o + ti.size ≤ vs.length) (hw : (vs.drop o).take ti.size = ws)
    (k : LW r P ops Q rest (FR n ((d, .agg ws.toArray) :: s) τ ds) w) : LW r P ops Q (⟨some d, .load t x, ty, ps, af, none⟩ :: rest) (FR n s τ ds) w := LW_loadCA i hT hs hx ht ha hi hfit (hw ▸ k)
theorem flat_set {α : Type} {enc : α → List Value} {sz : Nat} (hz : ∀ x, (enc x).length = sz) (z : α) : ∀ (xs : List α) (j : Nat), j < xs.length → (xs.set j z).flatMap enc = (xs.flatMap enc).take (j * sz) ++ enc z ++ (xs.flatMap enc).drop (j * sz + sz)
  | [], j, h => by simp at h
  | x :: xs, 0, h => by
    simp only [List.set_cons_zero, List.flatMap_cons, Nat.zero_mul, List.take_zero, List.nil_append, Nat.zero_add]
    rw [List.drop_left' (hz x)]
  | x :: xs, j + 1, h => by
    have ih := flat_set hz z xs j (by simpa using h)
    simp only [List.set_cons_succ, List.flatMap_cons, ih]
    have e1 : (j + 1) * sz = (enc x).length + j * sz := by rw [hz, Nat.add_mul]; omega
    have e2 : (j + 1) * sz + sz = (enc x).length + (j * sz + sz) := by rw [e1]; omega
    rw [e2, List.drop_length_add_append, e1, List.take_length_add_append, List.append_assoc, List.append_assoc, List.append_assoc]
theorem Sat.rowSet {α : Type} {enc : α → List Value} {sz : Nat} (hz : ∀ x, (enc x).length = sz) {xs : List α} {A : Option Addr} {c : Nat} {e : TypeId} (hs : Sat W w (RowOf enc e sz A c xs :: L)) {j : Nat} (hj : j < xs.length) :
    ∃ b cur, A = some ⟨b, 0, none⟩ ∧ w.heap[b]? = some (.cells cur e (0, 0)) ∧ j * sz + sz ≤ cur.size ∧ ∀ z, Sat W (w.setRow b (cur.toList.take (j * sz) ++ enc z ++ cur.toList.drop (j * sz + sz)).toArray) (RowOf enc e sz A c (xs.set j z) :: L) := by
  obtain ⟨h1, h2⟩ := hs.row0
  rcases h2 with ⟨h2, h3⟩ | ⟨g, cap, cur, hv, hB, hcur, hnc, hcm, hcs, htk⟩
  · omega
  · injection hv with q1 q2 q3
    subst q1; subst q3
    have hfl := flat_len hz xs
    have hjs : j * sz + sz ≤ xs.length * sz := by
      have := Nat.mul_le_mul_right sz (show j + 1 ≤ xs.length by omega)
      rwa [Nat.add_mul, Nat.one_mul] at this
    have hcs2 : xs.length * sz ≤ cur.size := Nat.le_trans (Nat.mul_le_mul_right _ hnc) hcs
    refine ⟨g, cur, rfl, hcur, by omega, fun z => ?_⟩
    have hlen : (xs.set j z).length = xs.length := by simp
    have hown : OwnR (w.setRow g (cur.toList.take (j * sz) ++ enc z ++ cur.toList.drop (j * sz + sz)).toArray) W.heap.size e sz (.slice (some ⟨g, 0, none⟩) (xs.set j z).length c) (xs.set j z).length ((xs.set j z).flatMap enc) := by
      refine ⟨flat_len hz _, .inr ⟨g, c, _, rfl, hB, setRow_heap w g cur _ e _ hcur, by omega, hcm, ?_, ?_⟩⟩
      · simp only [List.size_toArray, List.length_append, List.length_take, List.length_drop, Array.length_toList, hz]; omega
      · rw [flat_set hz z xs j hj, hlen, ← htk]
        simp only []
        have e0 : cur.toList = xs.flatMap enc ++ cur.toList.drop (xs.length * sz) := by rw [← htk, List.take_append_drop]
        rw [htk]
        have e1 : cur.toList.take (j * sz) = (xs.flatMap enc).take (j * sz) := by rw [e0, List.take_append_of_le_length (by omega)]
        have e2 : cur.toList.drop (j * sz + sz) = (xs.flatMap enc).drop (j * sz + sz) ++ cur.toList.drop (xs.length * sz) := by
          conv => lhs; rw [e0]
          rw [List.drop_append_of_le_length (by omega)]
        rw [e1, e2, ← List.append_assoc]
        have e3 : ((xs.flatMap enc).take (j * sz) ++ enc z ++ (xs.flatMap enc).drop (j * sz + sz)).length = xs.length * sz := by
          simp only [List.length_append, List.length_take, List.length_drop, hz]; omega
        rw [← e3, List.take_left]
    obtain ⟨A', c', e1, hs'⟩ := hs.rowTurn hown (grownBy_setRow w g _) (.inl rfl)
    injection e1 with e2 e3 e4
    subst e2; subst e4
    exact hs'
/-- A store into an element of a row of one's own. -/
theorem LW_storeRow (i : Nat) {α : Type} {enc : α → List Value} {sz : Nat} (hE : (∀ x, (enc x).length = sz) ∧ ∀ x, ∀ u ∈ enc x, u.oneCell' = true) {xs : List α} {z : α} {A : Option Addr} {c b o : Nat} {j : Int} {x y : Operand} {t e : TypeId} {ti : TI} {v : Value} (hs : Sat W w L) (hT : TyOK P T) (hx : EVO n s x = some (.pointer (some ⟨b, o + j.toNat * sz, none⟩))) (hA : A = some ⟨b, o, none⟩) (hy : EVO n s y = some v) (ht : lookT T t = some ti) (hv : cellsO v = some (enc z)) (hsz : ti.size = sz)
    (hi : getA L i = some (RowOf enc e sz A c xs)) (h0 : 0 ≤ j) (hj : j < xs.length) (k : ∀ w', Sat W w' (L.set i (RowOf enc e sz A c (xs.set j.toNat z))) → LW r P ops Q rest (FR n s τ ds) w') : LW r P ops Q (⟨none, .store t x y, ty, ps, af, none⟩ :: rest) (FR n s τ ds) w := by
  rw [getA_eq] at hi
  obtain ⟨g, cur, hA2, hcur, hfit, hnew⟩ := (hs.front i hi).rowSet hE.1 (j := j.toNat) (by omega)
  rw [hA] at hA2
  injection hA2 with hA2
  injection hA2 with hb ho
  subst hb; subst ho
  refine LW_runSkip (w' := w.setRow b (cur.toList.take (j.toNat * sz) ++ enc z ++ cur.toList.drop (j.toNat * sz + sz)).toArray) rfl (fun c e => by cases e) ?_ (k _ (Sat.back hi (hnew z)))
  show Sem.run P (do Instr.storeAt t ((FR n s τ ds).eval x) ((FR n s τ ds).eval y); pure Next.skip) w = _
  rw [Nat.zero_add] at hx
  rw [eval_of hx, eval_of hy, Sem.run_bind, run_storeW (hT _ _ ht) hv (by rw [hE.1, hsz]) hcur (by rw [hE.1]; exact hfit) (hE.2 z), hE.1]; rfl
end
end Go.Sl

/- Drawn regions: an element of a row of one's own is read, and other rows are made meanwhile. -/
namespace Go.Sl
open Go.RowKit
section
variable {r : Option Nat} {P : Program} {T : List (Nat × TI)} {l : List Oper} {eff : List Nat} {K : Act → World → Prop} {Cs : List (Nat × (World → Prop))} {plan : List Nat} {listed : Array Bool} {w : World} {n : Nat} {s : List (Nat × Value)} {τ : Nat → Value} {ds : List Deferred}
  {ty : TypeId} {ps : String} {af : Array Edge} {d i : Nat} {gd : Option (Nat × Bool)} {α : Type}
theorem DP_loadRow [Inhabited α] {enc : α → List Value} {xs : List α} {A : Option Addr} (hr : Rd enc w A xs) {sz : Nat} (hz : ∀ x, (enc x).length = sz) {x : Operand} {t : TypeId} {ti : TI} {b o k : Nat} {j : Int} {v : Value} (hT : TyOK P T) (heff : eff.contains i = false) (hi : getA l i = some ⟨some d, .load t x, ty, ps, af, gd⟩) (hg : gdOK s n l gd) (hx : EVO n s x = some (.pointer (some ⟨b, o + j.toNat * sz + k, none⟩))) (hA : A = some ⟨b, o, none⟩) (ht : lookT T t = some ti) (ha : ti.agg = false)
    (h0 : 0 ≤ j) (h1 : j < xs.length) (hk : getA (enc (rd xs j)) k = some v) (hI : Inv l eff Cs listed w) (c : DP r P l eff K ((i, fun w' => w'.cell? ⟨b, o + j.toNat * sz + k, none⟩ = some v) :: Cs) plan (listed.setIfInBounds i true) (FR n ((d, v) :: s) τ ds) w) : DP r P l eff K Cs (i :: plan) listed (FR n s τ ds) w := by
  refine DP_yield (v := v) (fun w' => w'.cell? ⟨b, o + j.toNat * sz + k, none⟩ = some v) heff hi (YC.mkD hg fun w' hw' => ?_) (hr.cell hz hA h0 h1 hk) hI (by rw [put_FR]; exact c)
  show Sem.run P (do let v ← Instr.loadAt t ((FR n s τ ds).eval x); pure (Next.value v)) w' = _
  rw [eval_of hx, Sem.run_bind, run_load1 (hT _ _ ht) ha hw']; rfl
theorem DP_loadRow0 [Inhabited α] {enc : α → List Value} {xs : List α} {A : Option Addr} (hr : Rd enc w A xs) (hz : ∀ x, (enc x).length = 1) {x : Operand} {t : TypeId} {ti : TI} {b o : Nat} {j : Int} {v : Value} (hT : TyOK P T) (heff : eff.contains i = false) (hi : getA l i = some ⟨some d, .load t x, ty, ps, af, gd⟩) (hg : gdOK s n l gd) (hx : EVO n s x = some (.pointer (some ⟨b, o + j.toNat * 1, none⟩))) (hA : A = some ⟨b, o, none⟩) (ht : lookT T t = some ti) (ha : ti.agg = false)
    (h0 : 0 ≤ j) (h1 : j < xs.length) (hk : getA (enc (rd xs j)) 0 = some v) (hI : Inv l eff Cs listed w) (c : DP r P l eff K ((i, fun w' => w'.cell? ⟨b, o + j.toNat * 1, none⟩ = some v) :: Cs) plan (listed.setIfInBounds i true) (FR n ((d, v) :: s) τ ds) w) : DP r P l eff K Cs (i :: plan) listed (FR n s τ ds) w := by
  refine DP_yield (v := v) (fun w' => w'.cell? ⟨b, o + j.toNat * 1, none⟩ = some v) heff hi (YC.mkD hg fun w' hw' => ?_) (by have := hr.cell hz hA h0 h1 hk; rwa [Nat.add_zero] at this) hI (by rw [put_FR]; exact c)
  show Sem.run P (do let v ← Instr.loadAt t ((FR n s τ ds).eval x); pure (Next.value v)) w' = _
  rw [eval_of hx, Sem.run_bind, run_load1 (hT _ _ ht) ha hw']; rfl
theorem Inv.keepR0 [Inhabited α] {enc : α → List Value} {xs : List α} {A : Option Addr} {b o : Nat} {j : Int} {v : Value} (hr : Rd enc w A xs) (hz : ∀ x, (enc x).length = 1) (hA : A = some ⟨b, o, none⟩) (h0 : 0 ≤ j) (h1 : j < xs.length) (hk : getA (enc (rd xs j)) 0 = some v) (k : Inv l eff Cs listed w) : Inv l eff ((i, fun w' => w'.cell? ⟨b, o + j.toNat * 1, none⟩ = some v) :: Cs) listed w :=
  Inv.keep (by have := hr.cell hz hA h0 h1 hk; rwa [Nat.add_zero] at this) k
theorem Inv.keepR [Inhabited α] {enc : α → List Value} {xs : List α} {A : Option Addr} {b o sz m : Nat} {j : Int} {v : Value} (hr : Rd enc w A xs) (hz : ∀ x, (enc x).length = sz) (hA : A = some ⟨b, o, none⟩) (h0 : 0 ≤ j) (h1 : j < xs.length) (hk : getA (enc (rd xs j)) m = some v) (k : Inv l eff Cs listed w) : Inv l eff ((i, fun w' => w'.cell? ⟨b, o + j.toNat * sz + m, none⟩ = some v) :: Cs) listed w :=
  Inv.keep (hr.cell hz hA h0 h1 hk) k
end
end Go.Sl

/- A slice that ends ahead of its row's end: its cells found. -/
namespace Go.Sl
open Go.RowKit
section
variable {r : Option Nat} {P : Program} {T : List (Nat × TI)} {ops : Array Oper} {Q : Exit → Act → World → Prop} {rest : List Oper} {w : World} {n : Nat} {s : List (Nat × Value)} {τ : Nat → Value} {ds : List Deferred} {ty : TypeId} {ps : String} {af : Array Edge} {d : Nat} {α : Type}
theorem LW_indexRdN [Inhabited α] {enc : α → List Value} {xs : List α} {A : Option Addr} (hr : Rd enc w A xs) {t e : TypeId} {x y : Operand} {ti te : TI} {k : IntKind} {len cap : Nat} {i : Int} (hT : TyOK P T) (hx : EVO n s x = some (.slice A len cap)) (hy : EVO n s y = some (.int k i)) (ht : lookT T t = some ti) (hu : ti.u = .slice e) (he : lookT T e = some te)
    (h0 : 0 ≤ i) (h1 : i < len) (h2 : i < xs.length) (c : ∀ b o, A = some ⟨b, o, none⟩ → LW r P ops Q rest (FR n ((d, .pointer (some ⟨b, o + i.toNat * te.size, none⟩)) :: s) τ ds) w) : LW r P ops Q (⟨some d, .indexAddr t x y, ty, ps, af, none⟩ :: rest) (FR n s τ ds) w := by
  obtain ⟨b, o, hA⟩ := hr.some h0 h2
  subst hA
  exact LW_indexAddr hT hx hy ht hu he h0 h1 (c b o rfl)
end
end Go.Sl

/- A law's row: its call leaves new memory alone, and says true: so what came in reads as it did. -/
namespace Go.Sl
open Go.RowKit Go.ChangeShapes Go.WideElems

def rowedB (P : Program) (ts : List TypeId) : Bool := ts.all fun t => P.readableRec t && decide (t < P.types.size)
section
variable {H : Type} {enc : TypeId × Value → H} {P : Program}
theorem trodAll_stay (hl : laidOutB P = true) {W W' : World} (hb : Below W.heap.size W W') (sp : Nat → Bool) :
    ∀ {ts : List TypeId} {vs : List Value} {ds : List (DataW H)} {ps : List MemPlace}, rowedB P ts = true → DataW.TrodAll enc P W 0 (fun _ => true) true ts vs ds ps → (∀ x ∈ ps, x.block < W.heap.size) → (∀ p ∈ ps, sp p.block = true) →
      DataW.TrodAll enc P W' 0 sp true ts vs ds ps
  | [], [], [], _, _, h, _, _ => h
  | [], [], _ :: _, _, _, h, _, _ => h.elim
  | [], _ :: _, _, _, _, h, _, _ => h.elim
  | _ :: _, [], _, _, _, h, _, _ => h.elim
  | _ :: _, _ :: _, [], _, _, h, _, _ => h.elim
  | t :: ts, v :: vs, d :: ds, ps, hr, h, hlt, hs => by
    obtain ⟨p, q, h1, h2, rfl⟩ := h
    simp only [rowedB, List.all_cons, Bool.and_eq_true, decide_eq_true_eq] at hr
    exact ⟨p, q, Trod_stays hl hr.1.1 hr.1.2 h1 (fun x hx => hb.same (hlt x (by simp [hx]))) (fun x hx => hs x (by simp [hx])),
      trodAll_stay hl hb sp hr.2 h2 (fun x hx => hlt x (by simp [hx])) (fun x hx => hs x (by simp [hx])), rfl⟩

theorem post_of_law {f : Func} {s : ChangeSpec} {apart fresh handsOn again : Bool} {W W' : World} {args : Array Value} {ds gs : List (DataW H)} {before : List MemPlace} {t : TypeId}
    (hl : laidOutB P = true) (hr : rowedB P f.params.toList = true) (hres : f.resultTypes = #[t]) (ht : P.underlying t = some .bool) (hvars : s.vars = [])
    (hW : DataW.Whole enc P f.params.toList s.vars apart W args.toList ds gs before)
    (hfr : (s.fn H (ds ++ gs)).results = [.lit (.bool true)]) (hfa : (s.fn H (ds ++ gs)).args = ds) (hfv : (s.fn H (ds ++ gs)).vars = [])
    (hb : Below W.heap.size W W') : s.post enc P f apart fresh handsOn again W args (.bool true) W' := by
  have hW' := hW
  obtain ⟨p, q, hA, hV, rfl, hz, hn⟩ := hW
  rw [hvars] at hV
  obtain ⟨rfl, rfl⟩ := trodVars_none hV
  rw [List.append_nil] at hW' hz hn
  have hlt : ∀ x ∈ p, x.block < W.heap.size := fun x hx => by simpa using hW'.lt x hx
  have hr1 : ∀ (b : Nat) (sp : Nat → Bool) (hd : Bool), DataW.TrodAll enc P W' b sp hd [t] [.bool true] [.lit (.bool true)] [] := fun b sp hd => trodAll_mk1 (shut_bool ht true)
  have hok : Value.okWide P W' .any 0 t (.bool true) := okWide_bool_mk ht true
  have hA2 : ∀ sp : Nat → Bool, (∀ x ∈ p, sp x.block = true) → DataW.TrodAll enc P W' 0 sp true f.params.toList args.toList ds p := fun sp hs => trodAll_stay hl hb sp hr hA hlt hs
  refine ⟨ds, [], p, [], p, [], hW', ?_, ?_, ?_, hb.frame _, fun _ => ⟨?_, [.lit (.bool true)] ++ ds, [], p, ⟨p, [], ?_, ?_, by simp, ?_, ?_⟩, fun _ h _ => h⟩⟩
  · rw [hfr, hres]; exact hr1 _ _ _
  · rw [hfa]; exact hA2 _ fun x hx => by simpa using hlt x hx
  · rw [hfv, hvars]; rfl
  · intro j t' r h1 h2
    rw [hres] at h1 h2
    match j, h1, h2 with
    | 0, h1, h2 =>
      simp [Value.resultList] at h1 h2
      subst h1; subst h2; exact hok
    | j + 1, h1, _ => simp at h1
  · rw [hres]; exact trodAll_append (p := []) (hA2 _ fun _ _ => rfl) (hr1 _ _ _)
  · rw [hvars]; rfl
  · intro b off hp
    rw [hb.frozen (hlt _ hp)]
    exact hz b off hp
  · exact hn
end
end Go.Sl

/- Arguments of a law, opened: rows of bytes, of integers, of pairs of integers. -/
namespace Go.Sl
open Go.RowKit Go.ChangeShapes Go.WideElems Go.Deep

section
variable {H : Type} {enc : TypeId × Value → H} {P : Program} {w : World} {base : Nat} {spare : Nat → Bool} {held : Bool} {t e : TypeId} {v : Value} {d : DataW H} {ps : List MemPlace}
theorem wf_u8 {n : Int} (h : (Lit.int .u8 n).wf = true) : 0 ≤ n ∧ n < 256 := by
  simp only [Lit.wf, Bool.and_eq_true, decide_eq_true_eq] at h
  have h1 : IntKind.u8.min = 0 := by decide
  have h2 : IntKind.u8.max = 255 := by decide
  omega
theorem wf_i64 {n : Int} (h : (Lit.int .i64 n).wf = true) : -9223372036854775808 ≤ n ∧ n ≤ 9223372036854775807 := by
  simp only [Lit.wf, Bool.and_eq_true, decide_eq_true_eq] at h
  have h1 : IntKind.i64.min = -9223372036854775808 := by decide
  have h2 : IntKind.i64.max = 9223372036854775807 := by decide
  omega
theorem flat1_get {α : Type} {f : α → Value} : ∀ {xs : List α} {j : Nat} {v : Value}, (xs.flatMap fun x => [f x])[j]? = some v → ∃ x, xs[j]? = some x ∧ v = f x
  | [], _, _, h => by simp at h
  | x :: xs, 0, v, h => by simp at h; exact ⟨x, rfl, h.symm⟩
  | x :: xs, j + 1, v, h => by simpa using flat1_get (xs := xs) (j := j) (v := v) (by simpa using h)
theorem flat2_get {α : Type} {f g : α → Value} : ∀ {xs : List α} {j : Nat} {v : Value}, (xs.flatMap fun x => [f x, g x])[j]? = some v → ∃ x, xs[j / 2]? = some x ∧ v = if j % 2 = 0 then f x else g x
  | [], _, _, h => by simp at h
  | x :: xs, 0, v, h => by simp at h; exact ⟨x, rfl, by simp [h]⟩
  | x :: xs, 1, v, h => by simp at h; exact ⟨x, rfl, by simp [h]⟩
  | x :: xs, j + 2, v, h => by
    obtain ⟨y, h1, h2⟩ := flat2_get (xs := xs) (j := j) (v := v) (by simpa using h)
    refine ⟨y, ?_, ?_⟩
    · rw [show (j + 2) / 2 = j / 2 + 1 by omega]; simpa using h1
    · rw [show (j + 2) % 2 = j % 2 by omega]; exact h2
theorem add_spot {a : Addr} (h : a.spot = none) (j : Nat) : a.add j = ⟨a.block, a.off + j, none⟩ := by
  obtain ⟨x, y, z⟩ := a
  dsimp only at h
  subst h
  simp [Addr.add]
/-- A row of integers of a kind. -/
theorem open_row (k : IntKind) (ht : P.underlying t = some (.slice e)) (he : P.underlying e = some (.int k)) (hc : P.cellsOf e = 1) {r : Reach} {rb : Nat} (hv : Value.okWide P w r rb t v) (h : DataW.Trod enc P w base spare held t v d ps) :
    ∃ (A : Option Addr) (zs : List Int) (c : Nat), v = .slice A zs.length c ∧ Rd (fun z => [.int k z]) w A zs ∧ zs.length ≤ c ∧ c ≤ maxLen ∧ ∀ z ∈ zs, (Lit.int k z).wf = true := by
  obtain ⟨va, len, cap, rfl⟩ := Go.WideShapes.okWide_slice ht hv
  obtain ⟨n, hn⟩ := h
  rcases open_ints ht he hc hn with ⟨h1, _⟩ | ⟨a, len', cap', zs, h1, _, hl, hm, hz, _, hcell, hwf⟩
  · cases h1
    exact ⟨none, [], 0, rfl, .inl rfl, Nat.le_refl _, by simp [maxLen], fun z hz => by cases hz⟩
  · cases h1
    have hlen : len ≤ zs.length := by rw [hz]; split <;> omega
    have hl2 : (zs.take len).length = len := by simp; omega
    refine ⟨some a, zs.take len, cap, by rw [hl2], ?_, by rw [hl2]; exact hl, hm, fun z hz => hwf z (List.mem_of_mem_take hz)⟩
    by_cases h0 : len = 0
    · exact .inl (by rw [h0]; rfl)
    · have hsp : a.spot = none := by simpa [Addr.add] using World.cell?_spot (hcell 0 (by omega))
      refine .inr ⟨a.block, a.off, by rw [← hsp], fun j u hj => ?_⟩
      obtain ⟨x, hx, rfl⟩ := flat1_get hj
      obtain ⟨hj1, hj2⟩ := List.getElem?_eq_some_iff.1 hx
      have hj3 : j < zs.length := by rw [hl2] at hj1; omega
      have := hcell j hj3
      rw [add_spot hsp] at this
      rw [this]
      rw [List.getElem_take] at hj2
      simp [List.getD, hj3, hj2]
theorem open_bytes8 (ht : P.underlying t = some (.slice e)) (he : P.underlying e = some (.int .u8)) (hc : P.cellsOf e = 1) {r : Reach} {rb : Nat} (hv : Value.okWide P w r rb t v) (h : DataW.Trod enc P w base spare held t v d ps) :
    ∃ (A : Option Addr) (b : List UInt8) (c : Nat), v = .slice A b.length c ∧ Rd eB w A b ∧ b.length ≤ c ∧ c ≤ maxLen := by
  obtain ⟨A, zs, c, rfl, hr, hc1, hc2, hw⟩ := open_row .u8 ht he hc hv h
  obtain ⟨b, rfl⟩ : ∃ b : List UInt8, zs = b.map fun x => (x.toNat : Int) := by
    clear hr hc1 h hv
    induction zs with
    | nil => exact ⟨[], rfl⟩
    | cons z zs ih =>
      obtain ⟨b, rfl⟩ := ih fun y hy => hw y (List.mem_cons_of_mem _ hy)
      have := wf_u8 (hw z List.mem_cons_self)
      refine ⟨UInt8.ofNat z.toNat :: b, ?_⟩
      simp only [List.map_cons, UInt8.toNat_ofNat']
      rw [show z.toNat % 2 ^ 8 = z.toNat from Nat.mod_eq_of_lt (by omega)]
      congr 1; omega
  refine ⟨A, b, c, by simp, ?_, by simpa using hc1, hc2⟩
  have e1 : (b.map fun x => (x.toNat : Int)).flatMap (fun z => [Value.int .u8 z]) = b.flatMap eB := by
    rw [List.flatMap_map]; rfl
  rcases hr with hr | ⟨bb, o, hA, hr⟩
  · exact .inl (by simpa using hr)
  · rw [e1] at hr; exact .inr ⟨bb, o, hA, hr⟩
theorem open_i64s (ht : P.underlying t = some (.slice e)) (he : P.underlying e = some (.int .i64)) (hc : P.cellsOf e = 1) {r : Reach} {rb : Nat} (hv : Value.okWide P w r rb t v) (h : DataW.Trod enc P w base spare held t v d ps) :
    ∃ (A : Option Addr) (xs : List Int) (c : Nat), v = .slice A xs.length c ∧ Rd eI w A xs ∧ xs.length ≤ c ∧ c ≤ maxLen ∧ ∀ z ∈ xs, -9223372036854775808 ≤ z ∧ z ≤ 9223372036854775807 := by
  obtain ⟨A, zs, c, rfl, hr, hc1, hc2, hw⟩ := open_row .i64 ht he hc hv h
  exact ⟨A, zs, c, rfl, hr, hc1, hc2, fun z hz => wf_i64 (hw z hz)⟩
/-- A row of pairs of integers. -/
theorem open_pairs64 {f0 f1 : Field} (ht : P.underlying t = some (.slice e)) (he : P.underlying e = some (.struct #[f0, f1])) (ce : P.cellsOf e = 2) (o0 : f0.offset = 0) (o1 : f1.offset = 1)
    (c0 : P.cellsOf f0.type = 1) (c1 : P.cellsOf f1.type = 1) (u0 : P.underlying f0.type = some (.int .i64)) (u1 : P.underlying f1.type = some (.int .i64)) {r : Reach} {rb : Nat} (hv : Value.okWide P w r rb t v) (h : DataW.Trod enc P w base spare held t v d ps) :
    ∃ (A : Option Addr) (xs : List (Int × Int)) (c : Nat), v = .slice A xs.length c ∧ Rd eP w A xs ∧ xs.length ≤ c ∧ c ≤ maxLen ∧ ∀ z ∈ xs, (-9223372036854775808 ≤ z.1 ∧ z.1 ≤ 9223372036854775807) ∧ (-9223372036854775808 ≤ z.2 ∧ z.2 ≤ 9223372036854775807) := by
  obtain ⟨va, len, cap, rfl⟩ := Go.WideShapes.okWide_slice ht hv
  obtain ⟨n, hn⟩ := h
  rcases open_slice_pairs ht he ce o0 o1 c0 c1 hn with ⟨h1, _⟩ | ⟨a, len', cap', m, n, V0, V1, D0, D1, P0, P1, h1, _, hl, hm, hmm, _, hcell⟩
  · cases h1
    exact ⟨none, [], 0, rfl, .inl rfl, Nat.le_refl _, by simp [maxLen], fun z hz => by cases hz⟩
  · cases h1
    have hlm : len ≤ m := by rw [hmm]; split <;> omega
    obtain ⟨q, hq⟩ := choose_lt (α := Int × Int) (n := len) (p := fun i q => w.cell? (a.add (i * 2)) = some (.int .i64 q.1) ∧ w.cell? (a.add (i * 2 + 1)) = some (.int .i64 q.2) ∧ (-9223372036854775808 ≤ q.1 ∧ q.1 ≤ 9223372036854775807) ∧ (-9223372036854775808 ≤ q.2 ∧ q.2 ≤ 9223372036854775807)) (fun i hi => by
      obtain ⟨g0, g1, g2, g3⟩ := hcell i (by omega)
      obtain ⟨x, e2, _, w2⟩ := DataW.trod_int u0 g2
      obtain ⟨y, e3, _, w3⟩ := DataW.trod_int u1 g3
      simp only [List.cons.injEq, and_true] at e2 e3
      rw [e2] at g0; rw [e3] at g1
      exact ⟨(x, y), g0, g1, wf_i64 w2, wf_i64 w3⟩)
    have hl2 : ((List.range len).map q).length = len := by simp
    refine ⟨some a, (List.range len).map q, cap, by rw [hl2], ?_, by rw [hl2]; exact hl, hm, ?_⟩
    · by_cases h0 : len = 0
      · exact .inl (by rw [h0]; rfl)
      · have hsp : a.spot = none := by simpa [Addr.add] using World.cell?_spot (hq 0 (by omega)).1
        refine .inr ⟨a.block, a.off, by rw [← hsp], fun j u hj => ?_⟩
        obtain ⟨x, hx, rfl⟩ := flat2_get (f := fun p : Int × Int => .int .i64 p.1) (g := fun p : Int × Int => .int .i64 p.2) hj
        obtain ⟨hj1, hj2⟩ := List.getElem?_eq_some_iff.1 hx
        simp only [List.getElem_map, List.getElem_range] at hj2
        rw [hl2] at hj1
        subst hj2
        have hqq := hq (j / 2) hj1
        split
        · rename_i hj0
          have := hqq.1
          rw [show j / 2 * 2 = j by omega, add_spot hsp] at this
          exact this
        · rename_i hj0
          have := hqq.2.1
          rw [show j / 2 * 2 + 1 = j by omega, add_spot hsp] at this
          exact this
    · intro z hz
      simp only [List.mem_map, List.mem_range] at hz
      obtain ⟨i, hi, rfl⟩ := hz
      exact (hq i hi).2.2
end
end Go.Sl

/- Drawn regions, more: bits, division, conversions, places in arrays and in rows that are longer than the slice; opened rows of pairs laid as arrays. -/
namespace Go.Sl
open Go.RowKit Go.ChangeShapes Go.WideElems Go.Deep
theorem Sat.only {W w : World} {L : List HProp} (h : Sat W w L) (i : Nat) {p : HProp} (hi : getA L i = some p) : Sat W w [p] := by
  rw [getA_eq] at hi
  exact (h.front i hi).imp fun f ⟨h1, h2, d, l1, l2, q, _⟩ => ⟨h1, h2, d, l1, l2, q, trivial⟩
section
variable {r : Option Nat} {P : Program} {T : List (Nat × TI)} {l : List Oper} {eff : List Nat} {K : Act → World → Prop} {Cs : List (Nat × (World → Prop))} {plan : List Nat} {listed : Array Bool} {w : World} {n : Nat} {s : List (Nat × Value)} {τ : Nat → Value} {ds : List Deferred}
  {ty : TypeId} {ps : String} {af : Array Edge} {d i : Nat} {gd : Option (Nat × Bool)} {α : Type}
theorem DP_bitsE {bo : BinOp} {t yt : TypeId} {x y : Operand} {k : IntKind} {a b e : Int} (e' : Int) (heff : eff.contains i = false) (hi : getA l i = some ⟨some d, .binOp bo t x y yt, ty, ps, af, gd⟩) (hg : gdOK s n l gd) (hx : EVO n s x = some (.int k a)) (hy : EVO n s y = some (.int k b)) (h : bitV bo k a b = some e) (he : e = e')
    (c : DP r P l eff K Cs plan (listed.setIfInBounds i true) (FR n ((d, .int k e') :: s) τ ds) w) : DP r P l eff K Cs (i :: plan) listed (FR n s τ ds) w := by
  subst he
  refine DP_plain (v := .int k e) heff hi (YC.mkD hg fun w _ => ?_) (by rw [put_FR]; exact c)
  show Sem.run P (do let v ← (do eqGuard bo t x y ((FR n s τ ds).eval x) ((FR n s τ ds).eval y); binOp bo t ((FR n s τ ds).eval x) ((FR n s τ ds).eval y)); pure (Next.value v)) w = _
  rw [eval_of hx, eval_of hy]
  cases bo <;> simp only [bitV] at h <;> first | (cases h; done) | (cases h; simp [eqGuard, binOp, Op.intBits, go_sem])
theorem DP_divE {bo : BinOp} {t yt : TypeId} {x y : Operand} {k : IntKind} {a b e : Int} (e' : Int) (heff : eff.contains i = false) (hi : getA l i = some ⟨some d, .binOp bo t x y yt, ty, ps, af, gd⟩) (hg : gdOK s n l gd) (hx : EVO n s x = some (.int k a)) (hy : EVO n s y = some (.int k b)) (hb : ¬ b = 0) (h : divV bo k a b = some e) (he : e = e')
    (c : DP r P l eff K Cs plan (listed.setIfInBounds i true) (FR n ((d, .int k e') :: s) τ ds) w) : DP r P l eff K Cs (i :: plan) listed (FR n s τ ds) w := by
  subst he
  refine DP_plain (v := .int k e) heff hi (YC.mkD hg fun w _ => ?_) (by rw [put_FR]; exact c)
  show Sem.run P (do let v ← (do eqGuard bo t x y ((FR n s τ ds).eval x) ((FR n s τ ds).eval y); binOp bo t ((FR n s τ ds).eval x) ((FR n s τ ds).eval y)); pure (Next.value v)) w = _
  rw [eval_of hx, eval_of hy]
  cases bo <;> simp only [divV] at h <;> first | (cases h; done) | (cases h; simp [eqGuard, binOp, Op.intDiv, hb, go_sem])
theorem DP_shiftE {bo : BinOp} {t yt : TypeId} {x y : Operand} {k k' : IntKind} {a b e : Int} (e' : Int) (heff : eff.contains i = false) (hi : getA l i = some ⟨some d, .binOp bo t x y yt, ty, ps, af, gd⟩) (hg : gdOK s n l gd) (hx : EVO n s x = some (.int k a)) (hy : EVO n s y = some (.int k' b)) (hb : 0 ≤ b) (h : shV bo k a b = some e) (he : e = e')
    (c : DP r P l eff K Cs plan (listed.setIfInBounds i true) (FR n ((d, .int k e') :: s) τ ds) w) : DP r P l eff K Cs (i :: plan) listed (FR n s τ ds) w := by
  subst he
  refine DP_plain (v := .int k e) heff hi (YC.mkD hg fun w _ => ?_) (by rw [put_FR]; exact c)
  show Sem.run P (do let v ← (do eqGuard bo t x y ((FR n s τ ds).eval x) ((FR n s τ ds).eval y); binOp bo t ((FR n s τ ds).eval x) ((FR n s τ ds).eval y)); pure (Next.value v)) w = _
  rw [eval_of hx, eval_of hy]
  have hb' : ¬ b < 0 := by omega
  cases bo <;> simp only [shV] at h <;> first | (cases h; done) | (cases h; simp [eqGuard, binOp, Op.shift, hb', go_sem])
theorem DP_convE {src dst : TypeId} {x : Operand} {k k' : IntKind} {a : Int} {ti tj : TI} (e' : Int) (hT : TyOK P T) (heff : eff.contains i = false) (hi : getA l i = some ⟨some d, .convert src dst x, ty, ps, af, gd⟩) (hg : gdOK s n l gd) (hx : EVO n s x = some (.int k a)) (h1 : lookT T src = some ti) (h2 : lookT T dst = some tj) (hu : tj.u = .int k') (he : k'.wrap a = e')
    (c : DP r P l eff K Cs plan (listed.setIfInBounds i true) (FR n ((d, .int k' e') :: s) τ ds) w) : DP r P l eff K Cs (i :: plan) listed (FR n s τ ds) w := by
  refine DP_pure (T := T) hT heff hi hg (v := .int k' e') ?_ c
  obtain ⟨a1, a2, a3, a4⟩ := tj
  simp only at hu
  subst hu
  simp [evalOp, h1, h2, hx, he]
theorem DP_arithE {k : IntKind} {e : Int} {op : Op} (e' : Int) (heff : eff.contains i = false) (hi : getA l i = some ⟨some d, op, ty, ps, af, gd⟩) (hg : gdOK s n l gd) (h : evalArith n s op = some (k, e)) (he : k.wrap e = e') (c : DP r P l eff K Cs plan (listed.setIfInBounds i true) (FR n ((d, .int k e') :: s) τ ds) w) :
    DP r P l eff K Cs (i :: plan) listed (FR n s τ ds) w := by
  subst he
  refine DP_plain (v := .int k (k.wrap e)) heff hi (YC.mkD hg fun w _ => ?_) (by rw [put_FR]; exact c)
  exact evalArith_run (fun _ _ h => eval_of h) h w
theorem DP_indexRdN [Inhabited α] {enc : α → List Value} {xs : List α} {A : Option Addr} (hr : Rd enc w A xs) {t e : TypeId} {x y : Operand} {ti te : TI} {k : IntKind} {len cap : Nat} {j : Int} (hT : TyOK P T) (heff : eff.contains i = false) (hi : getA l i = some ⟨some d, .indexAddr t x y, ty, ps, af, gd⟩) (hg : gdOK s n l gd)
    (hx : EVO n s x = some (.slice A len cap)) (hy : EVO n s y = some (.int k j)) (ht : lookT T t = some ti) (hu : ti.u = .slice e) (he : lookT T e = some te) (h0 : 0 ≤ j) (h1 : j < len) (h2 : j < xs.length)
    (c : ∀ b o, A = some ⟨b, o, none⟩ → DP r P l eff K Cs plan (listed.setIfInBounds i true) (FR n ((d, .pointer (some ⟨b, o + j.toNat * te.size, none⟩)) :: s) τ ds) w) : DP r P l eff K Cs (i :: plan) listed (FR n s τ ds) w := by
  obtain ⟨b, o, hA⟩ := hr.some h0 h2
  subst hA
  refine DP_plain (v := .pointer (some ⟨b, o + j.toNat * te.size, none⟩)) heff hi (YC.mkD hg fun w _ => ?_) (by rw [put_FR]; exact c b o rfl)
  show Sem.run P (do let v ← Instr.indexAt t ((FR n s τ ds).eval x) ((FR n s τ ds).eval y); pure (Next.value v)) w = _
  rw [eval_of hx, eval_of hy, Sem.run_bind, run_indexAddr (hT _ _ ht) hu (hT _ _ he) h0 h1]; rfl
theorem run_indexArr {t e : TypeId} {ti te : TI} {k : IntKind} {b o m : Nat} {i : Int} (ht : tyOf P t = some ti) (hu : ti.u = .array m e) (he : tyOf P e = some te) (h0 : 0 ≤ i) (h1 : i < m) :
    (Instr.indexAt t (.pointer (some ⟨b, o, none⟩)) (.int k i)).run P w = .ok (.pointer (some ⟨b, o + i.toNat * te.size, none⟩)) w := by
  have h2 := ty_under ht w
  have h3 := ty_sizeOf he w
  rw [hu] at h2
  have e : (⟨b, o, none⟩ : Addr).add (i.toNat * te.size) = ⟨b, o + i.toNat * te.size, none⟩ := by unfold Addr.add; split <;> simp_all
  simp only [Instr.indexAt, asIntOf, Sem.run_bind, Sem.run_pure, Result.andThen, h2]
  simp [h0, h1, Sem.run_bind, h3, Result.andThen, e, h2, Instr.sureAddr]
theorem DP_indexArr {t e : TypeId} {x y : Operand} {ti te : TI} {k : IntKind} {b o m : Nat} {j : Int} (p : Nat) (hT : TyOK P T) (heff : eff.contains i = false) (hi : getA l i = some ⟨some d, .indexAddr t x y, ty, ps, af, gd⟩) (hg : gdOK s n l gd)
    (hx : EVO n s x = some (.pointer (some ⟨b, o, none⟩))) (hy : EVO n s y = some (.int k j)) (ht : lookT T t = some ti) (hu : ti.u = .array m e) (he : lookT T e = some te) (h0 : 0 ≤ j) (h1 : j < m) (hp : j.toNat * te.size = p)
    (c : DP r P l eff K Cs plan (listed.setIfInBounds i true) (FR n ((d, .pointer (some ⟨b, o + p, none⟩)) :: s) τ ds) w) : DP r P l eff K Cs (i :: plan) listed (FR n s τ ds) w := by
  subst hp
  refine DP_plain (v := .pointer (some ⟨b, o + j.toNat * te.size, none⟩)) heff hi (YC.mkD hg fun w _ => ?_) (by rw [put_FR]; exact c)
  show Sem.run P (do let v ← Instr.indexAt t ((FR n s τ ds).eval x) ((FR n s τ ds).eval y); pure (Next.value v)) w = _
  rw [eval_of hx, eval_of hy, Sem.run_bind, run_indexArr (hT _ _ ht) hu (hT _ _ he) h0 h1]; rfl
end
section
variable {H : Type} {enc : TypeId × Value → H} {P : Program} {w : World} {base : Nat} {spare : Nat → Bool} {held : Bool} {t e : TypeId} {v : Value} {d : DataW H} {ps : List MemPlace}
/-- A row of arrays of two integers. -/
theorem open_arrs64 {q : TypeId} (ht : P.underlying t = some (.slice e)) (he : P.underlying e = some (.array 2 q)) (ce : P.cellsOf e = 2) (cq : P.cellsOf q = 1) (uq : P.underlying q = some (.int .i64)) {r : Reach} {rb : Nat} (hv : Value.okWide P w r rb t v) (h : DataW.Trod enc P w base spare held t v d ps) :
    ∃ (A : Option Addr) (xs : List (Int × Int)) (c : Nat), v = .slice A xs.length c ∧ Rd eP w A xs ∧ xs.length ≤ c ∧ c ≤ maxLen ∧ ∀ z ∈ xs, (-9223372036854775808 ≤ z.1 ∧ z.1 ≤ 9223372036854775807) ∧ (-9223372036854775808 ≤ z.2 ∧ z.2 ≤ 9223372036854775807) := by
  obtain ⟨va, len, cap, rfl⟩ := Go.WideShapes.okWide_slice ht hv
  obtain ⟨n, hn⟩ := h
  rcases open_slice ht hn with ⟨h1, _⟩ | ⟨a, len', cap', m, n, D, Pl, h1, _, hl, hm, hmm, _, hcell⟩
  · cases h1
    exact ⟨none, [], 0, rfl, .inl rfl, Nat.le_refl _, by simp [maxLen], fun z hz => by cases hz⟩
  · cases h1
    have hlm : len ≤ m := by rw [hmm]; split <;> omega
    obtain ⟨q, hq⟩ := choose_lt (α := Int × Int) (n := len) (p := fun i q => w.cell? (a.add (i * 2)) = some (.int .i64 q.1) ∧ w.cell? (a.add (i * 2 + 1)) = some (.int .i64 q.2) ∧ (-9223372036854775808 ≤ q.1 ∧ q.1 ≤ 9223372036854775807) ∧ (-9223372036854775808 ≤ q.2 ∧ q.2 ≤ 9223372036854775807)) (fun i hi => by
      obtain ⟨cs, g0, g1⟩ := hcell i (by omega)
      rw [ce] at g0
      obtain ⟨_, hlen, hc⟩ := World.cells?_some g0
      obtain ⟨xs, k, _, _, _, hxl, hf⟩ := DataW.trod_array he g1
      match cs, hlen with
      | [v0, v1], _ =>
        have f0 := hf 0 (by omega)
        have f1 := hf 1 (by omega)
        have e0 := hc 0 (by omega)
        have e1 := hc 1 (by omega)
        rw [add_add] at e0 e1
        match xs, hxl with
        | [y0, y1], _ =>
          simp [cq] at f0 f1
          obtain ⟨x, e2, _, w2⟩ := DataW.trod_int uq f0
          obtain ⟨y, e3, _, w3⟩ := DataW.trod_int uq f1
          simp only [List.cons.injEq, and_true] at e2 e3
          exact ⟨(x, y), by simpa [e2] using e0, by simpa [e3] using e1, wf_i64 w2, wf_i64 w3⟩)
    have hl2 : ((List.range len).map q).length = len := by simp
    refine ⟨some a, (List.range len).map q, cap, by rw [hl2], ?_, by rw [hl2]; exact hl, hm, ?_⟩
    · by_cases h0 : len = 0
      · exact .inl (by rw [h0]; rfl)
      · have hsp : a.spot = none := by simpa [Addr.add] using World.cell?_spot (hq 0 (by omega)).1
        refine .inr ⟨a.block, a.off, by rw [← hsp], fun j u hj => ?_⟩
        obtain ⟨x, hx, rfl⟩ := flat2_get (f := fun p : Int × Int => .int .i64 p.1) (g := fun p : Int × Int => .int .i64 p.2) hj
        obtain ⟨hj1, hj2⟩ := List.getElem?_eq_some_iff.1 hx
        simp only [List.getElem_map, List.getElem_range] at hj2
        rw [hl2] at hj1
        subst hj2
        have hqq := hq (j / 2) hj1
        split
        · rename_i hj0
          have := hqq.1
          rw [show j / 2 * 2 = j by omega, add_spot hsp] at this
          exact this
        · rename_i hj0
          have := hqq.2.1
          rw [show j / 2 * 2 + 1 = j by omega, add_spot hsp] at this
          exact this
    · intro z hz
      simp only [List.mem_map, List.mem_range] at hz
      obtain ⟨i, hi, rfl⟩ := hz
      exact (hq i hi).2.2
end
end Go.Sl

/- The bytes of a number (1.2), and of a container (5.11). -/
namespace Go.Sl
open Go.RowKit
def ubK : Nat → Nat → List UInt8
  | 0, _ => []
  | k + 1, n => if n < 128 then [UInt8.ofNat n] else UInt8.ofNat (n % 128 + 128) :: ubK k (n / 128)
def ub (n : Nat) : List UInt8 := ubK 10 n
theorem ubK_len : ∀ k n, (ubK k n).length ≤ k
  | 0, n => by simp [ubK]
  | k + 1, n => by
    unfold ubK; split
    · simp
    · have := ubK_len k (n / 128); simp; omega
theorem ub_len (n : Nat) : (ub n).length ≤ 10 := ubK_len 10 n
theorem ubK_last {k n : Nat} (hk : 1 ≤ k) (h : n < 128) : ubK k n = [UInt8.ofNat n] := by
  obtain ⟨k, rfl⟩ : ∃ j, k = j + 1 := ⟨k - 1, by omega⟩
  unfold ubK; rw [if_pos h]
theorem ubK_go {k n : Nat} (hk : 1 ≤ k) (h : ¬ n < 128) : ubK k n = UInt8.ofNat (n % 128 + 128) :: ubK (k - 1) (n / 128) := by
  obtain ⟨k, rfl⟩ : ∃ j, k = j + 1 := ⟨k - 1, by omega⟩
  rw [show k + 1 - 1 = k by omega]
  conv => lhs; unfold ubK
  rw [if_neg h]
theorem ub_room {k n : Nat} (hk : 1 ≤ k) (hn : n < 128 ^ k) (h : ¬ n < 128) : 1 ≤ k - 1 ∧ n / 128 < 128 ^ (k - 1) := by
  obtain ⟨k, rfl⟩ : ∃ j, k = j + 1 := ⟨k - 1, by omega⟩
  rw [show k + 1 - 1 = k by omega]
  rw [Nat.pow_succ] at hn
  refine ⟨?_, Nat.div_lt_of_lt_mul (by omega)⟩
  cases k with
  | zero => simp at hn; omega
  | succ k => omega
theorem ofNat_toNat8 {n : Nat} (h : n < 256) : ((UInt8.ofNat n).toNat : Int) = (n : Int) := by
  rw [UInt8.toNat_ofNat', Nat.mod_eq_of_lt (by omega)]
theorem wrap8 (n : Nat) : IntKind.u8.wrap (n : Int) = ((n % 256 : Nat) : Int) := by simp [IntKind.wrap, IntKind.bits, IntKind.signed]
theorem shr7 (v : Nat) : ((v : Int).fdiv (2 ^ (min (7 : Int).toNat IntKind.u64.bits))) = ((v / 128 : Nat) : Int) := by
  have e : (2 : Int) ^ (min (7 : Int).toNat IntKind.u64.bits) = 128 := by decide
  rw [e, Int.fdiv_eq_ediv_of_nonneg _ (by decide)]; rfl
theorem quo128 (v : Nat) (h : v < 18446744073709551616) : IntKind.u64.wrap ((v : Int).tdiv 128) = ((v / 128 : Nat) : Int) := by
  rw [Int.tdiv_eq_ediv_of_nonneg (by omega)]
  exact wrap_u64 (by omega) (by omega)
theorem rem128 (v : Nat) : (v : Int).tmod 128 = ((v % 128 : Nat) : Int) := by
  rw [Int.tmod_eq_emod_of_nonneg (by omega)]; rfl
end Go.Sl

/- The bytes of a container (5.11). -/
namespace Go.Sl
/-- Values, behind p: none where they do not rise. -/
def encVs : List Int → Option Int → List UInt8 → Option (List UInt8)
  | [], _, out => some out
  | x :: xs, none, out => if x < 0 then none else encVs xs (some x) (out ++ ub x.toNat)
  | x :: xs, some p, out => if x ≤ p then none else encVs xs (some x) (out ++ ub (x - p).toNat)
def encK (l : List (Int × Int)) : List Int → Int → List UInt8 → Int × List UInt8
  | [], _, out => (0, out)
  | k :: ks, prev, out => if k < 1 then (50, []) else
    match encVs (getK l k) none (out ++ ub (k - prev).toNat ++ ub (getK l k).length) with
    | none => (52, [])
    | some out' => encK l ks k out'
def prevV (vs : List Int) (j : Nat) : Option Int := if j = 0 then none else some (rd vs ((j : Int) - 1))
def prevK (ks : List Int) (i : Nat) : Int := if i = 0 then 0 else rd ks ((i : Int) - 1)
theorem rdN {β : Type} [Inhabited β] {s : List β} {k : Nat} (hk : k < s.length) : rd s (k : Int) = s[k] := by
  unfold rd; rw [Int.toNat_natCast, List.getD_eq_getElem?_getD, List.getElem?_eq_getElem hk]; rfl
theorem drop_rd {β : Type} [Inhabited β] {s : List β} {k : Nat} (hk : k < s.length) : s.drop k = rd s (k : Int) :: s.drop (k + 1) := by
  rw [rdN hk]; exact (List.drop_eq_getElem_cons hk)
theorem prevV_next (vs : List Int) (j : Nat) : prevV vs (j + 1) = some (rd vs (j : Int)) := by
  unfold prevV
  rw [if_neg (by omega)]
  have : ((j + 1 : Nat) : Int) - 1 = j := by omega
  rw [this]
theorem prevK_next (ks : List Int) (j : Nat) : prevK ks (j + 1) = rd ks (j : Int) := by
  unfold prevK
  rw [if_neg (by omega)]
  have : ((j + 1 : Nat) : Int) - 1 = j := by omega
  rw [this]
theorem encVs_0 {vs : List Int} {out : List UInt8} (h : 0 < vs.length) : encVs vs none out = if rd vs ((0 : Nat) : Int) < 0 then none else encVs (vs.drop 1) (prevV vs 1) (out ++ ub (rd vs ((0 : Nat) : Int)).toNat) := by
  have e := drop_rd (k := 0) h
  rw [List.drop_zero] at e
  conv => lhs; rw [e]
  have := prevV_next vs 0
  rw [this]; rfl
theorem encVs_at {vs : List Int} {out : List UInt8} {j : Nat} (h0 : 0 < j) (h : j < vs.length) : encVs (vs.drop j) (prevV vs j) out = if rd vs (j : Int) ≤ rd vs ((j : Int) - 1) then none else encVs (vs.drop (j + 1)) (prevV vs (j + 1)) (out ++ ub (rd vs (j : Int) - rd vs ((j : Int) - 1)).toNat) := by
  rw [drop_rd h, prevV_next]
  unfold prevV
  rw [if_neg (by omega)]; rfl
theorem encK_at {l : List (Int × Int)} {ks : List Int} {out : List UInt8} {i : Nat} (h : i < ks.length) : encK l (ks.drop i) (prevK ks i) out = if rd ks (i : Int) < 1 then (50, []) else
    match encVs (getK l (rd ks (i : Int))) none (out ++ ub (rd ks (i : Int) - prevK ks i).toNat ++ ub (getK l (rd ks (i : Int))).length) with
    | none => (52, [])
    | some out' => encK l (ks.drop (i + 1)) (prevK ks (i + 1)) out' := by
  rw [drop_rd h, prevK_next]; rfl
end Go.Sl

/- What a range over a container gives: the keys within bounds, the values of each. -/
namespace Go.Sl
open Go.RowKit
section
variable {α : Type}
def hdr (mu : Mu α) (k : Int) : Option Addr × Nat × Nat := match mu.E.find? (fun e => decide (e.key = k)) with
  | some e => (e.A, e.vals.length, e.c)
  | none => (none, 0, 0)
def eH (h : Option Addr × Nat × Nat) : List Value := [.slice h.1 h.2.1 h.2.2]
theorem eH_ok : (∀ x, (eH x).length = 1) ∧ ∀ x, ∀ u ∈ eH x, u.oneCell' = true := ⟨fun _ => rfl, fun _ u hu => by simp [eH] at hu; subst hu; rfl⟩
theorem hdr_ok {mu : Mu α} {l : List (Int × α)} (ho : mu.Of l) (k : Int) : ∃ A c, hdr mu k = (A, (getK l k).length, c) ∧ (findV (kvsE mu.E) k).getD (.slice none 0 0) = .slice A (getK l k).length c ∧ ((∃ x ∈ mu.E, x.A = A ∧ x.vals = getK l k) ∨ getK l k = []) := by
  rcases ho.find k with ⟨E1, e, E2, hE, hk, h1, h2, hv⟩ | ⟨h1, hg⟩
  · refine ⟨e.A, e.c, ?_, ?_, .inl ⟨e, by rw [hE]; simp, rfl, hv⟩⟩
    · have : mu.E.find? (fun e => decide (e.key = k)) = some e := by
        rw [hE, List.find?_append]
        have : E1.find? (fun e => decide (e.key = k)) = none := by
          rw [List.find?_eq_none]; intro x hx; simpa using fun h => h1 x hx h.symm
        rw [this]; simp [hk]
      unfold hdr
      rw [this, ← hv]
    · rw [hE, ← hv]; subst hk
      have hkk : kvsE (E1 ++ e :: E2) = kvsE E1 ++ (e.key, .slice e.A e.vals.length e.c, e.born) :: kvsE E2 := by simp [kvsE]
      rw [hkk, findV_mid (kvsE_keys h1)]; rfl
  · refine ⟨none, 0, ?_, ?_, .inr hg⟩
    · have : mu.E.find? (fun e => decide (e.key = k)) = none := by
        rw [List.find?_eq_none]; intro x hx; simpa using fun h => h1 x hx h.symm
      unfold hdr
      rw [this, hg]; rfl
    · rw [findV_none (kvsE_keys h1), hg]; rfl
def rangeK (lo hi : Int) (ks : List Int) : List Int := ks.filter fun k => decide (lo ≤ k ∧ k ≤ hi)
def seqP (l : List (Int × α)) (ks : List Int) : List (Int × α) := ks.flatMap fun k => (getK l k).map fun v => (k, v)
theorem rangeK_len (lo hi : Int) (ks : List Int) : (rangeK lo hi ks).length ≤ ks.length := List.length_filter_le _ _
theorem rangeK_in {lo hi : Int} {ks : List Int} {i : Nat} (h : i < ks.length) (h1 : lo ≤ ks[i]) (h2 : ks[i] ≤ hi) : rangeK lo hi (ks.take (i + 1)) = rangeK lo hi (ks.take i) ++ [ks[i]] := by
  unfold rangeK
  rw [List.take_add_one, List.filter_append, List.getElem?_eq_getElem h]
  simp [h1, h2]
theorem rangeK_out {lo hi : Int} {ks : List Int} {i : Nat} (h : i < ks.length) (h1 : ¬ (lo ≤ ks[i] ∧ ks[i] ≤ hi)) : rangeK lo hi (ks.take (i + 1)) = rangeK lo hi (ks.take i) := by
  unfold rangeK
  rw [List.take_add_one, List.filter_append, List.getElem?_eq_getElem h]
  simp only [Option.toList_some]
  rw [List.filter_cons, if_neg (by simpa using h1)]; simp
theorem rdAt {β : Type} [Inhabited β] {s : List β} {k : Nat} (hk : k < s.length) : rd s (k : Int) = s[k] := by
  unfold rd; rw [Int.toNat_natCast, List.getD_eq_getElem?_getD, List.getElem?_eq_getElem hk]; rfl
theorem seqP_append (l : List (Int × α)) (a b : List Int) : seqP l (a ++ b) = seqP l a ++ seqP l b := by simp [seqP]
theorem take_drop_at {β : Type} : ∀ {xs : List β} {i : Nat} (h : i < xs.length), xs = xs.take i ++ xs[i] :: xs.drop (i + 1)
  | x :: xs, 0, _ => by simp
  | x :: xs, i + 1, h => by
    have := take_drop_at (xs := xs) (i := i) (by simpa using h)
    simp only [List.take_succ_cons, List.cons_append, List.getElem_cons_succ, List.drop_succ_cons]
    rw [← this]
theorem seqP_cons (l : List (Int × α)) (k : Int) (b : List Int) : seqP l (k :: b) = ((getK l k).map fun v => (k, v)) ++ seqP l b := by simp [seqP]
theorem map_split {k : Int} {vs : List α} {j : Nat} (hj : j < vs.length) : (vs.map fun v => (k, v)) = ((vs.take j).map fun v => (k, v)) ++ (k, vs[j]) :: ((vs.drop (j + 1)).map fun v => (k, v)) := by
  have := congrArg (List.map fun v => (k, v)) (take_drop_at hj)
  rw [List.map_append, List.map_cons] at this
  exact this
theorem seqP_split (l : List (Int × α)) {fk : List Int} {i j : Nat} (hi : i < fk.length) (hj : j < (getK l fk[i]).length) :
    seqP l fk = (seqP l (fk.take i) ++ ((getK l fk[i]).take j).map fun v => (fk[i], v)) ++ (fk[i], (getK l fk[i])[j]) :: ((((getK l fk[i]).drop (j + 1)).map fun v => (fk[i], v)) ++ seqP l (fk.drop (i + 1))) := by
  have h1 := congrArg (seqP l) (take_drop_at hi)
  rw [seqP_append, seqP_cons, map_split hj] at h1
  rw [h1]; simp only [List.append_assoc, List.cons_append]
theorem takeNext {β : Type} : ∀ {xs : List β} {i : Nat} (h : i < xs.length), xs.take (i + 1) = xs.take i ++ [xs[i]]
  | x :: xs, 0, _ => by simp
  | x :: xs, i + 1, h => by
    have := takeNext (xs := xs) (i := i) (by simpa using h)
    rw [List.take_succ_cons, this]; simp
theorem seqP_next (l : List (Int × α)) {fk : List Int} {i : Nat} (hi : i < fk.length) : seqP l (fk.take (i + 1)) = seqP l (fk.take i) ++ (getK l fk[i]).map fun v => (fk[i], v) := by
  rw [takeNext hi, seqP_append, seqP_cons]; simp [seqP]
theorem map_next {k : Int} {vs : List α} {j : Nat} (hj : j < vs.length) : ((vs.take (j + 1)).map fun v => (k, v)) = ((vs.take j).map fun v => (k, v)) ++ [(k, vs[j])] := by
  rw [takeNext hj, List.map_append]; rfl
end
end Go.Sl

/- A range over a function: the statement, its rounds, the calls of yield, and how a function leaves that holds one. -/
namespace Go.Sl
open Go.RowKit

section
variable {P : Program}
/-- A call of yield: what it comes to. -/
def Yld (P : Program) (l : Nat) (args : Array Value) (w : World) (Post : Value → World → Prop) : Prop :=
  ∃ f tmps assign body, (Instr.yield l args).run P w = .ok (.round l f tmps assign body) w ∧ RoundIn (FW none) 0 P l f tmps assign body w (Ret Post)
theorem Yld.post {l : Nat} {args : Array Value} {w : World} {A B : Value → World → Prop} (h : Yld P l args w A) (hab : ∀ v w', A v w' → B v w') : Yld P l args w B := by
  obtain ⟨f, t, a, b, h1, h2⟩ := h
  refine ⟨f, t, a, b, h1, h2.mono fun e w' q => ?_⟩
  cases e with
  | returned v => exact hab v w' q
  | _ => exact q.elim
variable {ops : Array Oper} {Q : Exit → Act → World → Prop} {rest : List Oper} {n : Nat} {s : List (Nat × Value)} {τ : Nat → Value} {ds : List Deferred} {w : World}
  {ty : TypeId} {ps : String} {af : Array Edge} {d : Nat} {W : World} {L : List HProp}
theorem run_cally {f : Operand} {args : Array Operand} {ts : Array TypeId} {l : Nat} {vs : List Value} {x : Next} {o : Oper} (ho : o.op = .call { callee := .value f, args := args, argTypes := ts }) (hf : EVO n s f = some (.func (.yield l) #[] #[])) (hargs : evalL n s args.toList = some vs)
    (he : (Instr.yield l vs.toArray).run P w = .ok x w) : (execOp (FR n s τ ds).eval o).run P w = .ok x w := by
  unfold execOp
  rw [ho]
  show Sem.run P (do let d ← resolve (FR n s τ ds).eval _ o.type; invoke d.target d.args) w = _
  have e1 := evalA_run (ρ := (FR n s τ ds).eval) (fun x v => eval_of) hargs
  simp only [resolve, e1, eval_of hf, Deferred.ofValue, Sem.run_bind, Sem.run_pure, Result.andThen, invoke]
  simpa using he
theorem LW_yield {f : Operand} {args : Array Operand} {ts : Array TypeId} {l : Nat} {vs : List Value} {Post : Value → World → Prop} (hf : EVO n s f = some (.func (.yield l) #[] #[])) (hargs : evalL n s args.toList = some vs)
    (hc : Yld P l vs.toArray w Post) (k : ∀ v w', Post v w' → LW none P ops Q rest (FR n ((d, v) :: s) τ ds) w') :
    LW none P ops Q (⟨some d, .call { callee := .value f, args := args, argTypes := ts }, ty, ps, af, none⟩ :: rest) (FR n s τ ds) w := by
  obtain ⟨fn, tm, sn, bo, hrun, hround⟩ := hc
  refine wpListIn_plain rfl fun K hK => ⟨?_, ?_⟩
  · intro f' hf'
    have e := run_cally (τ := τ) (ds := ds) (o := ⟨some d, .call { callee := .value f, args := args, argTypes := ts }, ty, ps, af, none⟩) rfl hf hargs hrun
    trivial
  · rw [Oper.semAt_eq _ _ _ (fun c e => by cases e), run_cally rfl hf hargs hrun, Oper.uponIn_round]
    refine ⟨fun e => (by cases e), hround.mono fun e w' q => ?_⟩
    cases e with
    | returned v => exact hK _ _ (by rw [put_FR]; exact k v w' q)
    | panicked c => exact q.elim
    | outgrown => exact q.elim
/-- The record of a loop of two parameters. -/
def recOf (fn : FuncId) (tm : Array Value) (p1 p2 : Tmp) (assign body : Code) (D : Nat) (st : LoopState) (pe : Option Code) : Loop := { state := st, pending := pe, fn := fn, tmps := tm, params := #[p1, p2], assign := assign, body := body, defers := D }
def Begin (P : Program) (l : Nat) (K : Act → World → Prop) (a : Act) (w : World) : Prop := ∃ w', (Instr.beginRound l).run P w = .ok () w' ∧ K a w'
section
variable {fn : FuncId} {tm : Array Value} {p1 p2 : Tmp} {sn bo : Code} {D l : Nat} {a : Act} {Post : Value → World → Prop}
theorem Begin_of (i : Nat) {K : Act → World → Prop} (hs : Sat W w L) (hi : getA L i = some (Bk l (.loop (recOf fn tm p1 p2 sn bo D .ready none)))) (k : ∀ w', Sat W w' (L.set i (Bk l (.loop (recOf fn tm p1 p2 sn bo D .busy none)))) → K a w') : Begin P l K a w := by
  rw [getA_eq] at hi
  exact ⟨_, run_beginRound (hs.at i hi).2 rfl, k _ (hs.putObj i hi _)⟩
/-- The ends of a round. -/
theorem RP_n (i : Nat) (hs : Sat W w L) (hi : getA L i = some (Bk l (.loop (recOf fn tm p1 p2 sn bo D .busy none)))) (k : ∀ w', Sat W w' (L.set i (Bk l (.loop (recOf fn tm p1 p2 sn bo D .ready none)))) → Post (.bool true) w') : roundPost P l (Ret Post) .normal a w := by
  rw [getA_eq] at hi
  exact ⟨_, _, run_endRound none (hs.at i hi).2, k _ (hs.putObj i hi _)⟩
theorem RP_r (i : Nat) (hs : Sat W w L) (hi : getA L i = some (Bk l (.loop (recOf fn tm p1 p2 sn bo D .busy none)))) (k : ∀ w', Sat W w' (L.set i (Bk l (.loop (recOf fn tm p1 p2 sn bo D .done (some .ret))))) → Post (.bool false) w') : roundPost P l (Ret Post) .ret a w := by
  rw [getA_eq] at hi
  exact ⟨_, _, run_endRound (some .ret) (hs.at i hi).2, k _ (hs.putObj i hi _)⟩
theorem RP_e (i : Nat) {j : Nat} (hs : Sat W w L) (hi : getA L i = some (Bk l (.loop (recOf fn tm p1 p2 sn bo D .busy none)))) (k : ∀ w', Sat W w' (L.set i (Bk l (.loop (recOf fn tm p1 p2 sn bo D .done (some (.exit j)))))) → Post (.bool false) w') : roundPost P l (Ret Post) (.exit j) a w := by
  rw [getA_eq] at hi
  exact ⟨_, _, run_endRound (some (.exit j)) (hs.at i hi).2, k _ (hs.putObj i hi _)⟩
/-- A round, out of its code. -/
theorem Yld_of (i : Nat) {v1 v2 : Value} (hs : Sat W w L) (hi : getA L i = some (Bk l (.loop (recOf fn (FR n s τ ds).tmps p1 p2 sn bo D .ready none))))
    (h : CW (some l) P sn (Exit.then (Begin P l (CW (some l) P bo (roundPost P l (Ret Post)))) (fun _ _ _ => False)) (FR n ((p2, v2) :: (p1, v1) :: s) τ []) w) : Yld P l #[v1, v2] w Post := by
  rw [getA_eq] at hi
  refine ⟨_, _, _, _, run_yield (hs.at i hi).2 rfl, ?_⟩
  have e : ({ tmps := ((#[p1, p2] : Array Tmp).zip #[v1, v2]).foldl (fun tmps (t, a) => tmps.setIfInBounds t a) (FR n s τ ds).tmps, defers := [] } : Act) = FR n ((p2, v2) :: (p1, v1) :: s) τ [] := by
    rw [← put_FR, ← put_FR]
    have e0 : (FR n s τ ds).tmps = (FR n s τ []).tmps := rfl
    rw [e0]
    obtain ⟨a0, ha0⟩ : ∃ a0, FR n s τ [] = a0 := ⟨_, rfl⟩
    have hd0 : a0.defers = [] := by rw [← ha0]; rfl
    rw [ha0]
    simp [Act.put, hd0]
  refine roundIn_of_wpIn trivial ?_
  have e2 : ({ tmps := ((recOf fn (FR n s τ ds).tmps p1 p2 sn bo D .ready none).params.zip #[v1, v2]).foldl (fun tmps (t, a) => tmps.setIfInBounds t a) (recOf fn (FR n s τ ds).tmps p1 p2 sn bo D .ready none).tmps, defers := [] } : Act) = FR n ((p2, v2) :: (p1, v1) :: s) τ [] := e
  rw [e2]
  exact h
end
/-- What is asked behind the function that was ranged over. -/
def After (P : Program) (r : Option Nat) (W : World) (l : Nat) (fn : FuncId) (tm : Array Value) (p1 p2 : Tmp) (sn bo : Code) (D : Nat) (Q : Exit → Act → World → Prop) (a : Act) (w3 : World) : Prop :=
  ∃ L' st pe, Sat W w3 (Bk l (.loop (recOf fn tm p1 p2 sn bo D st pe)) :: L') ∧ st ≠ .busy ∧ ∀ w4, Sat W w4 L' → (match pe with
    | none => Q .normal a w4
    | some c => CW r P c Q a w4)
theorem After_of {r : Option Nat} {w3 : World} {l : Nat} {fn : FuncId} {tm : Array Value} {p1 p2 : Tmp} {sn bo : Code} {D : Nat} {a : Act} (h : After P r W l fn tm p1 p2 sn bo D Q a w3) {v : Value} : rangePost (FW r) 0 P l Q a (.returned v) w3 := by
  obtain ⟨L', st, pe, hs, hst, hk⟩ := h
  have hb := (hs.at 0 rfl).2
  refine ⟨pe, _, run_endLoop hb hst, ?_⟩
  have := hk _ (hs.putObj 0 rfl (.loop { recOf fn tm p1 p2 sn bo D st pe with state := .exhausted })).drop1
  cases pe with
  | none => exact this
  | some c => exact this
theorem CW_range {g : Operand} {p1 p2 : Tmp} {sn bo : Code} {gf : FuncId} {lb : List Value} (hs : Sat W w L) (hg : EVO n s g = some (.func (.func gf) #[] lb.toArray)) (he : Ent P gf)
    (h : ∀ fn l D w1, Sat W w1 (Bk l (.loop (recOf fn (FR n s τ ds).tmps p1 p2 sn bo D .ready none)) :: Bk D (.deferred (some [])) :: L) →
      Calls P gf (.func (.yield l) #[] #[] :: lb).toArray w1 (Ret fun _ w3 => After P none W l fn (FR n s τ ds).tmps p1 p2 sn bo D Q (FR n s τ ({ target := .collected D, args := #[] } :: ds)) w3)) :
    CW none P (.rangeFunc g #[p1, p2] sn bo) Q (FR n s τ ds) w := by
  refine wpIn_rangeFunc fun fn _ => ?_
  obtain ⟨W1, hW1⟩ : ∃ W1, (w.alloc (.deferred (some []))).alloc (.loop (recOf fn (FR n s τ ds).tmps p1 p2 sn bo w.heap.size .ready none)) = W1 := ⟨_, rfl⟩
  have hs1 := (hs.alloc (.deferred (some []))).alloc (.loop (recOf fn (FR n s τ ds).tmps p1 p2 sn bo w.heap.size .ready none))
  rw [World.size_alloc, hW1] at hs1
  have h1 := h fn (w.heap.size + 1) w.heap.size W1 hs1
  refine ⟨w.heap.size + 1, [{ target := .collected w.heap.size, args := #[] }], W1, { target := .fn (.func gf) lb.toArray, args := #[.func (.yield (w.heap.size + 1)) #[] #[]] }, W1, gf, #[.func (.yield (w.heap.size + 1)) #[] #[]] ++ lb.toArray, W1, by rw [← hW1]; exact run_enterLoop_outer _ _ _ _ _, ?_, fun _ _ => trivial, ?_, fun e => (by cases e), ?_⟩
  · simp only [resolve, eval_of hg]
    simp [go_sem]
  · simp [invoke, go_sem, he.run]
  · have e1 : (#[.func (.yield (w.heap.size + 1)) #[] #[]] ++ lb.toArray : Array Value) = (.func (.yield (w.heap.size + 1)) #[] #[] :: lb).toArray := by simp
    rw [e1]
    refine (Sl.Calls.inFW h1 _).mono fun e w' q => ?_
    cases e with
    | returned v => exact After_of q
    | _ => exact q.elim
/-- Within a round of loop l0. -/
theorem CW_rangeN (j : Nat) {l0 : Nat} {r0 : Loop} {g : Operand} {p1 p2 : Tmp} {sn bo : Code} {gf : FuncId} {lb : List Value} (hs : Sat W w L) (hj : getA L j = some (Bk l0 (.loop r0))) (hg : EVO n s g = some (.func (.func gf) #[] lb.toArray)) (he : Ent P gf)
    (h : ∀ fn l w1, Sat W w1 (Bk l (.loop (recOf fn (FR n s τ ds).tmps p1 p2 sn bo r0.defers .ready none)) :: L) →
      Calls P gf (.func (.yield l) #[] #[] :: lb).toArray w1 (Ret fun _ w3 => After P (some l0) W l fn (FR n s τ ds).tmps p1 p2 sn bo r0.defers Q (FR n s τ ds) w3)) :
    CW (some l0) P (.rangeFunc g #[p1, p2] sn bo) Q (FR n s τ ds) w := by
  rw [getA_eq] at hj
  refine wpIn_rangeFunc fun fn _ => ?_
  obtain ⟨W1, hW1⟩ : ∃ W1, w.alloc (.loop (recOf fn (FR n s τ ds).tmps p1 p2 sn bo r0.defers .ready none)) = W1 := ⟨_, rfl⟩
  have hs1 := hs.alloc (.loop (recOf fn (FR n s τ ds).tmps p1 p2 sn bo r0.defers .ready none))
  rw [hW1] at hs1
  have h1 := h fn w.heap.size W1 hs1
  refine ⟨w.heap.size, [], W1, { target := .fn (.func gf) lb.toArray, args := #[.func (.yield w.heap.size) #[] #[]] }, W1, gf, #[.func (.yield w.heap.size) #[] #[]] ++ lb.toArray, W1, by rw [← hW1]; exact run_enterLoop_inner (hs.at j hj).2 _ _ _ _ _, ?_, fun _ _ => trivial, ?_, fun e => (by cases e), ?_⟩
  · simp only [resolve, eval_of hg]
    simp [go_sem]
  · simp [invoke, go_sem, he.run]
  · have e1 : (#[.func (.yield w.heap.size) #[] #[]] ++ lb.toArray : Array Value) = (.func (.yield w.heap.size) #[] #[] :: lb).toArray := by simp
    rw [e1]
    refine (Sl.Calls.inFW h1 _).mono fun e w' q => ?_
    cases e with
    | returned v => exact After_of q
    | _ => exact q.elim
/- HOW A FUNCTION LEAVES THAT HOLDS SUCH LOOPS -/
def RM (P : Program) (f : Func) (Post : Value → World → Prop) (tm : Array Value) (ds : List Deferred) (w : World) : Prop := LeavesInM (FW none) 0 P f tm (Ret Post) ds .returning w
theorem Calls_ofM {f : FuncId} {fn : Func} {c : Code} {args : List Value} {w : World} {R : Ending → World → Prop} (hf : P.funcs[f]? = some fn) (hb : fn.body = some c) (n : Nat) (hn : fn.ntmps = n) (hle0 : Nat.ble args.length n = true)
    (h : CW none P c (bodyPostM (FW none) 0 P fn R) (FR n (argS 0 args) (fun _ => undef) []) w) : Calls P f args.toArray w R := by
  refine (callsIn_wide (n := 0)).1 (callsIn_of_wp_marks hf hb trivial ?_ rfl)
  rw [hn, FR_args args n (Nat.le_of_ble_eq_true hle0)]
  exact h
section
variable {f : Func} {Post : Value → World → Prop}
theorem slotD {t : Tmp} {v : Value} (hv : EVO n s (.tmp t) = some v) : (FR n s τ ds).tmps[t]?.getD undef = v := by
  have := eval_of (τ := τ) (ds := ds) hv
  simpa [Act.eval] using this
theorem run_loadVar1 {t : TypeId} {ti : TI} {b o : Nat} {v : Value} (ht : tyOf P t = some ti) (ha : ti.agg = false) (hc : w.cell? ⟨b, o, none⟩ = some v) : (loadVar t ⟨b, o, none⟩).run P w = .ok v w := by
  have h1 := ty_isAgg ht w
  simp only [Sem.run_bind, Sem.run_pure, Result.andThen, loadVar, h1, ha]
  simp [load, Sem.run, hc]
theorem M_r (k : RM P f Post (FR n s τ ds).tmps ds w) : bodyPostM (FW none) 0 P f (Ret Post) .ret (FR n s τ ds) w := k
theorem M_n (k : RM P f Post (FR n s τ ds).tmps ds w) : bodyPostM (FW none) 0 P f (Ret Post) .normal (FR n s τ ds) w := k
theorem M_take (i : Nat) {tm : Array Value} {D : Nat} (hs : Sat W w L) (hi : getA L i = some (Bk D (.deferred (some [])))) (k : ∀ w', Sat W w' (L.set i (Bk D (.deferred none))) → RM P f Post tm ds w') : RM P f Post tm ({ target := .collected D, args := #[] } :: ds) w := by
  rw [getA_eq] at hi
  exact ⟨by simp, .inl ⟨D, _, rfl, run_takeDeferred (hs.at i hi).2, k _ (hs.putObj i hi _)⟩⟩
theorem M_end0 (h : f.results = #[]) (k : Post (.tuple #[]) w) : RM P f Post (FR n s τ ds).tmps [] w := ⟨_, by simp [results, h, go_sem], k⟩
theorem M_end1 {t : Tmp} {v : Value} (h : f.results = #[.tmp t]) (hv : EVO n s (.tmp t) = some v) (k : Post v w) : RM P f Post (FR n s τ ds).tmps [] w :=
  ⟨v, by have e := slotD (τ := τ) (ds := ds) hv; simp [results, h, go_sem] at e ⊢; exact e, k⟩
theorem M_end2 {t u : Tmp} {v v' : Value} (h : f.results = #[.tmp t, .tmp u]) (hv : EVO n s (.tmp t) = some v) (hv' : EVO n s (.tmp u) = some v') (k : Post (.tuple #[v, v']) w) : RM P f Post (FR n s τ ds).tmps [] w :=
  ⟨_, by have e := slotD (τ := τ) (ds := ds) hv; have e' := slotD (τ := τ) (ds := ds) hv'; simp [results, h, go_sem] at e e' ⊢; exact ⟨e, e'⟩, k⟩
/-- Two results that lie in boxes. -/
theorem M_endC2 {T : List (Nat × TI)} (i j : Nat) {t u : Tmp} {ti tj : TI} {ta tb te tf : TypeId} {b c : Nat} {v v' : Value} (hs : Sat W w L) (hT : TyOK P T) (h : f.results = #[.cell t ta, .cell u tb]) (hv : EVO n s (.tmp t) = some (.pointer (some ⟨b, 0, none⟩))) (hv' : EVO n s (.tmp u) = some (.pointer (some ⟨c, 0, none⟩)))
    (h1 : lookT T ta = some ti) (h2 : lookT T tb = some tj) (ha : ti.agg = false) (hb : tj.agg = false) (hi : getA L i = some (Cl b [v] te)) (hj : getA L j = some (Cl c [v'] tf)) (k : Post (.tuple #[v, v']) w) : RM P f Post (FR n s τ ds).tmps [] w := by
  rw [getA_eq] at hi hj
  have c1 := hs.cell i hi 0
  have c2 := hs.cell j hj 0
  have e1 := slotD (τ := τ) (ds := ds) hv
  have e2 := slotD (τ := τ) (ds := ds) hv'
  have r1 := ty_isAgg (hT _ _ h1) w
  have r2 := ty_isAgg (hT _ _ h2) w
  rw [ha] at r1
  rw [hb] at r2
  simp only [List.getElem?_cons_zero] at c1 c2
  refine ⟨.tuple #[v, v'], ?_, k⟩
  simp [results, h, go_sem, e1, e2, asAddr, r1, r2, Result.andThen, c1, c2]
end
end
end Go.Sl

/- Ranges, more: lists of assertions turned round; one result in a box. -/
namespace Go.Sl
open Go.RowKit
section
variable {W w : World} {L A B : List HProp} {P : Program} {f : Func} {Post : Value → World → Prop} {n : Nat} {s : List (Nat × Value)} {τ : Nat → Value} {ds : List Deferred}
theorem Sat.rot (h : Sat W w (A ++ B)) : Sat W w (B ++ A) := h.perm List.perm_append_comm
theorem Sat.rot3 {C : List HProp} (h : Sat W w (A ++ (B ++ C))) : Sat W w (B ++ (C ++ A)) := by
  have := h.rot; rwa [List.append_assoc] at this
theorem Sat.swp {C : List HProp} (h : Sat W w (A ++ (B ++ C))) : Sat W w (B ++ (A ++ C)) := by
  rw [← List.append_assoc] at h ⊢
  exact h.perm (List.Perm.append List.perm_append_comm (List.Perm.refl _))
theorem Sat.fst (h : Sat W w (A ++ B)) : Sat W w A := ⟨h.below, let ⟨_, _, _, le1, _, r, _⟩ := sepL_app h.sep; sepL_mono le1 r⟩
theorem Sat.mid {C : List HProp} (h : Sat W w ((A ++ B) ++ C)) : Sat W w (A ++ C) := by
  have := h.rot
  rw [← List.append_assoc] at this
  exact (Sat.fst this).rot
theorem Sat.swp2 {C D : List HProp} (h : Sat W w (A ++ (B ++ (C ++ D)))) : Sat W w (A ++ (C ++ (B ++ D))) := by
  have h1 : Sat W w (B ++ (C ++ (D ++ A))) := by simpa only [List.append_assoc] using h.rot
  have h2 := h1.swp
  have h3 : Sat W w ((C ++ (B ++ D)) ++ A) := by simpa only [List.append_assoc] using h2
  exact h3.rot
theorem Sat.name1 {l D : Nat} {fn : FuncId} {tm : Array Value} {p1 p2 : Tmp} {sn bo : Code} {st : LoopState} {pe : Option Code} (h : Sat W w (Bk l (.loop (recOf fn tm p1 p2 sn bo D st pe)) :: L)) : ∃ G : LoopState → Option Code → HProp, G = (fun st pe => Bk l (.loop (recOf fn tm p1 p2 sn bo D st pe))) ∧ Sat W w (G st pe :: L) := ⟨_, rfl, h⟩
theorem Sat.name0 {p : HProp} (h : Sat W w (p :: L)) : ∃ X, X = p ∧ Sat W w (X :: L) := ⟨p, rfl, h⟩
theorem CW_slim {r : Option Nat} {c : Code} {Q : Exit → Act → World → Prop} (l : List (Nat × Value)) (h : Agr s l) (k : ∀ τ', CW r P c Q (FR n l τ' ds) w) : CW r P c Q (FR n s τ ds) w := by
  rw [FR_forget l h]; exact k _
theorem Sat.nil (h : Sat W w L) : Sat W w [] := ⟨h.below, trivial⟩
theorem M_endC1 {T : List (Nat × TI)} (i : Nat) {t : Tmp} {ti : TI} {ta te : TypeId} {b : Nat} {v : Value} (hs : Sat W w L) (hT : TyOK P T) (h : f.results = #[.cell t ta]) (hv : EVO n s (.tmp t) = some (.pointer (some ⟨b, 0, none⟩)))
    (h1 : lookT T ta = some ti) (ha : ti.agg = false) (hi : getA L i = some (Cl b [v] te)) (k : Post v w) : RM P f Post (FR n s τ ds).tmps [] w := by
  rw [getA_eq] at hi
  have c1 := hs.cell i hi 0
  have e1 := slotD (τ := τ) (ds := ds) hv
  have r1 := ty_isAgg (hT _ _ h1) w
  rw [ha] at r1
  simp only [List.getElem?_cons_zero] at c1
  refine ⟨v, ?_, k⟩
  simp [results, h, go_sem, e1, asAddr, r1, Result.andThen, c1]
end
end Go.Sl

/- Ranges: the record's own block under a name. -/
namespace Go.Sl
open Go.RowKit
section
variable {P : Program} {w W : World} {L : List HProp} {n : Nat} {s : List (Nat × Value)} {τ : Nat → Value} {ds : List Deferred} {fn : FuncId} {tm : Array Value} {p1 p2 : Tmp} {sn bo : Code} {D l : Nat} {a : Act} {Post : Value → World → Prop} {G : LoopState → Option Code → HProp} {Q : Exit → Act → World → Prop}
abbrev Nm (G : LoopState → Option Code → HProp) (l : Nat) (fn : FuncId) (tm : Array Value) (p1 p2 : Tmp) (sn bo : Code) (D : Nat) : Prop := G = fun st pe => Bk l (.loop (recOf fn tm p1 p2 sn bo D st pe))
theorem Begin_ofG (i : Nat) {K : Act → World → Prop} (hG : Nm G l fn tm p1 p2 sn bo D) (hs : Sat W w L) (hi : getA L i = some (G .ready none)) (k : ∀ w', Sat W w' (L.set i (G .busy none)) → K a w') : Begin P l K a w := by
  subst hG; exact Begin_of i hs hi k
theorem RP_nG (i : Nat) (hG : Nm G l fn tm p1 p2 sn bo D) (hs : Sat W w L) (hi : getA L i = some (G .busy none)) (k : ∀ w', Sat W w' (L.set i (G .ready none)) → Post (.bool true) w') : roundPost P l (Ret Post) .normal a w := by
  subst hG; exact RP_n i hs hi k
theorem RP_rG (i : Nat) (hG : Nm G l fn tm p1 p2 sn bo D) (hs : Sat W w L) (hi : getA L i = some (G .busy none)) (k : ∀ w', Sat W w' (L.set i (G .done (some .ret))) → Post (.bool false) w') : roundPost P l (Ret Post) .ret a w := by
  subst hG; exact RP_r i hs hi k
theorem RP_eG (i : Nat) {j : Nat} (hG : Nm G l fn tm p1 p2 sn bo D) (hs : Sat W w L) (hi : getA L i = some (G .busy none)) (k : ∀ w', Sat W w' (L.set i (G .done (some (.exit j)))) → Post (.bool false) w') : roundPost P l (Ret Post) (.exit j) a w := by
  subst hG; exact RP_e i hs hi k
theorem Yld_ofG (i : Nat) {v1 v2 : Value} (hG : Nm G l fn (FR n s τ ds).tmps p1 p2 sn bo D) (hs : Sat W w L) (hi : getA L i = some (G .ready none))
    (h : CW (some l) P sn (Exit.then (Begin P l (CW (some l) P bo (roundPost P l (Ret Post)))) (fun _ _ _ => False)) (FR n ((p2, v2) :: (p1, v1) :: s) τ []) w) : Yld P l #[v1, v2] w Post := by
  subst hG; exact Yld_of i hs hi h
theorem After_G {r : Option Nat} {L' : List HProp} {st : LoopState} {pe : Option Code} (hG : Nm G l fn tm p1 p2 sn bo D) (hs : Sat W w (G st pe :: L')) (hst : st ≠ .busy) (k : ∀ w4, Sat W w4 L' → (match (generalizing := false) pe with
    | none => Q .normal a w4
    | some c => CW r P c Q a w4)) : After P r W l fn tm p1 p2 sn bo D Q a w := by
  subst hG; exact ⟨L', st, pe, hs, hst, k⟩
theorem Sat.nameG {st : LoopState} {pe : Option Code} (h : Sat W w (Bk l (.loop (recOf fn tm p1 p2 sn bo D st pe)) :: L)) : ∃ G, Nm G l fn tm p1 p2 sn bo D ∧ Sat W w (G st pe :: L) := ⟨_, rfl, h⟩
end
end Go.Sl

/- Numbers that are read are written so. -/
namespace Go.Sl
theorem ruN_bytes (b : List UInt8) (at' : Int) : ∀ (k : Nat) (i j : Int), i ≤ j → j < ruN b at' k i → at' + j < b.length ∧ 128 ≤ Bt b (at' + j)
  | 0, i, j, h1, h2 => by simp [ruN] at h2; omega
  | k + 1, i, j, h1, h2 => by
    simp only [ruN] at h2
    split at h2
    · rename_i hc
      by_cases e : j = i
      · subst e; exact hc
      · exact ruN_bytes b at' k (i + 1) j (by omega) h2
    · omega
theorem ruN_end (b : List UInt8) (at' : Int) : ∀ (k : Nat) (i : Int), ruN b at' k i = i + k ∨ ¬ (at' + ruN b at' k i < b.length ∧ 128 ≤ Bt b (at' + ruN b at' k i))
  | 0, i => .inl (by simp [ruN])
  | k + 1, i => by
    simp only [ruN]
    split
    · rcases ruN_end b at' k (i + 1) with h | h
      · exact .inl (by rw [h]; push_cast; omega)
      · exact .inr h
    · rename_i hc; exact .inr hc
theorem ofBt {b : List UInt8} {i : Int} {n : Nat} (h : n = Bt b i) : UInt8.ofNat n = rd b i := by
  subst h; unfold Bt; exact UInt8.ofNat_toNat
theorem ru_seg (b : List UInt8) (a n : Nat) (hn : n ≤ 9) (hlt : a + n < b.length) (hb : ∀ j : Nat, j < n → 128 ≤ Bt b ((a : Int) + j)) (hl : Bt b ((a : Int) + n) < 128) (hz : 0 < n → ¬ Bt b ((a : Int) + n) = 0) :
    ∀ d j : Nat, j + d = n → (0 < n → 0 < ruV b a (n + 1 - j) j) ∧ b.drop (a + j) = ubK (10 - j) (ruV b a (n + 1 - j) j) ++ b.drop (a + n + 1)
  | 0, j, h => by
    have hj : j = n := by omega
    subst hj
    have e1 : ruV b a (j + 1 - j) j = Bt b ((a : Int) + j) := by
      rw [show j + 1 - j = 1 by omega]
      simp only [ruV]
      omega
    rw [e1]
    refine ⟨fun h0 => by have := hz h0; omega, ?_⟩
    rw [ubK_last (by omega) hl, drop_rd hlt]
    have e2 : (((a + j : Nat) : Int)) = (a : Int) + j := by push_cast; rfl
    rw [e2, ofBt (i := (a : Int) + j) rfl]; rfl
  | d + 1, j, h => by
    obtain ⟨i1, i2⟩ := ru_seg b a n hn hlt hb hl hz d (j + 1) (by omega)
    have hbj := hb j (by omega)
    have hc := Bt_lt b ((a : Int) + j)
    have e0 : n + 1 - j = (n + 1 - (j + 1)) + 1 := by omega
    have e3 : ((j : Int) + 1) = ((j + 1 : Nat) : Int) := by push_cast; rfl
    have e1 : ruV b a (n + 1 - j) j = Bt b ((a : Int) + j) % 128 + 128 * ruV b a (n + 1 - (j + 1)) ((j + 1 : Nat) : Int) := by
      rw [e0]; simp only [ruV, e3]
    have hpos := i1 (by omega)
    rw [e1]
    refine ⟨fun _ => by omega, ?_⟩
    rw [ubK_go (by omega) (by omega)]
    have e4 : (Bt b ((a : Int) + j) % 128 + 128 * ruV b a (n + 1 - (j + 1)) ((j + 1 : Nat) : Int)) % 128 + 128 = Bt b ((a : Int) + j) := by omega
    have e5 : (Bt b ((a : Int) + j) % 128 + 128 * ruV b a (n + 1 - (j + 1)) ((j + 1 : Nat) : Int)) / 128 = ruV b a (n + 1 - (j + 1)) ((j + 1 : Nat) : Int) := by omega
    rw [e4, e5, ofBt (i := (a : Int) + j) rfl, drop_rd (k := a + j) (by omega)]
    have e2 : (((a + j : Nat) : Int)) = (a : Int) + j := by push_cast; rfl
    rw [e2, show a + j + 1 = a + (j + 1) by omega, i2, show 10 - j - 1 = 10 - (j + 1) by omega]; rfl
/-- What is read stands there as it is written. -/
theorem ru_back {b : List UInt8} {at' x y : Int} (h : ru b at' = (x, y, 0)) : 0 ≤ at' ∧ at' < y ∧ y ≤ b.length ∧ 0 ≤ x ∧ x < 18446744073709551616 ∧ b.drop at'.toNat = ub x.toNat ++ b.drop y.toNat := by
  have hok := ru_ok b at'
  rw [h] at hok
  obtain ⟨h0, h1, h2, _⟩ := hok
  obtain ⟨h3, h4, h5⟩ := h2 rfl
  dsimp only at h0 h1 h3 h4
  refine ⟨h5, h3, h4, h0, h1, ?_⟩
  have g1 := ruN_ge b at' 9 0
  have g2 := ruN_le b at' 9 0 (by omega)
  have g3 := ruN_bytes b at' 9 0
  have g4 := ruN_end b at' 9 0
  obtain ⟨n, hn⟩ : ∃ n : Nat, ruN b at' 9 0 = n := ⟨(ruN b at' 9 0).toNat, by omega⟩
  rw [ru_eq b at' n h5 (by omega) hn] at h
  rw [hn] at g1 g2 g3 g4
  obtain ⟨a, ha⟩ : ∃ a : Nat, at' = a := ⟨at'.toNat, by omega⟩
  subst ha
  split at h
  · cases h
  rename_i c1
  split at h
  · cases h
  rename_i c2
  split at h
  · cases h
  rename_i c3
  injection h with hx hy
  injection hy with hy _
  have hseg := (ru_seg b a n (by omega) (by omega) (fun j hj => (g3 j (by omega) (by omega)).2) (by
    have hc := Bt_lt b ((a : Int) + n)
    rcases g4 with g4 | g4
    · have : n = 9 := by omega
      subst this
      have : ¬ 1 < Bt b ((a : Int) + ((9 : Nat) : Int)) := fun hh => c2 ⟨rfl, hh⟩
      omega
    · have : ¬ 128 ≤ Bt b ((a : Int) + n) := fun hh => g4 ⟨by omega, hh⟩
      omega) (fun hp hh => c3 ⟨by omega, hh⟩) n 0 (by omega)).2
  have e1 : x.toNat = ruV b a (n + 1) 0 := by
    rw [← hx, Int.toNat_natCast, Int.toNat_natCast]
  have e2 : y.toNat = a + n + 1 := by omega
  rw [e1, e2, Int.toNat_natCast]
  exact hseg
end Go.Sl

/- Numbers that are written are read so. -/
namespace Go.Sl
theorem ub_ne (k n : Nat) (hk : 1 ≤ k) : ubK k n ≠ [] := by
  obtain ⟨j, rfl⟩ : ∃ j, k = j + 1 := ⟨k - 1, by omega⟩
  unfold ubK; split <;> simp
theorem rd_drop {b : List UInt8} {k : Nat} {x : UInt8} {t : List UInt8} (h : b.drop k = x :: t) : k < b.length ∧ rd b (k : Int) = x ∧ b.drop (k + 1) = t := by
  have h1 : k < b.length := by
    by_cases hk : k < b.length
    · exact hk
    · rw [List.drop_eq_nil_of_le (by omega)] at h; cases h
  rw [drop_rd h1] at h
  injection h with h2 h3
  exact ⟨h1, h2, h3⟩
/-- From a number's bytes on: how many go on, what they come to, the last one. -/
theorem ubK_read (b q : List UInt8) (a : Nat) : ∀ (k v j : Nat), 1 ≤ k → v < 128 ^ k → b.drop (a + j) = ubK k v ++ q →
    ∃ m : Nat, (ubK k v).length = m + 1 ∧ m < k ∧ (∀ f : Nat, m ≤ f → ruN b a f j = j + m ∨ False) ∧ ruV b a (m + 1) j = v ∧ a + j + m < b.length ∧ Bt b ((a : Int) + j + m) < 128 ∧ (0 < m → 0 < Bt b ((a : Int) + j + m)) ∧ Bt b ((a : Int) + j + m) = v / 128 ^ m
  | 0, v, j, h, _, _ => by omega
  | k + 1, v, j, _, hv, hd => by
    by_cases hlt : v < 128
    · rw [ubK_last (by omega) hlt] at hd ⊢
      obtain ⟨h1, h2, h3⟩ := rd_drop (t := q) (x := UInt8.ofNat v) (by simpa using hd)
      have e2 : (((a + j : Nat) : Int)) = (a : Int) + j := by push_cast; rfl
      rw [e2] at h2
      have hb : Bt b ((a : Int) + j) = v := by unfold Bt; rw [h2, UInt8.toNat_ofNat', Nat.mod_eq_of_lt (by omega)]
      have e0 : (a : Int) + j + ((0 : Nat) : Int) = (a : Int) + j := by omega
      refine ⟨0, rfl, by omega, fun f _ => .inl ?_, ?_, by omega, by rw [e0]; omega, fun h => by omega, by rw [e0, hb]; simp⟩
      · rw [ruN_stop b a (.inr (by omega))]; simp
      · simp only [ruV]; omega
    · rw [ubK_go (by omega) hlt] at hd
      have hr := ub_room (by omega) hv hlt
      rw [show k + 1 - 1 = k by omega] at hr hd
      rw [List.cons_append] at hd
      obtain ⟨h1, h2, h3⟩ := rd_drop hd
      have e2 : (((a + j : Nat) : Int)) = (a : Int) + j := by push_cast; rfl
      rw [e2] at h2
      have hb : Bt b ((a : Int) + j) = v % 128 + 128 := by unfold Bt; rw [h2, UInt8.toNat_ofNat', Nat.mod_eq_of_lt (by omega)]
      obtain ⟨m, c1, c2, c3, c4, c5, c6, c7, c8⟩ := ubK_read b q a k (v / 128) (j + 1) hr.1 hr.2 (by rw [show a + (j + 1) = a + j + 1 by omega]; exact h3)
      have e3 : ((j : Int) + 1) = ((j + 1 : Nat) : Int) := by push_cast; rfl
      have e4 : (a : Int) + ((j + 1 : Nat) : Int) + (m : Int) = (a : Int) + j + ((m + 1 : Nat) : Int) := by push_cast; omega
      rw [e4] at c6 c7 c8
      refine ⟨m + 1, by rw [ubK_go (by omega) hlt, List.length_cons, show k + 1 - 1 = k by omega, c1], by omega, fun f hf => .inl ?_, ?_, by omega, c6, fun _ => ?_, by rw [c8, Nat.div_div_eq_div_mul, Nat.pow_succ, Nat.mul_comm]⟩
      · rw [ruN_go b a (by omega) ⟨by omega, by omega⟩, e3]
        have := (c3 (f - 1) (by omega)).resolve_right (fun h => h)
        rw [this]; push_cast; omega
      · rw [show m + 1 + 1 = (m + 1) + 1 by rfl]
        conv => lhs; unfold ruV
        rw [hb, e3, c4]; omega
      · by_cases hm : 0 < m
        · exact c7 hm
        · have hm0 : m = 0 := by omega
          subst hm0
          rw [c8]; simp; omega
/-- What is written is read. -/
theorem ru_forth {b p q : List UInt8} {n : Nat} (hb : b = p ++ (ub n ++ q)) (hn : n < 18446744073709551616) : ru b (p.length : Int) = ((n : Int), ((p.length + (ub n).length : Nat) : Int), 0) := by
  have hd : b.drop (p.length + 0) = ubK 10 n ++ q := by rw [hb, Nat.add_zero, List.drop_left]; rfl
  obtain ⟨m, c1, c2, c3, c4, c5, c6, c7, c8⟩ := ubK_read b q p.length 10 n 0 (by omega) (Nat.lt_of_lt_of_le hn (by decide)) hd
  have e0 : (p.length : Int) + ((0 : Nat) : Int) + (m : Int) = (p.length : Int) + m := by omega
  rw [e0] at c6 c7 c8
  have hN := (c3 9 (by omega)).resolve_right (fun h => h)
  have hN2 : ruN b p.length 9 0 = (m : Int) := by
    have : ((0 : Nat) : Int) = 0 := rfl
    rw [this] at hN; rw [hN]; omega
  have hlen : (ub n).length = m + 1 := c1
  rw [ru_eq b _ m (by omega) (by omega) hN2, if_neg (by omega), if_neg ?_, if_neg ?_, hlen]
  · have : ((m : Int)).toNat = m := by omega
    rw [this]
    have c4' : ruV b p.length (m + 1) 0 = n := c4
    rw [c4']
    refine Prod.ext rfl (Prod.ext ?_ rfl)
    push_cast; omega
  · rintro ⟨h1, h2⟩
    have := c7 (by omega); omega
  · rintro ⟨h1, h2⟩
    have hm : m = 9 := by omega
    subst hm
    rw [c8] at h2
    have : n / 128 ^ 9 ≤ 1 := by
      have e : (128 : Nat) ^ 9 = 9223372036854775808 := by decide
      rw [e]; omega
    omega
end Go.Sl
