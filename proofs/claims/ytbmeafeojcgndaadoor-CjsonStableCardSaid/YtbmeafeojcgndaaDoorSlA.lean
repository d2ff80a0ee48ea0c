/- Generic texts, one behind the other. -/
import Derived.WalkKit
import Derived.Deep.Draws
import Derived.TacticsInMore
import Derived.OwnWalkIn
import Derived.RangeFuncNested
import Derived.Maps.AppendAt
import Derived.Shelf.Abstract
import Derived.Sort.LoopGhostIn
import Derived.OrdersIn
import Derived.Great.BuildSlice
set_option linter.unusedVariables false
set_option linter.unusedSimpArgs false
/- A small separation logic over the model's heap: a list of assertions on disjoint parts of the blocks that lie above a base world. -/
namespace Go.Sl
open Go.RowKit

abbrev Frag := Nat → Option Obj
abbrev HProp := Frag → Prop

def Frag.le (h k : Frag) : Prop := ∀ b o, h b = some o → k b = some o
def Frag.dj (h k : Frag) : Prop := ∀ b, h b = none ∨ k b = none
def Frag.un (h k : Frag) : Frag := fun b => (h b).or (k b)

theorem Frag.le.refl (h : Frag) : Frag.le h h := fun _ _ x => x
theorem Frag.le.trans {a b c : Frag} (h : Frag.le a b) (k : Frag.le b c) : Frag.le a c := fun x o e => k x o (h x o e)
theorem Frag.dj.symm {a b : Frag} (h : Frag.dj a b) : Frag.dj b a := fun x => (h x).symm
theorem Frag.dj.le {a b a' b' : Frag} (h : Frag.dj a b) (ha : Frag.le a' a) (hb : Frag.le b' b) : Frag.dj a' b' := fun x => by
  cases e : a' x with
  | none => exact .inl rfl
  | some o =>
    refine .inr ?_
    cases e' : b' x with
    | none => rfl
    | some o' =>
      have h1 := ha x o e
      have h2 := hb x o' e'
      rcases h x with h | h
      · rw [h1] at h; cases h
      · rw [h2] at h; cases h
theorem Frag.le_un_left (a b : Frag) : Frag.le a (a.un b) := fun x o e => by simp [Frag.un, e]
theorem Frag.le_un_right {a b : Frag} (h : Frag.dj a b) : Frag.le b (a.un b) := fun x o e => by
  rcases h x with h | h
  · simp [Frag.un, h, e]
  · rw [h] at e; cases e
theorem Frag.un_le {a b c : Frag} (ha : Frag.le a c) (hb : Frag.le b c) : Frag.le (a.un b) c := fun x o e => by
  unfold Frag.un at e
  cases ea : a x with
  | none => rw [ea] at e; exact hb x o (by simpa using e)
  | some o' => rw [ea] at e; simp at e; subst e; exact ha x _ ea
theorem Frag.dj_un {a b c : Frag} (h1 : Frag.dj a c) (h2 : Frag.dj b c) : Frag.dj (a.un b) c := fun x => by
  rcases h1 x with h | h
  · rcases h2 x with h' | h'
    · exact .inl (by simp [Frag.un, h, h'])
    · exact .inr h'
  · exact .inr h

/-- A list of assertions, each on a part of its own. -/
def sepL : List HProp → HProp
  | [] => fun _ => True
  | p :: l => fun h => ∃ h1 h2, Frag.dj h1 h2 ∧ Frag.le h1 h ∧ Frag.le h2 h ∧ p h1 ∧ sepL l h2

theorem sepL_mono {h k : Frag} (hk : Frag.le h k) : ∀ {l : List HProp}, sepL l h → sepL l k
  | [], _ => trivial
  | _ :: _, ⟨h1, h2, d, l1, l2, p, r⟩ => ⟨h1, h2, d, l1.trans hk, l2.trans hk, p, r⟩

theorem sepL_swap {p q : HProp} {l : List HProp} {h : Frag} : sepL (p :: q :: l) h → sepL (q :: p :: l) h := by
  rintro ⟨h1, h2, d, l1, l2, hp, h21, h22, d2, l21, l22, hq, hr⟩
  have d1 : Frag.dj h1 h21 := d.le (.refl _) l21
  have d3 : Frag.dj h1 h22 := d.le (.refl _) l22
  exact ⟨h21, h1.un h22, (Frag.dj_un d1 d2.symm).symm, l21.trans l2, Frag.un_le l1 (l22.trans l2), hq, h1, h22, d3, Frag.le_un_left _ _, Frag.le_un_right d3, hp, hr⟩

theorem sepL_cons_mono {p : HProp} {l l' : List HProp} (hl : ∀ h, sepL l h → sepL l' h) {h : Frag} : sepL (p :: l) h → sepL (p :: l') h :=
  fun ⟨h1, h2, d, l1, l2, hp, r⟩ => ⟨h1, h2, d, l1, l2, hp, hl _ r⟩

theorem sepL_perm {l l' : List HProp} (hp : l.Perm l') : ∀ {h : Frag}, sepL l h → sepL l' h := by
  induction hp with
  | nil => exact fun h => h
  | cons x _ ih => exact fun h => sepL_cons_mono (fun _ => ih) h
  | swap x y l => exact fun h => sepL_swap h
  | trans _ _ ih1 ih2 => exact fun h => ih2 (ih1 h)

theorem sepL_app {l1 l2 : List HProp} : ∀ {h : Frag}, sepL (l1 ++ l2) h → ∃ h1 h2, Frag.dj h1 h2 ∧ Frag.le h1 h ∧ Frag.le h2 h ∧ sepL l1 h1 ∧ sepL l2 h2 := by
  induction l1 with
  | nil => exact fun {h} r => ⟨fun _ => none, h, fun _ => .inl rfl, fun _ _ e => (by cases e), Frag.le.refl _, trivial, r⟩
  | cons p l ih =>
    rintro h ⟨h1, h2, d, le1, le2, hp, r⟩
    obtain ⟨a, b, d', la, lb, ra, rb⟩ := ih r
    have dab : Frag.dj h1 a := d.le (.refl _) la
    have db : Frag.dj h1 b := d.le (.refl _) lb
    exact ⟨h1.un a, b, Frag.dj_un db d', Frag.un_le le1 (la.trans le2), lb.trans le2, ⟨h1, a, dab, Frag.le_un_left _ _, Frag.le_un_right dab, hp, ra⟩, rb⟩

theorem sepL_app_mk {l1 l2 : List HProp} : ∀ {h h1 h2 : Frag}, Frag.dj h1 h2 → Frag.le h1 h → Frag.le h2 h → sepL l1 h1 → sepL l2 h2 → sepL (l1 ++ l2) h := by
  induction l1 with
  | nil => exact fun _ _ le2 _ r => sepL_mono le2 r
  | cons p l ih =>
    rintro h h1 h2 d le1 le2 ⟨a, b, dab, la, lb, hp, r⟩ r2
    have dbh : Frag.dj b h2 := d.le lb (.refl _)
    have dah : Frag.dj a h2 := d.le la (.refl _)
    refine ⟨a, b.un h2, (Frag.dj_un dab.symm dah.symm).symm, la.trans le1, Frag.un_le (lb.trans le1) le2, hp, ?_⟩
    exact ih dbh (Frag.le_un_left _ _) (Frag.le_un_right dbh) r r2

/-- Several assertions as one. -/
def Big (l : List HProp) : HProp := sepL l
theorem sepL_big {l r : List HProp} {h : Frag} : sepL (Big l :: r) h ↔ sepL (l ++ r) h :=
  ⟨fun ⟨_, _, d, a, b, p, q⟩ => sepL_app_mk d a b p q, fun x => let ⟨h1, h2, d, a, b, p, q⟩ := sepL_app x; ⟨h1, h2, d, a, b, p, q⟩⟩

/-- The blocks of a world from B on. -/
def frg (B : Nat) (w : World) : Frag := fun b => if B ≤ b then w.heap[b]? else none
theorem frg_some {B b : Nat} {w : World} {o : Obj} (h : frg B w b = some o) : B ≤ b ∧ w.heap[b]? = some o := by
  unfold frg at h
  split at h
  · exact ⟨‹_›, h⟩
  · cases h
theorem frg_mk {B b : Nat} {w : World} {o : Obj} (hB : B ≤ b) (h : w.heap[b]? = some o) : frg B w b = some o := by
  unfold frg; rw [if_pos hB]; exact h

/-- w is W with blocks more, and what lies in these meets L. -/
structure Sat (W w : World) (L : List HProp) : Prop where
  below : Below W.heap.size W w
  sep : sepL L (frg W.heap.size w)

theorem Sat.start (W : World) : Sat W W [] := ⟨Below.refl _ _, trivial⟩
theorem Sat.perm {W w : World} {L L' : List HProp} (h : Sat W w L) (hp : L.Perm L') : Sat W w L' := ⟨h.below, sepL_perm hp h.sep⟩
theorem Sat.imp {W w : World} {L L' : List HProp} (h : Sat W w L) (hp : ∀ f, sepL L f → sepL L' f) : Sat W w L' := ⟨h.below, hp _ h.sep⟩
theorem Sat.size {W w : World} {L : List HProp} (h : Sat W w L) : W.heap.size ≤ w.heap.size := h.below.size

theorem block_lt {w : World} {b : Nat} {o : Obj} (h : w.heap[b]? = some o) : b < w.heap.size := (Array.getElem?_eq_some_iff.1 h).1

theorem frg_below {B : Nat} {w w' : World} (h : Below w.heap.size w w') : Frag.le (frg B w) (frg B w') := fun b o e =>
  let ⟨hb, he⟩ := frg_some e
  frg_mk hb ((h.block b (block_lt he)).trans he)

/-- Blocks more are no harm. -/
theorem Sat.more {W w w' : World} {L : List HProp} (h : Sat W w L) (hb : Below w.heap.size w w') : Sat W w' L :=
  ⟨h.below.trans (hb.mono h.size), sepL_mono (frg_below hb) h.sep⟩

/-- What was made above w lies beside what lay in w. -/
theorem Sat.andThen {W w w' : World} {L L' : List HProp} (h : Sat W w L) (k : Sat w w' L') : Sat W w' (L' ++ L) := by
  refine ⟨h.below.trans (k.below.mono h.size), ?_⟩
  refine sepL_app_mk (h1 := frg w.heap.size w') (h2 := frg W.heap.size w) (fun b => ?_) (fun b o e => ?_) (frg_below k.below) k.sep h.sep
  · by_cases hb : b < w.heap.size
    · exact .inl (by unfold frg; rw [if_neg (by omega)])
    · refine .inr ?_
      unfold frg; split
      · exact Array.getElem?_eq_none (by omega)
      · rfl
  · obtain ⟨hb, he⟩ := frg_some e
    exact frg_mk (Nat.le_trans h.size hb) he

/-- The i-th to the front. -/
theorem perm_front {α : Type} : ∀ {l : List α} {i : Nat} {p : α}, l[i]? = some p → l.Perm (p :: l.eraseIdx i)
  | [], _, _, h => by simp at h
  | x :: l, 0, p, h => by simp at h; subst h; exact List.Perm.refl _
  | x :: l, i + 1, p, h => by
    have := perm_front (l := l) (i := i) (p := p) (by simpa using h)
    exact (List.Perm.cons x this).trans (List.Perm.swap p x _)
theorem perm_back {α : Type} : ∀ {l : List α} {i : Nat} {p : α} (q : α), l[i]? = some p → (q :: l.eraseIdx i).Perm (l.set i q)
  | [], _, _, _, h => by simp at h
  | x :: l, 0, p, q, h => List.Perm.refl _
  | x :: l, i + 1, p, q, h => by
    have := perm_back (l := l) (i := i) (p := p) q (by simpa using h)
    exact (List.Perm.swap x q _).trans (List.Perm.cons x this)

theorem Sat.front {W w : World} {L : List HProp} (h : Sat W w L) (i : Nat) {p : HProp} (hi : L[i]? = some p) : Sat W w (p :: L.eraseIdx i) := h.perm (perm_front hi)
theorem Sat.back {W w : World} {L : List HProp} {i : Nat} {p q : HProp} (hi : L[i]? = some p) (h : Sat W w (q :: L.eraseIdx i)) : Sat W w (L.set i q) := h.perm (perm_back q hi)

/-- Some to the front, in the order told; then the others. -/
def picks {α : Type} (l : List α) : List Nat → List α
  | [] => l
  | i :: is => match l[i]? with
    | some p => p :: picks (l.eraseIdx i) is
    | none => l
theorem perm_picks {α : Type} : ∀ (is : List Nat) (l : List α), l.Perm (picks l is)
  | [], l => List.Perm.refl _
  | i :: is, l => by
    unfold picks
    split
    · rename_i p hp
      exact (perm_front hp).trans (List.Perm.cons _ (perm_picks is _))
    · exact List.Perm.refl _
theorem Sat.picks {W w : World} {L : List HProp} (h : Sat W w L) (is : List Nat) : Sat W w (Sl.picks L is) := h.perm (perm_picks is L)
theorem Sat.drop1 {W w : World} {L : List HProp} {p : HProp} (h : Sat W w (p :: L)) : Sat W w L := ⟨h.below, let ⟨_, _, _, _, l2, _, r⟩ := h.sep; sepL_mono l2 r⟩

theorem Sat.big {W w : World} {l r : List HProp} (h : Sat W w (Big l :: r)) : Sat W w (l ++ r) := ⟨h.below, sepL_big.1 h.sep⟩
theorem Sat.mkBig {W w : World} {l r : List HProp} (h : Sat W w (l ++ r)) : Sat W w (Big l :: r) := ⟨h.below, sepL_big.2 h.sep⟩

/-- An assertion that says 'there are x with which M x holds' is laid open. -/
theorem Sat.unpack {W w : World} {R : List HProp} {p : HProp} {α : Sort _} {Φ : α → Prop} {M : α → List HProp} (h : Sat W w (p :: R)) (hp : ∀ f, p f → ∃ x, Φ x ∧ sepL (M x) f) :
    ∃ x, Φ x ∧ Sat W w (M x ++ R) := by
  obtain ⟨h1, h2, d, l1, l2, q, r⟩ := h.sep
  obtain ⟨x, hx, m⟩ := hp _ q
  exact ⟨x, hx, h.below, sepL_app_mk d l1 l2 m r⟩
theorem Sat.pack {W w : World} {R M : List HProp} {p : HProp} (h : Sat W w (M ++ R)) (hp : ∀ f, sepL M f → p f) : Sat W w (p :: R) := by
  obtain ⟨h1, h2, d, l1, l2, m, r⟩ := sepL_app h.sep
  exact ⟨h.below, h1, h2, d, l1, l2, hp _ m, r⟩

/-- Block b holds o. -/
def Bk (b : Nat) (o : Obj) : HProp := fun h => h b = some o
abbrev Cl (b : Nat) (vs : List Value) (t : TypeId) : HProp := Bk b (.cells vs.toArray t (0, 0))

theorem Sat.at {W w : World} {L : List HProp} (h : Sat W w L) (i : Nat) {b : Nat} {o : Obj} (hi : L[i]? = some (Bk b o)) : W.heap.size ≤ b ∧ w.heap[b]? = some o := by
  obtain ⟨h1, h2, d, l1, l2, q, r⟩ := (h.front i hi).sep
  exact frg_some (l1 _ _ q)
theorem Sat.lt {W w : World} {L : List HProp} (h : Sat W w L) (i : Nat) {b : Nat} {o : Obj} (hi : L[i]? = some (Bk b o)) : b < w.heap.size := block_lt (h.at i hi).2

/-- Two blocks told in one list are two. -/
theorem Sat.ne01 {W w : World} {R : List HProp} {b b' : Nat} {o o' : Obj} (h : Sat W w (Bk b o :: Bk b' o' :: R)) : b ≠ b' := by
  obtain ⟨h1, h2, d, l1, l2, q, h3, h4, d', l3, l4, q', r⟩ := h.sep
  rintro rfl
  rcases d b with e | e
  · rw [show h1 b = some o from q] at e; cases e
  · rw [l3 _ _ q'] at e; cases e
theorem Sat.ne {W w : World} {L : List HProp} (h : Sat W w L) (i j : Nat) {b b' : Nat} {o o' : Obj} (hi : L[i]? = some (Bk b o)) (hj : (L.eraseIdx i)[j]? = some (Bk b' o')) : b ≠ b' :=
  Sat.ne01 (W := W) (w := w) (R := (L.eraseIdx i).eraseIdx j) ((h.front i hi).perm (List.Perm.cons _ (perm_front hj)))

/-- One block is turned, blocks more may lie behind. -/
theorem Sat.turn {W w w' : World} {L : List HProp} (h : Sat W w L) (i : Nat) {b : Nat} {o : Obj} (hi : L[i]? = some (Bk b o)) (o' : Obj)
    (hg : w.grownBy w' (some b)) (ho : w'.heap[b]? = some o') : Sat W w' (L.set i (Bk b o')) := by
  have hf := h.front i hi
  refine Sat.back hi ?_
  obtain ⟨h1, h2, d, l1, l2, q, r⟩ := hf.sep
  have hb := frg_some (l1 _ _ q)
  have hnb : h2 b = none := by
    rcases d b with e | e
    · rw [show h1 b = some o from q] at e; cases e
    · exact e
  refine ⟨?_, fun x => if x = b then some o' else none, h2, ?_, ?_, ?_, ?_, r⟩
  · exact h.below.grown hg h.size (fun k e => by cases e; exact hb.1)
  · intro x
    by_cases e : x = b
    · subst e; exact .inr hnb
    · exact .inl (by simp [e])
  · intro x y e
    by_cases ex : x = b
    · subst ex; simp at e; subst e; exact frg_mk hb.1 ho
    · simp [ex] at e
  · intro x y e
    have := frg_some (l2 _ _ e)
    refine frg_mk this.1 ((hg.block x (block_lt this.2) ?_).trans this.2)
    intro ex; cases ex; rw [hnb] at e; cases e
  · simp [Bk]

theorem Sat.alloc {W w : World} {L : List HProp} (h : Sat W w L) (o : Obj) : Sat W (w.alloc o) (Bk w.heap.size o :: L) := by
  have := h.andThen (w' := w.alloc o) (L' := [Bk w.heap.size o]) ⟨(Below.refl _ _).alloc (Nat.le_refl _) _, frg w.heap.size (w.alloc o), fun _ => none, fun _ => .inr rfl, .refl _, fun _ _ e => by (cases e), ?_, trivial⟩
  · exact this
  · exact frg_mk (Nat.le_refl _) (World.alloc_heap_new w o)

theorem Sat.drew {W w : World} {L : List HProp} (h : Sat W w L) : Sat W w.drew L := ⟨h.below.drew, h.sep⟩
theorem Sat.drewN {W w : World} {L : List HProp} (h : Sat W w L) (n : Nat) : Sat W (w.drewN n) L := ⟨⟨h.below.os, h.below.tape, h.below.output, h.below.size, h.below.block⟩, h.sep⟩

theorem Sat.setCell {W w : World} {L : List HProp} (h : Sat W w L) (i : Nat) {b : Nat} {vs : List Value} {t : TypeId} (hi : L[i]? = some (Cl b vs t)) (o : Nat) (v : Value) :
    Sat W (w.setCell ⟨b, o, none⟩ v) (L.set i (Cl b (vs.set o v) t)) := by
  refine h.turn i hi _ ⟨rfl, rfl, rfl, by simp [World.setCell], fun k hk hne => Below.heap_setCell _ _ _ _ (fun e => hne (by rw [e]))⟩ ?_
  have hb := (h.at i hi).2
  simp only [World.setCell, Array.getElem?_modify, hb]
  simp

theorem Sat.cell {W w : World} {L : List HProp} (h : Sat W w L) (i : Nat) {b : Nat} {vs : List Value} {t : TypeId} (hi : L[i]? = some (Cl b vs t)) (o : Nat) :
    w.cell? ⟨b, o, none⟩ = vs[o]? := by
  have hb := (h.at i hi).2
  simp [World.cell?, hb]
theorem Sat.frozen {W w : World} {L : List HProp} (h : Sat W w L) (i : Nat) {b : Nat} {vs : List Value} {t : TypeId} (hi : L[i]? = some (Cl b vs t)) (o : Nat) :
    w.frozen? ⟨b, o, none⟩ = false := by
  have hb := (h.at i hi).2
  simp [World.frozen?, hb]
/-- What lay in the base lies there still. -/
theorem Sat.base {W w : World} {L : List HProp} (h : Sat W w L) {p : Addr} {v : Value} (hp : W.cell? p = some v) : w.cell? p = some v :=
  (h.below.cell (World.block_lt_of_cell? W p hp)).trans hp
end Go.Sl

/- Frames as lists of slots, operations that only reckon as a function, and the rules of the walk. -/
namespace Go.Sl
open Go.RowKit

def look : List (Nat × Value) → (Nat → Value) → Nat → Value
  | [], τ, t => τ t
  | (d, v) :: s, τ, t => cond (Nat.beq t d) v (look s τ t)

def FR (n : Nat) (s : List (Nat × Value)) (τ : Nat → Value) (ds : List Deferred) : Act :=
  { tmps := Array.ofFn (n := n) fun i => look s τ i.val, defers := ds }

theorem FR_getD (n : Nat) (s : List (Nat × Value)) (τ : Nat → Value) (ds : List Deferred) (t : Nat) : (FR n s τ ds).tmps.getD t undef = cond (Nat.blt t n) (look s τ t) undef := by
  by_cases h : t < n
  · have h' : Nat.blt t n = true := by rw [Nat.blt_eq]; exact h
    simp [FR, Array.getD, h, h']
  · have h' : Nat.blt t n = false := by
      cases e : Nat.blt t n with
      | false => rfl
      | true => rw [Nat.blt_eq] at e; exact absurd e h
    simp [FR, Array.getD, h, h']

theorem put_FR (n : Nat) (s : List (Nat × Value)) (τ : Nat → Value) (ds : List Deferred) (d : Nat) (v : Value) : (FR n s τ ds).put (some d) v = FR n ((d, v) :: s) τ ds := by
  suffices this : (Array.ofFn (n := n) fun i => look s τ i.val).setIfInBounds d v = Array.ofFn (n := n) fun i => look ((d, v) :: s) τ i.val by
    show Act.mk _ _ = Act.mk _ _
    rw [← this]; rfl
  apply Array.ext
  · simp
  · intro i h1 h2
    simp only [Array.getElem_ofFn, look]
    by_cases e : d = i
    · subst e; simp
    · have : Nat.beq i d = false := by
        cases e' : Nat.beq i d with
        | false => rfl
        | true => exact absurd (Nat.eq_of_beq_eq_true e').symm e
      rw [Array.getElem_setIfInBounds_ne (by simpa using h1) e, Array.getElem_ofFn, this]; rfl

/-- What a slot is known to hold. -/
def lookO : List (Nat × Value) → Nat → Option Value
  | [], _ => none
  | (d, v) :: s, t => cond (Nat.beq t d) (some v) (lookO s t)
theorem look_of : ∀ {s : List (Nat × Value)} {τ : Nat → Value} {t : Nat} {v : Value}, lookO s t = some v → look s τ t = v
  | [], _, _, _, h => by cases h
  | (d, u) :: s, τ, t, v, h => by
    simp only [lookO, look] at h ⊢
    cases e : Nat.beq t d with
    | false => rw [e] at h; exact look_of h
    | true => rw [e] at h; cases h; rfl
def EVO (n : Nat) (s : List (Nat × Value)) : Operand → Option Value
  | .tmp t => cond (Nat.blt t n) (lookO s t) none
  | .const v => some v
  | .global g => some (.pointer (some ⟨g, 0, none⟩))
  | .func f => some (.func (.func f) #[] #[])
theorem eval_of {n : Nat} {s : List (Nat × Value)} {τ : Nat → Value} {ds : List Deferred} {x : Operand} {v : Value} (h : EVO n s x = some v) : (FR n s τ ds).eval x = v := by
  cases x with
  | tmp t =>
    simp only [EVO] at h
    cases e : Nat.blt t n with
    | false => rw [e] at h; cases h
    | true =>
      rw [e] at h
      rw [show (FR n s τ ds).eval (.tmp t) = _ from FR_getD n s τ ds t, e]
      exact look_of h
  | const u => cases h; rfl
  | global g => cases h; rfl
  | func f => cases h; rfl
/-- The listed slots hold what is listed. -/
def Agr (s : List (Nat × Value)) : List (Nat × Value) → Prop
  | [] => True
  | (t, v) :: l => lookO s t = some v ∧ Agr s l
theorem look_agr {s : List (Nat × Value)} {τ : Nat → Value} : ∀ {l : List (Nat × Value)}, Agr s l → ∀ t, look l (look s τ) t = look s τ t
  | [], _, t => rfl
  | (d, v) :: l, ⟨h, k⟩, t => by
    simp only [look]
    cases e : Nat.beq t d with
    | false => exact look_agr k t
    | true => obtain rfl := Nat.eq_of_beq_eq_true e; exact (look_of h).symm
theorem FR_forget {n : Nat} {s : List (Nat × Value)} {τ : Nat → Value} {ds : List Deferred} (l : List (Nat × Value)) (h : Agr s l) : FR n s τ ds = FR n l (look s τ) ds := by
  unfold FR; congr 1; congr 1; funext i; exact (look_agr h i.val).symm

def argS : Nat → List Value → List (Nat × Value)
  | _, [] => []
  | k, v :: l => (k, v) :: argS (k + 1) l
theorem look_argS (τ : Nat → Value) : ∀ (l : List Value) (k j : Nat), look (argS k l) τ (k + j) = (l[j]?).getD (τ (k + j))
  | [], k, j => by simp [argS, look]
  | v :: l, k, 0 => by simp [argS, look]
  | v :: l, k, j + 1 => by
    have : Nat.beq (k + (j + 1)) k = false := by
      cases e : Nat.beq (k + (j + 1)) k with
      | false => rfl
      | true => have := Nat.eq_of_beq_eq_true e; omega
    have ih := look_argS τ l (k + 1) j
    simp only [argS, look, this, cond_false]
    rw [show k + (j + 1) = k + 1 + j by omega, ih]
    simp
theorem FR_args (args : List Value) (n : Nat) (h : args.length ≤ n) :
    ({ tmps := args.toArray ++ Array.replicate (n - args.toArray.size) undef, defers := [] } : Act) = FR n (argS 0 args) (fun _ => undef) [] := by
  unfold FR; congr 1
  apply Array.ext
  · simp; omega
  · intro i h1 h2
    simp only [Array.getElem_ofFn]
    have := look_argS (fun _ => undef) args 0 i
    rw [Nat.zero_add] at this
    rw [this]
    by_cases hi : i < args.length
    · simp [Array.getElem_append, hi]
    · simp [Array.getElem_append, hi]

/- THE TYPES: a table that is held against the program once. -/
structure TI where
  u : TypeDesc
  zero : Value
  size : Nat
  bytes : Nat
def TI.agg (i : TI) : Bool := match i.u with | .struct _ | .array _ _ => true | _ => false
def tyOf (P : Program) (t : Nat) : Option TI :=
  match P.underlying t, P.info? t with
  | some u, some i => i.zero.map fun z => ⟨u, z, i.size, i.bytes⟩
  | _, _ => none
def lookT : List (Nat × TI) → Nat → Option TI
  | [], _ => none
  | (d, i) :: l, t => cond (Nat.beq t d) (some i) (lookT l t)
def TyOK (P : Program) (T : List (Nat × TI)) : Prop := ∀ t i, lookT T t = some i → tyOf P t = some i
theorem TyOK.mk {P : Program} : ∀ {T : List (Nat × TI)}, T.map (fun p => tyOf P p.1) = T.map (fun p => some p.2) → TyOK P T
  | [], _, t, i, h => by cases h
  | (d, j) :: T, hm, t, i, h => by
    simp only [List.map_cons, List.cons.injEq] at hm
    simp only [lookT] at h
    cases e : Nat.beq t d with
    | false => rw [e] at h; exact TyOK.mk hm.2 t i h
    | true => rw [e] at h; obtain rfl := Nat.eq_of_beq_eq_true e; cases h; exact hm.1
section
variable {P : Program} {t : Nat} {i : TI}
theorem ty_info (h : tyOf P t = some i) : P.underlying t = some i.u ∧ ∃ f, P.info? t = some f ∧ f.zero = some i.zero ∧ f.size = i.size ∧ f.bytes = i.bytes := by
  unfold tyOf at h
  split at h
  · rename_i u f hu hf
    cases hz : f.zero with
    | none => rw [hz] at h; cases h
    | some z => rw [hz] at h; cases h; exact ⟨hu, f, hf, hz, rfl, rfl⟩
  · cases h
theorem ty_under (h : tyOf P t = some i) (w : World) : (underlying t).run P w = .ok i.u w := run_underlying (ty_info h).1 w
theorem ty_typeInfo (h : tyOf P t = some i) (w : World) : ∃ f, (typeInfo t).run P w = .ok f w ∧ f.zero = some i.zero ∧ f.size = i.size ∧ f.bytes = i.bytes := by
  obtain ⟨f, hf, h1⟩ := (ty_info h).2
  exact ⟨f, by simp [typeInfo, go_sem, hf], h1⟩
theorem ty_sizeOf (h : tyOf P t = some i) (w : World) : (sizeOf t).run P w = .ok i.size w := by
  obtain ⟨f, hf, _, h1, _⟩ := ty_typeInfo h w
  simp [sizeOf, go_sem, hf, h1]
theorem ty_zero (h : tyOf P t = some i) (w : World) : (zeroValue t).run P w = .ok i.zero w := by
  obtain ⟨f, hf, h1, _⟩ := ty_typeInfo h w
  simp [zeroValue, go_sem, hf, h1]
theorem ty_isAgg (h : tyOf P t = some i) (w : World) : (isAgg t).run P w = .ok i.agg w := by
  have := ty_under h w
  unfold isAgg TI.agg
  simp only [Sem.run_bind, this, Result.andThen]
  cases i.u <;> rfl
end
end Go.Sl

/- What an operation that only reckons comes to; the rules of control; loads, stores, new blocks, calls. -/
namespace Go.Sl
open Go.RowKit

def FW (r : Option Nat) : Fence := { Fence.wide with round := r }
theorem FW_none : FW none = Fence.wide := rfl
/-- The goals of a walk. -/
def CW (r : Option Nat) (P : Program) (c : Code) (Q : Exit → Act → World → Prop) (a : Act) (w : World) : Prop := c.wpIn (FW r) 0 P Q a w
def LW (r : Option Nat) (P : Program) (ops : Array Oper) (Q : Exit → Act → World → Prop) (l : List Oper) (a : Act) (w : World) : Prop := wpListIn (FW r) 0 P ops Q l a w

section control
variable {r : Option Nat} {P : Program} {Q : Exit → Act → World → Prop} {a : Act} {w : World}
theorem CW_mono {c : Code} {Q' : Exit → Act → World → Prop} (h : CW r P c Q a w) (hq : ∀ e a w, Q e a w → Q' e a w) : CW r P c Q' a w := wpIn_mono h hq
theorem CW_skip (h : Q .normal a w) : CW r P .skip Q a w := wpIn_skip h
theorem CW_label {l : Nat} (h : Q .normal a w) : CW r P (.label l) Q a w := wpIn_label h
theorem CW_exit {i : Nat} (h : Q (.exit i) a w) : CW r P (.exit i) Q a w := wpIn_exit h
theorem CW_ret (h : Q .ret a w) : CW r P .ret Q a w := wpIn_ret h
theorem CW_seq {x y : Code} (h : CW r P x (Exit.then (CW r P y Q) Q) a w) : CW r P (.seq x y) Q a w := wpIn_seq h
theorem CW_block {i : Nat} {c : Code} (h : CW r P c (Exit.inBlock i Q) a w) : CW r P (.block i c) Q a w := wpIn_block h
theorem CW_region {i : Nat} {l : List Oper} (h : LW r P l.toArray Q l a w) : CW r P (.region i l.toArray false) Q a w := wpIn_region_lit h
theorem LW_nil {ops : Array Oper} (h : Q .normal a w) : LW r P ops Q [] a w := h
theorem then_n {K : Act → World → Prop} (h : K a w) : Exit.then K Q .normal a w := h
theorem then_e {K : Act → World → Prop} {i : Nat} (h : Q (.exit i) a w) : Exit.then K Q (.exit i) a w := h
theorem then_r {K : Act → World → Prop} (h : Q .ret a w) : Exit.then K Q .ret a w := h
theorem blk_n {i : Nat} (h : Q .normal a w) : Exit.inBlock i Q .normal a w := h
theorem blk_r {i : Nat} (h : Q .ret a w) : Exit.inBlock i Q .ret a w := h
theorem blk_same {i : Nat} (h : Q .normal a w) : Exit.inBlock i Q (.exit i) a w := by simp only [Exit.inBlock, if_true]; exact h
theorem blk_other {i j : Nat} (hne : Nat.beq j i = false) (h : Q (.exit j) a w) : Exit.inBlock i Q (.exit j) a w := by
  have : j ≠ i := fun e => by subst e; simp at hne
  simp only [Exit.inBlock, this, if_false]; exact h
variable {n : Nat} {s : List (Nat × Value)} {τ : Nat → Value} {ds : List Deferred}
theorem CW_true {c : Operand} {x y : Code} (hc : EVO n s c = some (.bool true)) (h : CW r P x Q (FR n s τ ds) w) : CW r P (.cond c x y) Q (FR n s τ ds) w :=
  wpIn_cond_true (eval_of hc) h
theorem CW_false {c : Operand} {x y : Code} (hc : EVO n s c = some (.bool false)) (h : CW r P y Q (FR n s τ ds) w) : CW r P (.cond c x y) Q (FR n s τ ds) w :=
  wpIn_cond_false (eval_of hc) h
theorem CW_cond {c : Operand} {x y : Code} {b : Bool} (hc : EVO n s c = some (.bool b)) (ht : b = true → CW r P x Q (FR n s τ ds) w) (hf : b = false → CW r P y Q (FR n s τ ds) w) : CW r P (.cond c x y) Q (FR n s τ ds) w := by
  cases b
  · exact CW_false hc (hf rfl)
  · exact CW_true hc (ht rfl)
/-- Ways that meet again: what both come to. -/
theorem CW_cut {x y : Code} (M : Act → World → Prop) (hx : CW r P x (Exit.then M Q) a w) (hy : ∀ a w, M a w → CW r P y Q a w) : CW r P (.seq x y) Q a w :=
  CW_seq (CW_mono hx fun e a w h => by cases e <;> first | exact hy _ _ h | exact h)
theorem CW_loop {γ : Type} (S : γ → List (Nat × Value)) (H : γ → World → Prop) (μ : γ → Nat) (g0 : γ) {c : Code} (h0 : Agr s (S g0)) (hw : H g0 w)
    (hround : ∀ g τ w, H g w → CW r P c (Exit.then (fun a' w' => ∃ g' τ', a' = FR n (S g') τ' ds ∧ H g' w' ∧ μ g' < μ g) Q) (FR n (S g) τ ds) w) :
    CW r P (.loop c) Q (FR n s τ ds) w := by
  refine wpIn_loop_ghost (fun m a w => ∃ g τ', a = FR n (S g) τ' ds ∧ H g w ∧ μ g = m) (μ g0) ⟨g0, look s τ, FR_forget _ h0, hw, rfl⟩ ?_
  rintro m a w ⟨g, τ', rfl, hH, rfl⟩
  refine wpIn_mono (hround g τ' w hH) ?_
  intro e a' w' hq
  cases e with
  | normal => obtain ⟨g', τ'', e, hH', hlt⟩ := hq; exact ⟨μ g', hlt, g', τ'', e, hH', rfl⟩
  | _ => exact hq
/-- A loop's round has come to its end. -/
theorem round_end {γ : Type} {S : γ → List (Nat × Value)} {H : γ → World → Prop} {μ : γ → Nat} {g : γ} (g' : γ) (ha : Agr s (S g')) (hH : H g' w) (hlt : μ g' < μ g) :
    ∃ g' τ', FR n s τ ds = FR n (S g') τ' ds ∧ H g' w ∧ μ g' < μ g := ⟨g', _, FR_forget _ ha, hH, hlt⟩
end control

section entry
variable {P : Program}
def Ret (Post : Value → World → Prop) : Ending → World → Prop
  | .returned v, w => Post v w
  | _, _ => False
theorem Calls_of {f : FuncId} {fn : Func} {c : Code} {args : List Value} {w : World} {R : Ending → World → Prop} (hf : P.funcs[f]? = some fn) (hb : fn.body = some c) (n : Nat) (hn : fn.ntmps = n) (hle0 : Nat.ble args.length n = true)
    (h : CW none P c (bodyPost P fn R) (FR n (argS 0 args) (fun _ => undef) []) w) : Calls P f args.toArray w R := by
  refine (callsIn_wide (n := 0)).1 (callsIn_of_wp hf hb trivial ?_ rfl)
  rw [hn, FR_args args n (Nat.le_of_ble_eq_true hle0)]
  exact h
theorem Calls.ret {f : FuncId} {args : Array Value} {w : World} {A B : Value → World → Prop} (h : Calls P f args w (Ret A)) (hab : ∀ v w', A v w' → B v w') : Calls P f args w (Ret B) :=
  h.mono fun e w' hr => by cases e <;> first | exact hab _ _ hr | exact hr
end entry

section results
variable {P : Program} {fn : Func} {Post : Value → World → Prop} {n : Nat} {s : List (Nat × Value)} {τ : Nat → Value} {w : World}
theorem RET0 (h : fn.results = #[]) (k : Post (.tuple #[]) w) : bodyPost P fn (Ret Post) .ret (FR n s τ []) w :=
  ⟨rfl, _, by simp [results, h, go_sem], k⟩
theorem RET0n (h : fn.results = #[]) (k : Post (.tuple #[]) w) : bodyPost P fn (Ret Post) .normal (FR n s τ []) w :=
  ⟨rfl, _, by simp [results, h, go_sem], k⟩
theorem slot_of {t : Tmp} {v : Value} (hv : EVO n s (.tmp t) = some v) : (FR n s τ []).tmps[t]?.getD undef = v := by
  have := eval_of (τ := τ) (ds := []) hv
  simpa [Act.eval] using this
theorem RET1 {t : Tmp} {v : Value} (h : fn.results = #[.tmp t]) (hv : EVO n s (.tmp t) = some v) (k : Post v w) : bodyPost P fn (Ret Post) .ret (FR n s τ []) w :=
  ⟨rfl, v, by simp [results, h, go_sem, slot_of hv], k⟩
theorem RET2 {t u : Tmp} {v v' : Value} (h : fn.results = #[.tmp t, .tmp u]) (hv : EVO n s (.tmp t) = some v) (hv' : EVO n s (.tmp u) = some v') (k : Post (.tuple #[v, v']) w) : bodyPost P fn (Ret Post) .ret (FR n s τ []) w :=
  ⟨rfl, _, by simp [results, h, go_sem, slot_of hv, slot_of hv'], k⟩
theorem RET3 {t u x : Tmp} {v v' v'' : Value} (h : fn.results = #[.tmp t, .tmp u, .tmp x]) (hv : EVO n s (.tmp t) = some v) (hv' : EVO n s (.tmp u) = some v') (hv'' : EVO n s (.tmp x) = some v'') (k : Post (.tuple #[v, v', v'']) w) : bodyPost P fn (Ret Post) .ret (FR n s τ []) w :=
  ⟨rfl, _, by simp [results, h, go_sem, slot_of hv, slot_of hv', slot_of hv''], k⟩
end results

/- OPERATIONS THAT ONLY RECKON -/
def intOf2 : Option Value → Option Value → Option (IntKind × Int × Int)
  | some (.int k a), some (.int k' b) => cond (decide (k = k')) (some (k, a, b)) none
  | _, _ => none
theorem intOf2_some {x y : Option Value} {k : IntKind} {a b : Int} (h : intOf2 x y = some (k, a, b)) : x = some (.int k a) ∧ y = some (.int k b) := by
  unfold intOf2 at h
  split at h
  · rename_i k1 a1 k2 b1
    by_cases hk : k1 = k2
    · subst hk; simp at h; obtain ⟨rfl, rfl, rfl⟩ := h; exact ⟨rfl, rfl⟩
    · simp [hk] at h
  · cases h
def evalArith (n : Nat) (s : List (Nat × Value)) : Op → Option (IntKind × Int)
  | .binOp .add _ x y _ => match intOf2 (EVO n s x) (EVO n s y) with
    | some (k, a, b) => some (k, a + b)
    | none => none
  | .binOp .sub _ x y _ => match intOf2 (EVO n s x) (EVO n s y) with
    | some (k, a, b) => some (k, a - b)
    | none => none
  | .binOp .mul _ x y _ => match intOf2 (EVO n s x) (EVO n s y) with
    | some (k, a, b) => some (k, a * b)
    | none => none
  | .unOp .neg _ x => match EVO n s x with
    | some (.int k a) => some (k, 0 - a)
    | _ => none
  | _ => none
def cmpOf (bo : BinOp) (a b : Int) : Option Bool := match bo with
  | .eql => some (decide (a = b))
  | .neq => some (decide (¬ a = b))
  | .lss => some (decide (a < b))
  | .leq => some (decide (a ≤ b))
  | .gtr => some (decide (b < a))
  | .geq => some (decide (b ≤ a))
  | _ => none
def strOf2 : Option Value → Option Value → Option (ByteArray × ByteArray)
  | some (.string a), some (.string b) => some (a, b)
  | _, _ => none
theorem strOf2_some {x y : Option Value} {a b : ByteArray} (h : strOf2 x y = some (a, b)) : x = some (.string a) ∧ y = some (.string b) := by
  unfold strOf2 at h
  split at h
  · cases h; exact ⟨rfl, rfl⟩
  · cases h
def cmpS (bo : BinOp) (a b : ByteArray) : Option Bool := match bo with
  | .eql => some (decide (a = b))
  | .neq => some (decide (¬ a = b))
  | .lss => some (Op.bytesLess a.toList b.toList)
  | _ => none
def evalCmp (n : Nat) (s : List (Nat × Value)) : Op → Option Bool
  | .binOp bo _ x y _ => match intOf2 (EVO n s x) (EVO n s y) with
    | some (_, a, b) => cmpOf bo a b
    | none => match strOf2 (EVO n s x) (EVO n s y) with
      | some (a, b) => cmpS bo a b
      | none => none
  | _ => none
def evalNil (T : List (Nat × TI)) (n : Nat) (s : List (Nat × Value)) : Op → Option Bool
  | .binOp .eql t x y _ => match lookT T t, EVO n s x, EVO n s y with
    | some { u := .bool, .. }, some (.bool a), some (.bool b) => some (decide (a = b))
    | some { u := .pointer _, .. }, some (.pointer (some _)), some (.pointer none) => some false
    | some { u := .pointer _, .. }, some (.pointer none), some (.pointer none) => some true
    | some { u := .func .., .. }, some (.func ..), some .nilFunc => some false
    | some { u := .func .., .. }, some .nilFunc, some .nilFunc => some true
    | some { u := .slice _, .. }, some (.slice (some _) _ _), some (.slice none _ _) => some false
    | some { u := .slice _, .. }, some (.slice none _ _), some (.slice none _ _) => some true
    | some { u := .map .., .. }, some (.map (some _)), some (.map none) => some false
    | some { u := .map .., .. }, some (.map none), some (.map none) => some true
    | _, _, _ => none
  | .binOp .neq t x y _ => match lookT T t, EVO n s x, EVO n s y with
    | some { u := .bool, .. }, some (.bool a), some (.bool b) => some (decide (¬ a = b))
    | some { u := .pointer _, .. }, some (.pointer (some _)), some (.pointer none) => some true
    | some { u := .pointer _, .. }, some (.pointer none), some (.pointer none) => some false
    | some { u := .func .., .. }, some (.func ..), some .nilFunc => some true
    | some { u := .func .., .. }, some .nilFunc, some .nilFunc => some false
    | some { u := .slice _, .. }, some (.slice (some _) _ _), some (.slice none _ _) => some true
    | some { u := .slice _, .. }, some (.slice none _ _), some (.slice none _ _) => some false
    | some { u := .map .., .. }, some (.map (some _)), some (.map none) => some true
    | some { u := .map .., .. }, some (.map none), some (.map none) => some false
    | _, _, _ => none
  | _ => none
def evalL (n : Nat) (s : List (Nat × Value)) : List Operand → Option (List Value)
  | [] => some []
  | x :: l => match EVO n s x, evalL n s l with
    | some v, some vs => some (v :: vs)
    | _, _ => none
theorem evalL_of {n : Nat} {s : List (Nat × Value)} {τ : Nat → Value} {ds : List Deferred} : ∀ {l : List Operand} {vs : List Value}, evalL n s l = some vs → l.map (FR n s τ ds).eval = vs
  | [], vs, h => by cases h; rfl
  | x :: l, vs, h => by
    simp only [evalL] at h
    cases hx : EVO n s x with
    | none => rw [hx] at h; simp at h
    | some v =>
      cases hl : evalL n s l with
      | none => rw [hx, hl] at h; simp at h
      | some ws =>
        rw [hx, hl] at h; cases h
        rw [List.map_cons, eval_of hx, evalL_of hl]
def getA {α : Type} : List α → Nat → Option α
  | [], _ => none
  | x :: _, 0 => some x
  | _ :: l, i + 1 => getA l i
theorem getA_eq {α : Type} : ∀ (l : List α) (i : Nat), getA l i = l[i]?
  | [], _ => rfl
  | _ :: _, 0 => rfl
  | _ :: l, i + 1 => by simpa [getA] using getA_eq l i
def evalOp (T : List (Nat × TI)) (n : Nat) (s : List (Nat × Value)) : Op → Option Value
  | .move x | .assign x => EVO n s x
  | .nilCheck x => match EVO n s x with
    | some (.pointer (some a)) => some (.pointer (some a))
    | some (.func (.func f) a c) => some (.func (.func f) a c)
    | some (.func (.yield f) a c) => some (.func (.yield f) a c)
    | some (.map m) => some (.map m)
    | some (.slice a l c) => some (.slice a l c)
    | _ => none
  | .extract t i => match EVO n s t with
    | some (.tuple vs) => getA vs.toList i
    | _ => none
  | .makeFunc fn first captured => match evalL n s first.toList, evalL n s captured.toList with
    | some a, some c => some (.func fn a.toArray c.toArray)
    | _, _ => none
  | .fieldAddr t x f => match lookT T t, EVO n s x with
    | some { u := .struct fields, .. }, some (.pointer (some ⟨b, o, none⟩)) =>
      match getA fields.toList f with
      | some fd => match lookT T fd.type with
        | some ti => cond (Nat.beq ti.size 0) none (some (.pointer (some ⟨b, o + fd.offset, none⟩)))
        | none => none
      | none => none
    | _, _ => none
  | .pick c a b => match EVO n s c with
    | some (.bool true) => EVO n s a
    | some (.bool false) => EVO n s b
    | _ => none
  | .unOp .not _ x => match EVO n s x with
    | some (.bool b) => some (.bool (!b))
    | _ => none
  | .convert src dst x => match lookT T src, lookT T dst, EVO n s x with
    | some _, some { u := .int k, .. }, some (.int _ a) => some (.int k (k.wrap a))
    | some _, some { u := .string, .. }, some (.string a) => some (.string a)
    | _, _, _ => none
  | .call { callee := .builtin .len, args := xs, argTypes := ts } => match evalL n s xs.toList, ts.toList with
    | some [.slice _ l _], [t] => match lookT T t with
      | some { u := .slice _, .. } => some (.int .i64 (l : Int))
      | _ => none
    | some [.string a], [t] => match lookT T t with
      | some { u := .string, .. } => some (.int .i64 (a.size : Int))
      | _ => none
    | _, _ => none
  | .field t x f => match lookT T t, EVO n s x with
    | some { u := .struct fields, .. }, some (.agg cs) =>
      match getA fields.toList f with
      | some fd => match lookT T fd.type with
        | some ti => cond ti.agg none (getA cs.toList fd.offset)
        | none => none
      | none => none
    | _, _ => none
  | _ => none

section right
variable {P : Program} {T : List (Nat × TI)} {n : Nat} {s : List (Nat × Value)} {ρ : Operand → Value} (hρ : ∀ x v, EVO n s x = some v → ρ x = v)
include hρ
theorem evalArith_run {o : Oper} {k : IntKind} {e : Int} (h : evalArith n s o.op = some (k, e)) (w : World) : (execOp ρ o).run P w = .ok (.value (.int k (k.wrap e))) w := by
  cases ho : o.op with
  | binOp bo t x y yt =>
    rw [ho] at h
    cases hx : intOf2 (EVO n s x) (EVO n s y) with
    | none => cases bo <;> simp [evalArith, hx] at h
    | some p =>
      obtain ⟨k1, a1, b1⟩ := p
      obtain ⟨h1, h2⟩ := intOf2_some hx
      have e1 := hρ _ _ h1
      have e2 := hρ _ _ h2
      cases bo <;> simp only [evalArith, hx] at h <;> first | (cases h; done) | (cases h; simp [execOp, ho, e1, e2, binOp, Op.intArith, eqGuard, go_sem])
  | unOp u t x =>
    rw [ho] at h
    cases u with
    | neg =>
      cases hx : EVO n s x with
      | none => simp [evalArith, hx] at h
      | some v =>
        have e1 := hρ _ _ hx
        cases v <;> simp only [evalArith, hx] at h <;> first | (cases h; done) | (cases h; simp [execOp, ho, e1, Op.unary, Op.intArith, go_sem])
    | _ => simp [evalArith] at h
  | _ => rw [ho] at h; simp [evalArith] at h
omit hρ in
theorem toList_eq {a b : ByteArray} : (a.toList == b.toList) = decide (a = b) := by
  by_cases h : a = b
  · subst h; simp
  · have : ¬ a.toList = b.toList := fun e => h (by
      rw [ByteArray.toList_eq, ByteArray.toList_eq] at e
      exact ByteArray.ext (Array.toList_inj.1 e))
    simp [h, this]
theorem evalCmp_run {o : Oper} {b : Bool} (h : evalCmp n s o.op = some b) (w : World) : (execOp ρ o).run P w = .ok (.value (.bool b)) w := by
  cases ho : o.op with
  | binOp bo t x y yt =>
    rw [ho] at h
    cases hx : intOf2 (EVO n s x) (EVO n s y) with
    | some p =>
      obtain ⟨k1, a1, b1⟩ := p
      obtain ⟨h1, h2⟩ := intOf2_some hx
      have e1 := hρ _ _ h1
      have e2 := hρ _ _ h2
      cases bo <;> simp only [evalCmp, hx, cmpOf] at h <;> first | (cases h; done) | (cases h; simp [execOp, ho, e1, e2, binOp, Op.intCmp, eqGuard, go_sem]; done) | (cases h; simp [execOp, ho, e1, e2, binOp, Op.intCmp, eqGuard, go_sem]; rfl)
    | none =>
      cases hs : strOf2 (EVO n s x) (EVO n s y) with
      | none => simp [evalCmp, hx, hs] at h
      | some p =>
        obtain ⟨a1, b1⟩ := p
        obtain ⟨h1, h2⟩ := strOf2_some hs
        have e1 := hρ _ _ h1
        have e2 := hρ _ _ h2
        cases bo <;> simp only [evalCmp, hx, hs, cmpS] at h <;> first | (cases h; done) | (cases h; simp [execOp, ho, e1, e2, binOp, Op.stringOp, eqGuard, go_sem, toList_eq]; done) | (cases h; simp [execOp, ho, e1, e2, binOp, Op.stringOp, eqGuard, go_sem, toList_eq]; rfl)
  | _ => rw [ho] at h; simp [evalCmp] at h

omit hρ in
theorem exec_bin {o : Oper} {bo : BinOp} {t yt : TypeId} {x y : Operand} {vx vy v : Value} {w : World} (ho : o.op = .binOp bo t x y yt) (e1 : ρ x = vx) (e2 : ρ y = vy) (hg : eqGuard bo t x y vx vy = pure ()) (hb : (binOp bo t vx vy).run P w = .ok v w) :
    (execOp ρ o).run P w = .ok (.value v) w := by
  unfold execOp
  rw [ho]
  show Sem.run P (do let v ← (do eqGuard bo t x y (ρ x) (ρ y); binOp bo t (ρ x) (ρ y)); pure (Next.value v)) w = _
  rw [e1, e2, hg]
  simp only [Sem.run_bind, Sem.run_pure, Result.andThen, hb]
theorem evalNil_run (hT : TyOK P T) {o : Oper} {b : Bool} (h : evalNil T n s o.op = some b) (w : World) : (execOp ρ o).run P w = .ok (.value (.bool b)) w := by
  cases ho : o.op with
  | binOp bo t x y yt =>
    rw [ho] at h
    cases ht : lookT T t with
    | none => cases bo <;> simp [evalNil, ht] at h
    | some i =>
      have hu := ty_under (hT _ _ ht)
      obtain ⟨u, z, sz, by_⟩ := i
      cases hx : EVO n s x with
      | none => cases bo <;> simp [evalNil, ht, hx] at h
      | some vx =>
        cases hy : EVO n s y with
        | none => cases bo <;> simp [evalNil, ht, hx, hy] at h
        | some vy =>
          have e1 := hρ _ _ hx
          have e2 := hρ _ _ hy
          have hm : ∀ vx vy, Op.equal t vx vy = Op.equalIn (9999 + 1) t vx vy := fun _ _ => rfl
          cases bo
          case eql =>
            simp only [evalNil, ht, hx, hy] at h
            split at h <;> (first | (rename_i h0 h1 h2; cases h0; cases h1; cases h2; cases h) | (cases h; done))
            all_goals
              refine exec_bin ho e1 e2 rfl ?_
              show Sem.run P (do pure (Value.bool (← Op.equal t _ _))) w = _
              rw [hm]
              unfold Op.equalIn
              simp only [Sem.run_bind, hu, Result.andThen, Sem.run_pure]
              try rfl
          case neq =>
            simp only [evalNil, ht, hx, hy] at h
            split at h <;> (first | (rename_i h0 h1 h2; cases h0; cases h1; cases h2; cases h) | (cases h; done))
            all_goals
              refine exec_bin ho e1 e2 rfl ?_
              show Sem.run P (do pure (Value.bool (!(← Op.equal t _ _)))) w = _
              rw [hm]
              unfold Op.equalIn
              simp only [Sem.run_bind, hu, Result.andThen, Sem.run_pure]
              first | rfl | (simp; rfl) | simp
          all_goals simp [evalNil] at h
  | _ => rw [ho] at h; simp [evalNil] at h
omit hρ in
theorem getA_arr {α : Type} (a : Array α) (i : Nat) : getA a.toList i = a[i]? := by rw [getA_eq]; simp
theorem evalL_run : ∀ {l : List Operand} {vs : List Value}, evalL n s l = some vs → l.map ρ = vs
  | [], vs, h => by cases h; rfl
  | x :: l, vs, h => by
    simp only [evalL] at h
    cases hx : EVO n s x with
    | none => rw [hx] at h; simp at h
    | some v =>
      cases hl : evalL n s l with
      | none => rw [hx, hl] at h; simp at h
      | some ws =>
        rw [hx, hl] at h; cases h
        rw [List.map_cons, hρ _ _ hx, evalL_run hl]
theorem evalA_run {l : Array Operand} {vs : List Value} (h : evalL n s l.toList = some vs) : l.map ρ = vs.toArray := by
  have := evalL_run hρ h
  rw [← this]
  apply Array.toList_inj.1
  simp
theorem evalOp_run (hT : TyOK P T) {o : Oper} {v : Value} (h : evalOp T n s o.op = some v) (w : World) : (execOp ρ o).run P w = .ok (.value v) w := by
  cases ho : o.op with
  | move x => rw [ho] at h; have := hρ _ _ h; unfold execOp; rw [ho]; show Result.ok (Next.value (ρ x)) w = _; rw [this]
  | assign x => rw [ho] at h; have := hρ _ _ h; unfold execOp; rw [ho]; show Result.ok (Next.value (ρ x)) w = _; rw [this]
  | pick c a b =>
    rw [ho] at h
    cases hc : EVO n s c with
    | none => simp [evalOp, hc] at h
    | some vc =>
      have e0 := hρ _ _ hc
      simp only [evalOp, hc] at h
      split at h <;> first | (cases h; done) | skip
      all_goals
        rename_i h0; cases h0
        have e1 := hρ _ _ h
        unfold execOp; rw [ho]; simp only []; rw [e0, e1]; rfl
  | nilCheck x =>
    rw [ho] at h
    cases hx : EVO n s x with
    | none => simp [evalOp, hx] at h
    | some vx =>
      have e1 := hρ _ _ hx
      simp only [evalOp, hx] at h
      split at h <;> first | (cases h; done) | skip
      all_goals
        rename_i h0; cases h0; cases h
        unfold execOp; rw [ho]; (try simp only []); rw [e1]; rfl
  | extract x i =>
    rw [ho] at h
    cases hx : EVO n s x with
    | none => simp [evalOp, hx] at h
    | some vx =>
      have e1 := hρ _ _ hx
      simp only [evalOp, hx] at h
      split at h <;> first | (cases h; done) | skip
      rename_i h0; cases h0
      rw [getA_arr] at h
      unfold execOp; rw [ho]; simp only []; rw [e1]
      simp only [Instr.extract, h]
      rfl
  | makeFunc fn a c =>
    rw [ho] at h
    simp only [evalOp] at h
    split at h <;> first | (cases h; done) | skip
    rename_i h1 h2
    cases h
    unfold execOp; rw [ho]; simp only []; rw [evalA_run hρ h1, evalA_run hρ h2]; rfl
  | fieldAddr t x f =>
    rw [ho] at h
    simp only [evalOp] at h
    split at h <;> first | (cases h; done) | skip
    rename_i h1 h2
    split at h <;> first | (cases h; done) | skip
    rename_i hf
    split at h <;> first | (cases h; done) | skip
    rename_i ti hti
    have hu := ty_under (hT _ _ h1)
    have hs := ty_sizeOf (hT _ _ hti)
    have e1 := hρ _ _ h2
    rw [getA_arr] at hf
    cases hz : Nat.beq ti.size 0 with
    | true => rw [hz] at h; cases h
    | false =>
      rw [hz] at h; cases h
      have hz' : ti.size ≠ 0 := fun e => by rw [e] at hz; cases hz
      unfold execOp; rw [ho]; simp only []; rw [e1]
      simp only [Instr.fieldAt, Sem.run_bind, hu, Result.andThen, hf, Instr.sureAddr, Sem.run_pure, fieldPlace, hs, hz', if_false]
      simp [Addr.add]
      try (split <;> simp_all)
  | unOp u t x =>
    rw [ho] at h
    cases u <;> (try (simp [evalOp] at h; done))
    simp only [evalOp] at h
    cases hx : EVO n s x with
    | none => simp [hx] at h
    | some vx =>
      have e1 := hρ _ _ hx
      simp only [hx] at h
      split at h <;> first | (cases h; done) | skip
      rename_i h0; cases h0; cases h
      unfold execOp; rw [ho]; simp only []; rw [e1]; rfl
  | convert a b x =>
    rw [ho] at h
    simp only [evalOp] at h
    split at h <;> first | (cases h; done) | skip
    all_goals
      rename_i h1 h2 h3
      cases h
      have hu := ty_under (hT _ _ h1)
      have hu2 := ty_under (hT _ _ h2)
      have e1 := hρ _ _ h3
      unfold execOp; rw [ho]; simp only []; rw [e1]
      simp only [convert, Sem.run_bind, hu, hu2, Result.andThen]
      first | rfl | (simp [Conv.intToInt, go_sem]; done)
  | call c =>
    rw [ho] at h
    obtain ⟨cl, xs, ts⟩ := c
    cases cl with
    | builtin b =>
      cases b <;> (try (simp [evalOp] at h; done))
      simp only [evalOp] at h
      split at h <;> first | (cases h; done) | skip
      all_goals
        rename_i h1 h2
        split at h <;> first | (cases h; done) | skip
        rename_i h3
        cases h
        have hu := ty_under (hT _ _ h3)
        have e1 := evalA_run hρ h1
        have e2 : ts = #[_] := Array.toList_inj.1 h2
        unfold execOp; rw [ho]; simp only []
        simp only [resolve, e1, e2, Sem.run_bind, Sem.run_pure, Result.andThen, invoke, builtin, Builtin.len_]
        simp [go_sem, hu, goInt]
    | value f => simp [evalOp] at h
    | invoke r m => simp [evalOp] at h
  | field t x f =>
    rw [ho] at h
    simp only [evalOp] at h
    split at h <;> first | (cases h; done) | skip
    rename_i h1 h2
    split at h <;> first | (cases h; done) | skip
    rename_i hf
    split at h <;> first | (cases h; done) | skip
    rename_i ti hti
    have hu := ty_under (hT _ _ h1)
    have hs := ty_isAgg (hT _ _ hti)
    have e1 := hρ _ _ h2
    rw [getA_arr] at hf
    cases hz : ti.agg with
    | true => rw [hz] at h; cases h
    | false =>
      rw [hz] at h
      simp only [cond_false, getA_arr] at h
      unfold execOp; rw [ho]; simp only []; rw [e1]
      simp only [Instr.field, Sem.run_bind, hu, Result.andThen, hf, asAgg, Sem.run_pure, part, hs, hz, h]
      rfl
  | _ => rw [ho] at h; simp [evalOp] at h
end right

section steps
variable {r : Option Nat} {P : Program} {T : List (Nat × TI)} {ops : Array Oper} {Q : Exit → Act → World → Prop} {rest : List Oper} {n : Nat} {s : List (Nat × Value)} {τ : Nat → Value} {ds : List Deferred} {w : World}
  {op : Op} {ty : TypeId} {ps : String} {af : Array Edge} {d : Nat}
/-- An operation whose run is known. -/
theorem LW_run {o : Oper} {a : Act} {v : Value} {w' : World} (hg : o.guard = none) (hd : ∀ c, o.op ≠ .defer c) (h : (execOp a.eval o).run P w = .ok (.value v) w') (k : LW r P ops Q rest (a.put o.dst v) w') : LW r P ops Q (o :: rest) a w := by
  refine wpListIn_plain hg fun K hK => ⟨fun _ _ => trivial, ?_⟩
  rw [Oper.semAt_eq _ _ _ hd, h]
  exact hK _ _ k
theorem LW_runSkip {o : Oper} {a : Act} {w' : World} (hg : o.guard = none) (hd : ∀ c, o.op ≠ .defer c) (h : (execOp a.eval o).run P w = .ok .skip w') (k : LW r P ops Q rest (a.put o.dst undef) w') : LW r P ops Q (o :: rest) a w := by
  refine wpListIn_plain hg fun K hK => ⟨fun _ _ => trivial, ?_⟩
  rw [Oper.semAt_eq _ _ _ hd, h]
  exact hK _ _ k
theorem evalOp_defer {c : Call} : evalOp T n s (.defer c) = none := rfl
theorem evalCmp_defer {c : Call} : evalCmp n s (.defer c) = none := rfl
theorem evalNil_defer {c : Call} : evalNil T n s (.defer c) = none := rfl
theorem evalArith_defer {c : Call} : evalArith n s (.defer c) = none := rfl
theorem LW_pure (hT : TyOK P T) {v : Value} (h : evalOp T n s op = some v) (k : LW r P ops Q rest (FR n ((d, v) :: s) τ ds) w) :
    LW r P ops Q (⟨some d, op, ty, ps, af, none⟩ :: rest) (FR n s τ ds) w := by
  refine LW_run rfl (fun c e => ?_) (evalOp_run (o := ⟨some d, op, ty, ps, af, none⟩) (fun x v => eval_of) hT h w) (by rw [put_FR]; exact k)
  rw [show op = _ from e, evalOp_defer] at h; cases h
theorem LW_pure0 (hT : TyOK P T) {v : Value} (h : evalOp T n s op = some v) (k : LW r P ops Q rest (FR n s τ ds) w) :
    LW r P ops Q (⟨none, op, ty, ps, af, none⟩ :: rest) (FR n s τ ds) w := by
  refine LW_run rfl (fun c e => ?_) (evalOp_run (o := ⟨none, op, ty, ps, af, none⟩) (fun x v => eval_of) hT h w) k
  rw [show op = _ from e, evalOp_defer] at h; cases h
theorem LW_cmp {p : Prop} [inst : Decidable p] (h : evalCmp n s op = some (decide p)) (ht : p → LW r P ops Q rest (FR n ((d, .bool true) :: s) τ ds) w) (hf : ¬ p → LW r P ops Q rest (FR n ((d, .bool false) :: s) τ ds) w) :
    LW r P ops Q (⟨some d, op, ty, ps, af, none⟩ :: rest) (FR n s τ ds) w := by
  refine LW_run (v := .bool (decide p)) rfl (fun c e => ?_) (evalCmp_run (o := ⟨some d, op, ty, ps, af, none⟩) (fun x v => eval_of) h w) ?_
  · rw [show op = _ from e, evalCmp_defer] at h; cases h
  · rw [put_FR]
    by_cases hp : p
    · simp only [hp, decide_true]; exact ht hp
    · simp only [hp, decide_false]; exact hf hp
theorem LW_cmpB {b : Bool} (h : evalCmp n s op = some b) (k : LW r P ops Q rest (FR n ((d, .bool b) :: s) τ ds) w) :
    LW r P ops Q (⟨some d, op, ty, ps, af, none⟩ :: rest) (FR n s τ ds) w := by
  refine LW_run (v := .bool b) rfl (fun c e => ?_) (evalCmp_run (o := ⟨some d, op, ty, ps, af, none⟩) (fun x v => eval_of) h w) (by rw [put_FR]; exact k)
  rw [show op = _ from e, evalCmp_defer] at h; cases h
theorem LW_nileq (hT : TyOK P T) {b : Bool} (h : evalNil T n s op = some b) (k : LW r P ops Q rest (FR n ((d, .bool b) :: s) τ ds) w) :
    LW r P ops Q (⟨some d, op, ty, ps, af, none⟩ :: rest) (FR n s τ ds) w := by
  refine LW_run (v := .bool b) rfl (fun c e => ?_) (evalNil_run (o := ⟨some d, op, ty, ps, af, none⟩) (fun x v => eval_of) hT h w) (by rw [put_FR]; exact k)
  rw [show op = _ from e, evalNil_defer] at h; cases h
theorem LW_arith {k : IntKind} {e : Int} (h : evalArith n s op = some (k, e)) (hk : k.wrap e = e) (c : LW r P ops Q rest (FR n ((d, .int k e) :: s) τ ds) w) :
    LW r P ops Q (⟨some d, op, ty, ps, af, none⟩ :: rest) (FR n s τ ds) w := by
  have hr := evalArith_run (P := P) (o := ⟨some d, op, ty, ps, af, none⟩) (ρ := (FR n s τ ds).eval) (fun x v => eval_of) h w
  rw [hk] at hr
  refine LW_run (v := .int k e) rfl (fun c e => ?_) hr (by rw [put_FR]; exact c)
  rw [show op = _ from e, evalArith_defer] at h; cases h
theorem LW_arithW {k : IntKind} {e : Int} (h : evalArith n s op = some (k, e)) (c : LW r P ops Q rest (FR n ((d, .int k (k.wrap e)) :: s) τ ds) w) :
    LW r P ops Q (⟨some d, op, ty, ps, af, none⟩ :: rest) (FR n s τ ds) w := by
  have hr := evalArith_run (P := P) (o := ⟨some d, op, ty, ps, af, none⟩) (ρ := (FR n s τ ds).eval) (fun x v => eval_of) h w
  refine LW_run (v := .int k (k.wrap e)) rfl (fun c e => ?_) hr (by rw [put_FR]; exact c)
  rw [show op = _ from e, evalArith_defer] at h; cases h
theorem LW_i64 {e : Int} (h : evalArith n s op = some (.i64, e)) (h1 : -9223372036854775808 ≤ e) (h2 : e ≤ 9223372036854775807) (c : LW r P ops Q rest (FR n ((d, .int .i64 e) :: s) τ ds) w) :
    LW r P ops Q (⟨some d, op, ty, ps, af, none⟩ :: rest) (FR n s τ ds) w := LW_arith h (IntWalk.i64_in e (by omega)) c
/-- An operation under a guard: the guard says yes; it says no. -/
def yld (s : List (Nat × Value)) (n : Nat) (ops : List Oper) (j : Nat) : Option Bool := match getA ops j with
  | some { dst := some t, .. } => match cond (Nat.blt t n) (lookO s t) none with
    | some (.bool b) => some b
    | _ => none
  | _ => none
theorem yld_yielded {l : List Oper} {j : Nat} {b : Bool} (h : yld s n l j = some b) : yielded l.toArray (FR n s τ ds).tmps j = some b := by
  unfold yld at h
  rw [getA_eq] at h
  split at h
  · rename_i t _ _ _ _ _ ho
    split at h
    · rename_i b' hb
      cases h
      cases ht : Nat.blt t n with
      | false => rw [ht] at hb; cases hb
      | true =>
        rw [ht] at hb
        have hlt : t < n := by rwa [Nat.blt_eq] at ht
        have hl := look_of (τ := τ) (show lookO s t = _ from hb)
        have he : (FR n s τ ds).tmps[t]? = some (.bool b) := by simp [FR, hlt, hl]
        unfold yielded
        simp [ho, he]
    · cases h
  · cases h
theorem LW_take {l : List Oper} {g : Nat × Bool} {dst : Option Tmp} (hy : yld s n l g.1 = some g.2) (k : LW r P l.toArray Q (⟨dst, op, ty, ps, af, none⟩ :: rest) (FR n s τ ds) w) :
    LW r P l.toArray Q (⟨dst, op, ty, ps, af, some g⟩ :: rest) (FR n s τ ds) w := by
  have hy' := yld_yielded (τ := τ) (ds := ds) hy
  unfold LW wpListIn at k ⊢
  simp only [Region.wanted, if_true] at k
  simp only [Region.wanted, hy', beq_self_eq_true, if_true]
  exact k
theorem LW_pass {l : List Oper} {j : Nat} {b b' : Bool} (hy : yld s n l j = some b') (hne : b' = !b) (k : LW r P l.toArray Q rest (FR n ((d, undef) :: s) τ ds) w) :
    LW r P l.toArray Q (⟨some d, op, ty, ps, af, some (j, b)⟩ :: rest) (FR n s τ ds) w := by
  have hy' := yld_yielded (τ := τ) (ds := ds) hy
  subst hne
  unfold LW wpListIn
  simp only [Region.wanted, hy']
  rw [if_neg (by cases b <;> simp)]
  exact ⟨fun _ _ => trivial, by rw [put_FR]; exact k⟩
theorem LW_pass0 {l : List Oper} {j : Nat} {b b' : Bool} (hy : yld s n l j = some b') (hne : b' = !b) (k : LW r P l.toArray Q rest (FR n s τ ds) w) :
    LW r P l.toArray Q (⟨none, op, ty, ps, af, some (j, b)⟩ :: rest) (FR n s τ ds) w := by
  have hy' := yld_yielded (τ := τ) (ds := ds) hy
  subst hne
  unfold LW wpListIn
  simp only [Region.wanted, hy']
  rw [if_neg (by cases b <;> simp)]
  exact ⟨fun _ _ => trivial, k⟩
/-- The guard's own guard said no: nothing was laid there. -/
theorem LW_passU {l : List Oper} {j : Nat} {b : Bool} {dst : Option Tmp} (hy : yielded l.toArray (FR n s τ ds).tmps j = none) (k : LW r P l.toArray Q rest ((FR n s τ ds).put dst undef) w) :
    LW r P l.toArray Q (⟨dst, op, ty, ps, af, some (j, b)⟩ :: rest) (FR n s τ ds) w := by
  unfold LW wpListIn
  simp only [Region.wanted, hy]
  rw [if_neg (by simp)]
  exact ⟨fun _ _ => trivial, k⟩
end steps
end Go.Sl

/- Regions whose order is drawn: what only reads is taken first, where what it reads is shown to stay. -/
namespace Go.Sl
open Go.RowKit

def QF : Exit → Act → World → Prop := fun _ _ _ => False
def QN (K : Act → World → Prop) : Exit → Act → World → Prop
  | .normal, a, w => K a w
  | _, _, _ => False
theorem uponIn_mono {F : Fence} {n : Nat} {P : Program} {o : Oper} {a : Act} {K K' : Act → World → Prop} {Q Q' : Exit → Act → World → Prop} (hK : ∀ a w, K a w → K' a w) (hQ : ∀ c a w, Q (.panic c) a w → Q' (.panic c) a w) (hO : ∀ a w, Q .outgrown a w → Q' .outgrown a w) :
    ∀ {x : Result Next}, o.uponIn F n P a K Q x → o.uponIn F n P a K' Q' x := by
  intro x h
  unfold Oper.uponIn at h ⊢
  split at h
  · exact hK _ _ h
  · exact hK _ _ h
  · exact hK _ _ h
  · exact ⟨h.1, h.2.mono fun e w q => by
      cases e
      · exact hK _ _ q
      · exact hQ _ _ _ q
      · obtain ⟨a', w', q⟩ := q; exact ⟨a', w', hO _ _ q⟩⟩
  · exact ⟨h.1, h.2.mono fun v w q => hK _ _ q⟩
  · exact ⟨h.1, h.2.mono fun e w q => by
      cases e
      · exact hK _ _ q
      · exact hQ _ _ _ q
      · obtain ⟨a', w', q⟩ := q; exact ⟨a', w', hO _ _ q⟩⟩
  · exact hQ _ _ _ h
  · exact h.elim

section
variable {r : Option Nat} {P : Program} {ops : Array Oper}
/-- One operation, its guard asked, nothing but going on allowed. -/
def opW (r : Option Nat) (P : Program) (ops : Array Oper) (o : Oper) (K : Act → World → Prop) (a : Act) (w : World) : Prop :=
  if Region.wanted o (yielded ops a.tmps) then o.uponIn (FW r) 0 P a K QF ((execOp a.eval o).run P w) else K (a.put o.dst undef) w
theorem opW_mono {o : Oper} {K K' : Act → World → Prop} (hK : ∀ a w, K a w → K' a w) {a : Act} {w : World} (h : opW r P ops o K a w) : opW r P ops o K' a w := by
  unfold opW at h ⊢
  split at h
  · rw [if_pos ‹_›]; exact uponIn_mono hK (fun _ _ _ q => q) (fun _ _ q => q) h
  · rw [if_neg ‹_›]; exact hK _ _ h
def noDefer (ops : Array Oper) : Bool := ops.all fun o => match o.op with | .defer _ => false | .select .. => false | _ => true
theorem noDefer_spec (h : noDefer ops = true) {j : Nat} {o : Oper} (ho : ops[j]? = some o) : (∀ c, o.op ≠ .defer c) ∧ ∀ cs b, o.op ≠ .select cs b := by
  have := Array.all_eq_true_iff_forall_mem.1 h o (Array.mem_of_getElem? ho)
  exact ⟨fun c e => by simp [e] at this, fun cs b e => by simp [e] at this⟩
def wpI (r : Option Nat) (P : Program) (ops : Array Oper) (K : Act → World → Prop) (I : Array Bool → World → Prop) : Nat → Array Bool → Act → World → Prop
  | 0, listed, a, w => Region.ready .any ops listed = [] ∧ K a w
  | fuel + 1, listed, a, w => (Region.ready .any ops listed = [] → K a w) ∧
    ∀ i ∈ Region.ready .any ops listed, ∀ o, ops[i]? = some o → opW r P ops o (fun a' w' => I (listed.setIfInBounds i true) w' ∧ wpI r P ops K I fuel (listed.setIfInBounds i true) a' w') a w
theorem wpI_sound {K : Act → World → Prop} {I : Array Bool → World → Prop} {Q : Exit → Act → World → Prop} (hnd : noDefer ops = true) (hKQ : ∀ a w, K a w → Q .normal a w) :
    ∀ (fuel : Nat) (listed : Array Bool) (a : Act) (w : World), wpI r P ops K I fuel listed a w → wpAnyIn (FW r) 0 P .any ops Q fuel listed a w := by
  intro fuel
  induction fuel with
  | zero => exact fun listed a w h => ⟨h.1, hKQ _ _ h.2⟩
  | succ fuel ih =>
    intro listed a w h
    refine ⟨fun hr => hKQ _ _ (h.1 hr), fun i hi => ?_⟩
    obtain ⟨_, o, ho, _⟩ := mem_ready.1 hi
    have h1 := h.2 i hi o ho
    unfold wpOpIn
    simp only [ho]
    unfold opW at h1
    split at h1
    · rw [if_pos ‹_›]
      refine ⟨fun _ _ => trivial, ?_⟩
      rw [Oper.semAt_eq _ _ _ (noDefer_spec hnd ho).1]
      exact uponIn_mono (fun a w q => ih _ _ _ q.2) (fun _ _ _ q => q.elim) (fun _ _ q => q.elim) h1
    · rw [if_neg ‹_›]
      exact ⟨fun _ _ => trivial, ih _ _ _ h1.2⟩
/-- What an operation yields as long as c holds of the world. -/
def YC (P : Program) (ops : Array Oper) (c : World → Prop) (o : Oper) (v : Value) (a : Act) : Prop :=
  (Region.wanted o (yielded ops a.tmps) = true ∧ ∀ w, c w → (execOp a.eval o).run P w = .ok (.value v) w) ∨ (Region.wanted o (yielded ops a.tmps) = false ∧ v = undef)
theorem YC.opW {c : World → Prop} {o : Oper} {v : Value} {a : Act} (hy : YC P ops c o v a) {K : Act → World → Prop} {w : World} (hc : c w) (h : K (a.put o.dst v) w) : opW r P ops o K a w := by
  unfold Sl.opW
  rcases hy with ⟨hw, hv⟩ | ⟨hw, rfl⟩
  · rw [if_pos hw, hv w hc]; exact h
  · rw [if_neg (by simp [hw])]; exact h
theorem opW_put {oi oj : Oper} {v : Value} (hap : oi.apart ops oj = true) (hsel : ∀ cs b, oj.op ≠ .select cs b) {K : Act → World → Prop} {a : Act} {w : World}
    (h : opW r P ops oj K (a.put oi.dst v) w) : opW r P ops oj (fun a' w' => K (a'.put oi.dst v) w') a w := by
  obtain ⟨h1, h2, _⟩ := Oper.apart_spec hap
  unfold opW at h ⊢
  rw [wanted_put oj a oi.dst v h1, execOp_put oj hsel a oi.dst v h1] at h
  split at h
  · rw [if_pos ‹_›]
    unfold Oper.uponIn at h ⊢
    split at h
    · show K _ _; rw [← Act.put_comm a v _ h2]; exact h
    · show K _ _; rw [← Act.put_comm a v _ h2]; exact h
    · show K _ _; rw [← Act.put_comm _ v undef h2, ← Act.put_defers]; exact h
    · exact ⟨h.1, h.2.mono fun e w q => by
        cases e
        · show K _ _; rw [← Act.put_comm a v _ h2]; exact q
        · exact q.elim
        · obtain ⟨a', w', q⟩ := q; exact q.elim⟩
    · exact ⟨h.1, h.2.mono fun u w q => by show K _ _; rw [← Act.put_comm a v _ h2]; exact q⟩
    · exact ⟨h.1, h.2.mono fun e w q => by
        cases e
        · show K _ _; rw [← Act.put_comm a v _ h2]; exact q
        · exact q.elim
        · obtain ⟨a', w', q⟩ := q; exact q.elim⟩
    · exact h.elim
    · exact h.elim
  · rw [if_neg ‹_›]; show K _ _; rw [← Act.put_comm a v _ h2]; exact h
theorem YC.same {c : World → Prop} {oi oj : Oper} {v : Value} {a : Act} {u : Value} (hap : oi.apart ops oj = true) (hsel : ∀ cs b, oi.op ≠ .select cs b) (h : YC P ops c oi v a) : YC P ops c oi v (a.put oj.dst u) := by
  obtain ⟨_, _, h3⟩ := Oper.apart_spec hap
  unfold YC at h ⊢
  rw [wanted_put oi a oj.dst u h3, execOp_put oi hsel a oj.dst u h3]
  exact h
theorem YC.defers {c : World → Prop} {oi : Oper} {v : Value} {a : Act} {ds : List Deferred} (h : YC P ops c oi v a) : YC P ops c oi v { a with defers := ds } := by
  have e : ({ a with defers := ds } : Act).eval = a.eval := by funext x; cases x <;> rfl
  unfold YC at h ⊢
  rw [e]; exact h
/-- What an operation leaves of the frame: one slot at most. -/
theorem opW_keeps {c : World → Prop} {oi oj : Oper} {v : Value} (hap : oi.apart ops oj = true) (hsel : ∀ cs b, oi.op ≠ .select cs b) {K K' : Act → World → Prop} {a : Act} {w : World} (hy : YC P ops c oi v a)
    (hK : ∀ a' w', YC P ops c oi v a' → K a' w' → K' a' w') (h : opW r P ops oj K a w) : opW r P ops oj K' a w := by
  unfold opW at h ⊢
  split at h
  · rw [if_pos ‹_›]
    unfold Oper.uponIn at h ⊢
    split at h
    · exact hK _ _ (hy.same hap hsel) h
    · exact hK _ _ (hy.same hap hsel) h
    · exact hK _ _ ((hy.defers).same hap hsel) h
    · exact ⟨h.1, h.2.mono fun e w q => by
        cases e
        · exact hK _ _ (hy.same hap hsel) q
        · exact q.elim
        · obtain ⟨a', w', q⟩ := q; exact q.elim⟩
    · exact ⟨h.1, h.2.mono fun u w q => hK _ _ (hy.same hap hsel) q⟩
    · exact ⟨h.1, h.2.mono fun e w q => by
        cases e
        · exact hK _ _ (hy.same hap hsel) q
        · exact q.elim
        · obtain ⟨a', w', q⟩ := q; exact q.elim⟩
    · exact h.elim
    · exact h.elim
  · rw [if_neg ‹_›]; exact hK _ _ (hy.same hap hsel) h
/-- What each operation hangs on, through others too: as the bits of a number. -/
def clo : List Oper → List Nat → List Nat
  | [], acc => acc
  | o :: l, acc => clo l (acc ++ [o.after.toList.foldl (fun s e => cond (Region.binds .any e) (s ||| 2 ^ e.on ||| acc.getD e.on 0) s) 0])
def Down (ops : Array Oper) (S : Nat → Bool) : Prop := ∀ j o, ops[j]? = some o → S j = true → ∀ e ∈ o.after, Region.binds .any e = true → S e.on = true
theorem fold_bit (S : Nat → Bool) (acc : List Nat) (hacc : ∀ k r, (acc.getD k 0).testBit r = true → S k = true → S r = true) : ∀ (l : List Edge) (m : Nat), (∀ e ∈ l, Region.binds .any e = true → S e.on = true) → (∀ r, m.testBit r = true → S r = true) →
    ∀ r, (l.foldl (fun s e => cond (Region.binds .any e) (s ||| 2 ^ e.on ||| acc.getD e.on 0) s) m).testBit r = true → S r = true
  | [], m, _, hm, r, h => hm r h
  | e :: l, m, he, hm, r, h => by
    refine fold_bit S acc hacc l _ (fun e' h' => he e' (List.mem_cons_of_mem _ h')) ?_ r h
    intro r hr
    simp only at hr
    cases hb : Region.binds .any e with
    | false => rw [hb] at hr; exact hm r hr
    | true =>
      have hs := he e (List.mem_cons_self) hb
      rw [hb] at hr
      simp only [cond_true, Nat.testBit_or, Bool.or_eq_true] at hr
      rcases hr with (hr | hr) | hr
      · exact hm r hr
      · rw [Nat.testBit_two_pow] at hr
        have : e.on = r := by simpa using hr
        exact this ▸ hs
      · exact hacc e.on r hr hs
theorem clo_bit (S : Nat → Bool) : ∀ (l pre : List Oper) (acc : List Nat), acc.length = pre.length → Down (pre ++ l).toArray S → (∀ k r, (acc.getD k 0).testBit r = true → S k = true → S r = true) →
    ∀ k r, ((clo l acc).getD k 0).testBit r = true → S k = true → S r = true
  | [], pre, acc, _, _, hacc, k, r, h, hk => hacc k r h hk
  | o :: l, pre, acc, hlen, hd, hacc, k, r, h, hk => by
    refine clo_bit S l (pre ++ [o]) _ (by simp [hlen]) (by simpa using hd) ?_ k r h hk
    intro k r hb hk
    by_cases hlt : k < acc.length
    · rw [List.getD_eq_getElem?_getD, List.getElem?_append_left hlt, ← List.getD_eq_getElem?_getD] at hb
      exact hacc k r hb hk
    · by_cases heq : k = acc.length
      · subst heq
        rw [List.getD_eq_getElem?_getD, List.getElem?_append_right (Nat.le_refl _)] at hb
        simp only [Nat.sub_self, List.getElem?_cons_zero, Option.getD_some] at hb
        refine fold_bit S acc hacc _ 0 ?_ (fun r h => by simp at h) r hb
        intro e he hbind
        exact hd acc.length o (by simp [hlen]) hk e (by simpa using he) hbind
      · rw [List.getD_eq_getElem?_getD, List.getElem?_eq_none (by simp; omega)] at hb
        simp at hb
def live (ops : List Oper) (eff : List Nat) (listed : Array Bool) (i : Nat) : Bool := eff.all fun e => !(listed.getD e false) || !((clo ops []).getD e 0).testBit i
def Inv (ops : List Oper) (eff : List Nat) (Cs : List (Nat × (World → Prop))) (listed : Array Bool) (w : World) : Prop := ∀ p ∈ Cs, live ops eff listed p.1 = true → p.2 w
theorem live_set {l : List Oper} {eff : List Nat} {listed : Array Bool} {i j : Nat} (h : eff.contains i = false) : live l eff (listed.setIfInBounds i true) j = live l eff listed j := by
  unfold live
  have hk : ∀ e ∈ eff, (listed.setIfInBounds i true).getD e false = listed.getD e false := fun e he => getD_set_ne false (fun hie => by
    subst hie; simp at h; exact h he)
  rw [Bool.eq_iff_iff, List.all_eq_true, List.all_eq_true]
  exact ⟨fun h e he => by have := h e he; rwa [hk e he] at this, fun h e he => by rw [hk e he]; exact h e he⟩
end
section
variable {r : Option Nat} {P : Program} {l : List Oper} {eff : List Nat}
theorem down_ready {listed : Array Bool} {i : Nat} (hd : Down l.toArray (fun j => listed.getD j false)) (hi : i ∈ Region.ready .any l.toArray listed) : Down l.toArray (fun j => (listed.setIfInBounds i true).getD j false) := by
  intro j o ho hj e he hb
  obtain ⟨_, oi, hoi, hall⟩ := mem_ready.1 hi
  by_cases hij : i = j
  · subst hij
    rw [ho] at hoi; cases hoi
    exact getD_set_true (hall e he hb)
  · have hj' : listed.getD j false = true := by
      have := getD_set_ne (listed := listed) false hij
      simp only at hj; rw [this] at hj; exact hj
    exact getD_set_true (hd j o ho hj' e he hb)
theorem wpI_first {K : Act → World → Prop} {c : World → Prop} {i : Nat} {oi : Oper} {v : Value} (hi : l.toArray[i]? = some oi) (hnd : noDefer l.toArray = true) (heff : eff.contains i = false) :
    ∀ (fuel : Nat) (Cs : List (Nat × (World → Prop))) (listed : Array Bool) (a : Act) (w : World),
      (∀ j oj, l.toArray[j]? = some oj → j ≠ i → listed.getD j true = false → (∀ e ∈ oj.after, Region.binds .any e = true → e.on ≠ i) → oi.apart l.toArray oj = true) →
      Down l.toArray (fun j => listed.getD j false) → i ∈ Region.ready .any l.toArray listed → YC P l.toArray c oi v a → c w → Inv l eff Cs listed w →
      wpI r P l.toArray K (Inv l eff ((i, c) :: Cs)) fuel (listed.setIfInBounds i true) (a.put oi.dst v) w → wpI r P l.toArray K (Inv l eff Cs) (fuel + 1) listed a w := by
  intro fuel
  induction fuel with
  | zero =>
    intro Cs listed a w _ hd hr hy hc hI H
    refine ⟨fun h => (by rw [h] at hr; cases hr), fun j hj o ho => ?_⟩
    by_cases hji : j = i
    · subst hji; rw [hi] at ho; cases ho
      refine hy.opW hc ⟨fun p hp hl => hI p hp (by rwa [live_set heff] at hl), H⟩
    · have := ready_mono hj hji
      rw [H.1] at this
      cases this
  | succ fuel ih =>
    intro Cs listed a w hfree hd hr hy hc hI H
    refine ⟨fun h => (by rw [h] at hr; cases hr), fun j hj o ho => ?_⟩
    by_cases hji : j = i
    · subst hji; rw [hi] at ho; cases ho
      refine hy.opW hc ⟨fun p hp hl => hI p hp (by rwa [live_set heff] at hl), ?_⟩
      have mono : ∀ (fuel : Nat) (listed : Array Bool) (a : Act) (w : World), wpI r P l.toArray K (Inv l eff ((j, c) :: Cs)) fuel listed a w → wpI r P l.toArray K (Inv l eff Cs) fuel listed a w := by
        intro fuel
        induction fuel with
        | zero => exact fun _ _ _ h => h
        | succ f ih => exact fun l a w h => ⟨h.1, fun k hk o ho => opW_mono (fun a w q => ⟨fun p hp hl => q.1 p (List.mem_cons_of_mem _ hp) hl, ih _ _ _ q.2⟩) (h.2 k hk o ho)⟩
      exact mono _ _ _ _ H
    · have h1 := H.2 j (ready_mono hj hji) o ho
      obtain ⟨hjun, oj, hoj, hall⟩ := mem_ready.1 hj
      obtain rfl : o = oj := by rw [ho] at hoj; cases hoj; rfl
      have hiun : listed.getD i false = false := by
        have h0 := (mem_ready.1 hr).1
        rcases Nat.lt_or_ge i listed.size with h' | h'
        · simp [h'] at h0 ⊢; exact h0
        · simp [Array.getElem?_eq_none h']
      have hnot : ∀ e ∈ o.after, Region.binds .any e = true → e.on ≠ i := fun e he hb heq => by
        have h1 := hall e he hb
        rw [heq] at h1; rw [h1] at hiun; cases hiun
      have hap := hfree j o ho hji hjun hnot
      have h2 := opW_put hap (noDefer_spec hnd ho).2 h1
      have hfree' : ∀ k ok, l.toArray[k]? = some ok → k ≠ i → (listed.setIfInBounds j true).getD k true = false →
          (∀ e ∈ ok.after, Region.binds .any e = true → e.on ≠ i) → oi.apart l.toArray ok = true := fun k ok hk hki hun hno => by
        refine hfree k ok hk hki ?_ hno
        by_cases hjk : j = k
        · subst hjk; exact hjun
        · rw [getD_set_ne true hjk] at hun; exact hun
      have hd' := down_ready hd hj
      refine opW_keeps hap (noDefer_spec hnd hi).2 hy (fun a' w' hy' q => ?_) h2
      have hset : (listed.setIfInBounds i true).setIfInBounds j true = (listed.setIfInBounds j true).setIfInBounds i true := Array.setIfInBounds_comm _ _ (Ne.symm hji)
      rw [hset] at q
      have hI' : Inv l eff Cs (listed.setIfInBounds j true) w' := fun p hp hl => q.1 p (List.mem_cons_of_mem _ hp) (by rw [live_set heff]; exact hl)
      have hc' : c w' := by
        refine q.1 (i, c) (List.mem_cons_self) ?_
        rw [live_set heff]
        unfold live
        rw [List.all_eq_true]
        intro e he
        cases hle : (listed.setIfInBounds j true).getD e false with
        | false => rfl
        | true =>
          cases hb : ((clo l []).getD e 0).testBit i with
          | false => rfl
          | true =>
            exfalso
            have := clo_bit (fun j' => (listed.setIfInBounds j true).getD j' false) l [] [] rfl (by simpa using hd') (fun k r h => by simp at h) e i hb hle
            rw [getD_set_ne false hji, hiun] at this
            cases this
      refine ⟨hI', ih Cs (listed.setIfInBounds j true) a' w' hfree' hd' (ready_mono hr (Ne.symm hji)) hy' hc' hI' q.2⟩

def DW (r : Option Nat) (P : Program) (l : List Oper) (eff : List Nat) (K : Act → World → Prop) (Cs : List (Nat × (World → Prop))) (fuel : Nat) (listed : Array Bool) (a : Act) (w : World) : Prop :=
  Down l.toArray (fun j => listed.getD j false) → Inv l eff Cs listed w ∧ wpI r P l.toArray K (Inv l eff Cs) fuel listed a w
theorem CW_draw {Q : Exit → Act → World → Prop} {a : Act} {w : World} {id : Nat} (eff : List Nat) (hm : P.follows .mixedOrders = true) (hnd : noDefer l.toArray = true)
    (h : DW r P l eff (fun a w => Q .normal a w) [] l.length (Array.replicate l.length false) a w.drew) : CW r P (.region id l.toArray true) Q a w := by
  refine wpIn_region_any hm ?_
  have h1 := (h (fun j o _ hj => by
    exfalso
    by_cases hlt : j < l.length <;> simp [hlt] at hj)).2
  exact wpI_sound hnd (fun _ _ q => q) _ _ _ _ (by simpa using h1)
variable {K : Act → World → Prop} {Cs : List (Nat × (World → Prop))} {fuel : Nat} {listed : Array Bool} {a : Act} {w : World} {n : Nat} {s : List (Nat × Value)} {τ : Nat → Value} {ds : List Deferred}
theorem DW_yield (i : Nat) {o : Oper} {v : Value} (c : World → Prop) (hi : getA l i = some o) (hnd : noDefer l.toArray = true) (heff : eff.contains i = false) (hf : Region.free .any l.toArray listed i = true) (hr : (Region.ready .any l.toArray listed).contains i = true)
    (hy : YC P l.toArray c o v a) (hc : c w) (hI : Inv l eff Cs listed w) (k : DW r P l eff K ((i, c) :: Cs) fuel (listed.setIfInBounds i true) (a.put o.dst v) w) : DW r P l eff K Cs (fuel + 1) listed a w := by
  intro hd
  have hi' : l.toArray[i]? = some o := by rw [getA_eq] at hi; simpa using hi
  have hr' : i ∈ Region.ready .any l.toArray listed := by simpa using hr
  exact ⟨hI, wpI_first hi' hnd heff fuel Cs listed a w (Region.free_spec hi' hf) hd hr' hy hc hI (k (down_ready hd hr')).2⟩
theorem DW_plain (i : Nat) {o : Oper} {v : Value} (hi : getA l i = some o) (hnd : noDefer l.toArray = true) (heff : eff.contains i = false) (hf : Region.free .any l.toArray listed i = true) (hr : (Region.ready .any l.toArray listed).contains i = true)
    (hy : YC P l.toArray (fun _ => True) o v a) (k : DW r P l eff K Cs fuel (listed.setIfInBounds i true) (a.put o.dst v) w) : DW r P l eff K Cs (fuel + 1) listed a w := by
  intro hd
  have hi' : l.toArray[i]? = some o := by rw [getA_eq] at hi; simpa using hi
  have hr' : i ∈ Region.ready .any l.toArray listed := by simpa using hr
  have hk := k (down_ready hd hr')
  have hI : Inv l eff Cs listed w := fun p hp hl => hk.1 p hp (by rwa [live_set heff])
  refine ⟨hI, wpI_first (c := fun _ => True) hi' hnd heff fuel Cs listed a w (Region.free_spec hi' hf) hd hr' hy trivial hI ?_⟩
  have mono : ∀ (fuel : Nat) (listed : Array Bool) (a : Act) (w : World), wpI r P l.toArray K (Inv l eff Cs) fuel listed a w → wpI r P l.toArray K (Inv l eff ((i, fun _ => True) :: Cs)) fuel listed a w := by
    intro fuel
    induction fuel with
    | zero => exact fun _ _ _ h => h
    | succ f ih => exact fun l a w h => ⟨h.1, fun k hk o ho => opW_mono (fun a w q => ⟨fun p hp hl => by
        rcases List.mem_cons.1 hp with rfl | hp
        · trivial
        · exact q.1 p hp hl, ih _ _ _ q.2⟩) (h.2 k hk o ho)⟩
  exact mono _ _ _ _ hk.2
theorem Inv.nil : Inv l eff [] listed w := fun p hp => by cases hp
theorem Inv.cons {i : Nat} {c : World → Prop} (h : live l eff listed i = true → c w) (k : Inv l eff Cs listed w) : Inv l eff ((i, c) :: Cs) listed w := fun p hp hl => by
  rcases List.mem_cons.1 hp with rfl | hp
  · exact h hl
  · exact k p hp hl
theorem Inv.keep {i : Nat} {c : World → Prop} (h : c w) (k : Inv l eff Cs listed w) : Inv l eff ((i, c) :: Cs) listed w := Inv.cons (fun _ => h) k
theorem Inv.gone {i : Nat} {c : World → Prop} (h : live l eff listed i = false) (k : Inv l eff Cs listed w) : Inv l eff ((i, c) :: Cs) listed w := Inv.cons (fun e => by rw [h] at e; cases e) k
theorem DW_done (hr : Region.ready .any l.toArray listed = []) (hI : Inv l eff Cs listed w) (h : K a w) : ∀ {fuel : Nat}, DW r P l eff K Cs fuel listed a w
  | 0 => fun _ => ⟨hI, hr, h⟩
  | _ + 1 => fun _ => ⟨hI, fun _ => h, by rw [hr]; simp⟩
/-- The last of all. -/
theorem DW_end (h : Inv l eff Cs listed w ∧ K a w) (hr : Region.ready .any l.toArray listed = []) : DW r P l eff K Cs fuel listed a w := DW_done hr h.1 h.2
theorem opW_of_LW {ops : Array Oper} {o : Oper} {K : Act → World → Prop} (hnd : (∀ c, o.op ≠ .defer c)) (h : LW r P ops (QN K) [o] a w) : opW r P ops o K a w := by
  unfold LW wpListIn at h
  unfold opW
  split at h
  · rw [if_pos ‹_›]
    have := h.2
    rw [Oper.semAt_eq _ _ _ hnd] at this
    exact uponIn_mono (fun _ _ q => q) (fun _ _ _ q => q) (fun _ _ q => q) this
  · rw [if_neg ‹_›]; exact h.2
/-- One operation alone may come next. -/
theorem DW_eff (i : Nat) {o : Oper} (hi : getA l i = some o) (hnd : noDefer l.toArray = true) (hr : Region.ready .any l.toArray listed = [i]) (hI : Inv l eff Cs listed w)
    (h : LW r P l.toArray (QN (DW r P l eff K Cs fuel (listed.setIfInBounds i true))) [o] a w) : DW r P l eff K Cs (fuel + 1) listed a w := by
  intro hd
  have hi' : l.toArray[i]? = some o := by rw [getA_eq] at hi; simpa using hi
  refine ⟨hI, ?_⟩
  unfold wpI
  refine ⟨fun h0 => (by rw [hr] at h0; cases h0), fun j hj o' ho => ?_⟩
  rw [hr] at hj
  obtain rfl : j = i := by simpa using hj
  rw [hi'] at ho; cases ho
  have hd' := down_ready hd (show j ∈ Region.ready .any l.toArray listed by rw [hr]; simp)
  exact opW_mono (fun a w q => q hd') (opW_of_LW (noDefer_spec hnd hi').1 h)
/-- Several may come next. -/
theorem DW_all {rs : List Nat} (hnd : noDefer l.toArray = true) (hr : Region.ready .any l.toArray listed = rs) (hne : rs ≠ []) (hI : Inv l eff Cs listed w)
    (h : ∀ i ∈ rs, ∀ o, getA l i = some o → LW r P l.toArray (QN (DW r P l eff K Cs fuel (listed.setIfInBounds i true))) [o] a w) : DW r P l eff K Cs (fuel + 1) listed a w := by
  intro hd
  refine ⟨hI, ?_⟩
  unfold wpI
  refine ⟨fun h0 => absurd (hr ▸ h0) hne, fun j hj o' ho => ?_⟩
  have hd' := down_ready hd hj
  rw [hr] at hj
  exact opW_mono (fun a w q => q hd') (opW_of_LW (noDefer_spec hnd ho).1 (h j hj o' (by rw [getA_eq]; simpa using ho)))
end
end Go.Sl

/- Loads, stores, new blocks, indexed places, calls. -/
namespace Go.Sl
open Go.RowKit

def cellsOf : Value → List Value
  | .agg cs => cs.toList
  | .bool b => [.bool b]
  | .int k n => [.int k n]
  | .float k n => [.float k n]
  | .complex k a b => [.complex k a b]
  | .string s => [.string s]
  | .pointer a => [.pointer a]
  | .slice a l c => [.slice a l c]
  | .map r => [.map r]
  | .chan r => [.chan r]
  | .func f a c => [.func f a c]
  | .nilFunc => [.nilFunc]
  | .iface t v => [.iface t v]
  | .nilIface => [.nilIface]
  | .tuple vs => [.tuple vs]
theorem cellsOf_eq (v : Value) : v.cells = (cellsOf v).toArray := by cases v <;> first | rfl | (simp [Value.cells, cellsOf])
def cellsO : Value → Option (List Value)
  | .agg cs => some cs.toList
  | .bool b => some [.bool b]
  | .int k n => some [.int k n]
  | .float k n => some [.float k n]
  | .string s => some [.string s]
  | .pointer a => some [.pointer a]
  | .slice a l c => some [.slice a l c]
  | .map r => some [.map r]
  | .func f a c => some [.func f a c]
  | .nilFunc => some [.nilFunc]
  | .iface t v => some [.iface t v]
  | .nilIface => some [.nilIface]
  | _ => none
theorem cellsO_eq {v : Value} {cs : List Value} (h : cellsO v = some cs) : v.cells = cs.toArray := by
  rw [cellsOf_eq]
  cases v <;> simp only [cellsO, Option.some.injEq, reduceCtorEq] at h <;> first | (subst h; rfl) | exact h.elim
/-- A call of a Go function enters it. -/
structure Ent (P : Program) (g : FuncId) : Prop where
  run : ∀ args w, (callFunc g args).run P w = .ok (.enter g args) w
section
variable {r : Option Nat} {P : Program} {T : List (Nat × TI)} {ops : Array Oper} {Q : Exit → Act → World → Prop} {rest : List Oper} {n : Nat} {s : List (Nat × Value)} {τ : Nat → Value} {ds : List Deferred} {w : World}
  {ty : TypeId} {ps : String} {af : Array Edge} {d : Nat} {W : World} {L : List HProp}

theorem run_load1 {t : TypeId} {ti : TI} {b o : Nat} {v : Value} (ht : tyOf P t = some ti) (ha : ti.agg = false) (hc : w.cell? ⟨b, o, none⟩ = some v) :
    (Instr.loadAt t (.pointer (some ⟨b, o, none⟩))).run P w = .ok v w := by
  have h1 := ty_isAgg ht w
  simp only [Instr.loadAt, Instr.sureAddr, Sem.run_bind, Sem.run_pure, Result.andThen, loadVar, h1, ha]
  simp [load, Sem.run, hc]
theorem LW_load {x : Operand} {t : TypeId} {ti : TI} {b o : Nat} {v : Value} (hT : TyOK P T) (hx : EVO n s x = some (.pointer (some ⟨b, o, none⟩))) (ht : lookT T t = some ti) (ha : ti.agg = false) (hc : w.cell? ⟨b, o, none⟩ = some v)
    (k : LW r P ops Q rest (FR n ((d, v) :: s) τ ds) w) : LW r P ops Q (⟨some d, .load t x, ty, ps, af, none⟩ :: rest) (FR n s τ ds) w := by
  refine LW_run (v := v) rfl (fun c e => by cases e) ?_ (by rw [put_FR]; exact k)
  show Sem.run P (do let v ← Instr.loadAt t ((FR n s τ ds).eval x); pure (Next.value v)) w = _
  rw [eval_of hx, Sem.run_bind, run_load1 (hT _ _ ht) ha hc]; rfl
theorem run_loadA {t : TypeId} {ti : TI} {b o : Nat} {vs : List Value} (ht : tyOf P t = some ti) (ha : ti.agg = true) (hl : vs.length = ti.size) (hc : ∀ j v, vs[j]? = some v → w.cell? ⟨b, o + j, none⟩ = some v) :
    (Instr.loadAt t (.pointer (some ⟨b, o, none⟩))).run P w = .ok (.agg vs.toArray) w := by
  have h1 := ty_isAgg ht w
  have h2 := ty_sizeOf ht w
  have h3 := run_loadCells_list (P := P) (w := w) ⟨b, o, none⟩ vs (fun j v hj => by
    have := hc j v hj
    have e : (⟨b, o, none⟩ : Addr).add j = ⟨b, o + j, none⟩ := by unfold Addr.add; split <;> simp_all
    rw [e]; exact this)
  simp only [Instr.loadAt, Instr.sureAddr, Sem.run_bind, Sem.run_pure, Result.andThen, loadVar, h1, ha, if_true, h2, ← hl, h3]
theorem LW_loadA {x : Operand} {t : TypeId} {ti : TI} {b o : Nat} {vs : List Value} (hT : TyOK P T) (hx : EVO n s x = some (.pointer (some ⟨b, o, none⟩))) (ht : lookT T t = some ti) (ha : ti.agg = true) (hl : vs.length = ti.size) (hc : ∀ j v, vs[j]? = some v → w.cell? ⟨b, o + j, none⟩ = some v)
    (k : LW r P ops Q rest (FR n ((d, .agg vs.toArray) :: s) τ ds) w) : LW r P ops Q (⟨some d, .load t x, ty, ps, af, none⟩ :: rest) (FR n s τ ds) w := by
  refine LW_run (v := .agg vs.toArray) rfl (fun c e => by cases e) ?_ (by rw [put_FR]; exact k)
  show Sem.run P (do let v ← Instr.loadAt t ((FR n s τ ds).eval x); pure (Next.value v)) w = _
  rw [eval_of hx, Sem.run_bind, run_loadA (hT _ _ ht) ha hl hc]; rfl
/-- A load out of a block of one's own. -/
theorem LW_loadC (i : Nat) {x : Operand} {t : TypeId} {ti : TI} {b o : Nat} {v : Value} {vs : List Value} {te : TypeId} (hT : TyOK P T) (hs : Sat W w L) (hx : EVO n s x = some (.pointer (some ⟨b, o, none⟩))) (ht : lookT T t = some ti) (ha : ti.agg = false) (hi : getA L i = some (Cl b vs te)) (hv : getA vs o = some v)
    (k : LW r P ops Q rest (FR n ((d, v) :: s) τ ds) w) : LW r P ops Q (⟨some d, .load t x, ty, ps, af, none⟩ :: rest) (FR n s τ ds) w := by
  rw [getA_eq] at hi hv
  exact LW_load hT hx ht ha ((hs.cell i hi o).trans hv) k
/-- A store into a block of one's own. -/
theorem run_store1 {t : TypeId} {ti : TI} {b o : Nat} {v u : Value} (ht : tyOf P t = some ti) (hsz : ti.size = 1) (h1 : v.oneCell' = true) (hc : w.cell? ⟨b, o, none⟩ = some u) (hf : w.frozen? ⟨b, o, none⟩ = false) :
    (Instr.storeAt t (.pointer (some ⟨b, o, none⟩)) v).run P w = .ok () (w.setCell ⟨b, o, none⟩ v) := by
  have h2 := ty_sizeOf ht w
  have hv : v.cells = #[v] := by cases v <;> first | rfl | simp [Value.oneCell'] at h1
  simp only [Instr.storeAt, Instr.sureAddr, Sem.run_bind, Sem.run_pure, Result.andThen, storeVar, h2, hsz, hv]
  have e : (⟨b, o, none⟩ : Addr).add 0 = ⟨b, o, none⟩ := by simp [Addr.add]
  simp [storeCells, e, Sem.run_bind, run_store _ _ _ _ _ h1, hc, hf, Result.andThen, go_sem]
theorem LW_storeC (i : Nat) {x y : Operand} {t : TypeId} {ti : TI} {b o : Nat} {v u : Value} {vs : List Value} {te : TypeId} (hT : TyOK P T) (hs : Sat W w L) (hx : EVO n s x = some (.pointer (some ⟨b, o, none⟩))) (hy : EVO n s y = some v) (ht : lookT T t = some ti) (hsz : ti.size = 1) (h1 : v.oneCell' = true)
    (hi : getA L i = some (Cl b vs te)) (hv : getA vs o = some u) (k : ∀ w', Sat W w' (L.set i (Cl b (vs.set o v) te)) → LW r P ops Q rest (FR n s τ ds) w') : LW r P ops Q (⟨none, .store t x y, ty, ps, af, none⟩ :: rest) (FR n s τ ds) w := by
  rw [getA_eq] at hi hv
  refine LW_runSkip (w' := w.setCell ⟨b, o, none⟩ v) rfl (fun c e => by cases e) ?_ (k _ (hs.setCell i hi o v))
  show Sem.run P (do Instr.storeAt t ((FR n s τ ds).eval x) ((FR n s τ ds).eval y); pure Next.skip) w = _
  rw [eval_of hx, eval_of hy, Sem.run_bind, run_store1 (hT _ _ ht) hsz h1 ((hs.cell i hi o).trans hv) (hs.frozen i hi o)]; rfl
theorem LW_alloc {t : TypeId} {ti : TI} (hT : TyOK P T) (hs : Sat W w L) (ht : lookT T t = some ti) {cs : List Value} (hcs : cellsO ti.zero = some cs) (k : ∀ b w', Sat W w' (Cl b cs t :: L) → LW r P ops Q rest (FR n ((d, .pointer (some ⟨b, 0, none⟩)) :: s) τ ds) w') :
    LW r P ops Q (⟨some d, .alloc t, ty, ps, af, none⟩ :: rest) (FR n s τ ds) w := by
  refine LW_run (v := .pointer (some ⟨w.heap.size, 0, none⟩)) (w' := w.alloc (.cells ti.zero.cells t (0, 0))) rfl (fun c e => by cases e) ?_ (by rw [put_FR, cellsO_eq hcs]; exact k _ _ (hs.alloc _))
  show Sem.run P (do let v ← Instr.alloc t true (.tuple #[]); pure (Next.value v)) w = _
  simp only [Instr.alloc, Sem.run_bind, ty_zero (hT _ _ ht) w, Result.andThen, newVar, newRow, newObj, Sem.run, Sem.run_pure]
  rfl
theorem LW_box {t : TypeId} {x : Operand} {v : Value} (hs : Sat W w L) (hx : EVO n s x = some v) {cs : List Value} (hcs : cellsO v = some cs) (k : ∀ b w', Sat W w' (Cl b cs t :: L) → LW r P ops Q rest (FR n ((d, .pointer (some ⟨b, 0, none⟩)) :: s) τ ds) w') :
    LW r P ops Q (⟨some d, .box t x, ty, ps, af, none⟩ :: rest) (FR n s τ ds) w := by
  refine LW_run (v := .pointer (some ⟨w.heap.size, 0, none⟩)) (w' := w.alloc (.cells v.cells t (0, 0))) rfl (fun c e => by cases e) ?_ (by rw [put_FR, cellsO_eq hcs]; exact k _ _ (hs.alloc _))
  show Sem.run P (do let v ← Instr.box t ((FR n s τ ds).eval x); pure (Next.value v)) w = _
  rw [eval_of hx]
  simp only [Instr.box, Sem.run_bind, Result.andThen, newVar, newRow, newObj, Sem.run, Sem.run_pure]
  rfl
theorem LW_makeMap {t : TypeId} (hs : Sat W w L) (k : ∀ b w', Sat W w' (Bk b (.map #[] 0) :: L) → LW r P ops Q rest (FR n ((d, .map (some b)) :: s) τ ds) w') :
    LW r P ops Q (⟨some d, .makeMap t none, ty, ps, af, none⟩ :: rest) (FR n s τ ds) w := by
  refine LW_run (v := .map (some w.heap.size)) (w' := w.alloc (.map #[] 0)) rfl (fun c e => by cases e) ?_ (by rw [put_FR]; exact k _ _ (hs.alloc _))
  rfl
/-- An element's place. -/
theorem run_indexAddr {t e : TypeId} {ti te : TI} {k : IntKind} {b o len cap : Nat} {i : Int} (ht : tyOf P t = some ti) (hu : ti.u = .slice e) (he : tyOf P e = some te) (h0 : 0 ≤ i) (h1 : i < len) :
    (Instr.indexAt t (.slice (some ⟨b, o, none⟩) len cap) (.int k i)).run P w = .ok (.pointer (some ⟨b, o + i.toNat * te.size, none⟩)) w := by
  have h2 := ty_under ht w
  have h3 := ty_sizeOf he w
  rw [hu] at h2
  have e : (⟨b, o, none⟩ : Addr).add (i.toNat * te.size) = ⟨b, o + i.toNat * te.size, none⟩ := by unfold Addr.add; split <;> simp_all
  simp only [Instr.indexAt, asIntOf, Sem.run_bind, Sem.run_pure, Result.andThen, h2]
  simp [h0, h1, Sem.run_bind, h3, Result.andThen, e, h2]
theorem LW_indexAddr {t e : TypeId} {x y : Operand} {ti te : TI} {k : IntKind} {b o len cap : Nat} {i : Int} (hT : TyOK P T) (hx : EVO n s x = some (.slice (some ⟨b, o, none⟩) len cap)) (hy : EVO n s y = some (.int k i)) (ht : lookT T t = some ti) (hu : ti.u = .slice e) (he : lookT T e = some te)
    (h0 : 0 ≤ i) (h1 : i < len) (c : LW r P ops Q rest (FR n ((d, .pointer (some ⟨b, o + i.toNat * te.size, none⟩)) :: s) τ ds) w) : LW r P ops Q (⟨some d, .indexAddr t x y, ty, ps, af, none⟩ :: rest) (FR n s τ ds) w := by
  refine LW_run rfl (fun c e => by cases e) ?_ (by rw [put_FR]; exact c)
  show Sem.run P (do let v ← Instr.indexAt t ((FR n s τ ds).eval x) ((FR n s τ ds).eval y); pure (Next.value v)) w = _
  rw [eval_of hx, eval_of hy, Sem.run_bind, run_indexAddr (hT _ _ ht) hu (hT _ _ he) h0 h1]; rfl
/-- A call of a Go function. -/
theorem run_callv {f : Operand} {args : Array Operand} {ts : Array TypeId} {g : FuncId} {cap : Array Value} {vs : List Value} {o : Oper} (ho : o.op = .call { callee := .value f, args := args, argTypes := ts }) (hf : EVO n s f = some (.func (.func g) #[] cap)) (hargs : evalL n s args.toList = some vs)
    (he : ∀ args w, (callFunc g args).run P w = .ok (.enter g args) w) : (execOp (FR n s τ ds).eval o).run P w = .ok (.enter g (vs.toArray ++ cap)) w := by
  unfold execOp
  rw [ho]
  show Sem.run P (do let d ← resolve (FR n s τ ds).eval _ o.type; invoke d.target d.args) w = _
  have e1 := evalA_run (ρ := (FR n s τ ds).eval) (fun x v => eval_of) hargs
  simp only [resolve, e1, eval_of hf, Deferred.ofValue, Sem.run_bind, Sem.run_pure, Result.andThen, invoke]
  rw [he]
  congr 2
  simp
theorem Calls.inFW {g : FuncId} {args : Array Value} {R : Ending → World → Prop} (h : Calls P g args w R) (m : Nat) : CallsIn (FW r) m P g args w R := by
  have h1 : CallsIn Fence.wide m P g args w R := callsIn_wide.2 h
  cases r with
  | none => exact h1
  | some l => exact CallsIn.inRound l h1
theorem LW_call {f : Operand} {args : Array Operand} {ts : Array TypeId} {g : FuncId} {cap : List Value} {vs : List Value} {Post : Value → World → Prop} (hf : EVO n s f = some (.func (.func g) #[] cap.toArray)) (hargs : evalL n s args.toList = some vs)
    (he : Ent P g) (hc : Calls P g (vs ++ cap).toArray w (Ret Post)) (k : ∀ v w', Post v w' → LW r P ops Q rest (FR n ((d, v) :: s) τ ds) w') :
    LW r P ops Q (⟨some d, .call { callee := .value f, args := args, argTypes := ts }, ty, ps, af, none⟩ :: rest) (FR n s τ ds) w := by
  refine wpListIn_plain rfl fun K hK => ⟨fun _ _ => trivial, ?_⟩
  rw [Oper.semAt_eq _ _ _ (fun c e => by cases e), run_callv rfl hf hargs he.run]
  refine ⟨fun e => (by cases e), ?_⟩
  have : vs.toArray ++ cap.toArray = (vs ++ cap).toArray := by simp
  rw [this]
  refine (Sl.Calls.inFW hc _).mono fun e w' q => ?_
  cases e with
  | returned v => exact hK _ _ (by rw [put_FR]; exact k v w' q)
  | panicked c => exact q.elim
  | outgrown => exact q.elim
theorem LW_call0 {f : Operand} {args : Array Operand} {ts : Array TypeId} {g : FuncId} {cap : List Value} {vs : List Value} {Post : Value → World → Prop} (hf : EVO n s f = some (.func (.func g) #[] cap.toArray)) (hargs : evalL n s args.toList = some vs)
    (he : Ent P g) (hc : Calls P g (vs ++ cap).toArray w (Ret Post)) (k : ∀ v w', Post v w' → LW r P ops Q rest (FR n s τ ds) w') :
    LW r P ops Q (⟨none, .call { callee := .value f, args := args, argTypes := ts }, ty, ps, af, none⟩ :: rest) (FR n s τ ds) w := by
  refine wpListIn_plain rfl fun K hK => ⟨fun _ _ => trivial, ?_⟩
  rw [Oper.semAt_eq _ _ _ (fun c e => by cases e), run_callv rfl hf hargs he.run]
  refine ⟨fun e => (by cases e), ?_⟩
  have : vs.toArray ++ cap.toArray = (vs ++ cap).toArray := by simp
  rw [this]
  refine (Sl.Calls.inFW hc _).mono fun e w' q => ?_
  cases e with
  | returned v => exact hK _ _ (k v w' q)
  | panicked c => exact q.elim
  | outgrown => exact q.elim
end
end Go.Sl

/- Structs and slices that are written out. -/
namespace Go.Sl
open Go.RowKit

def setL : Nat → Value → List Value → Option (List Value)
  | _, _, [] => none
  | 0, v, _ :: l => some (v :: l)
  | i + 1, v, x :: l => match setL i v l with
    | some l' => some (x :: l')
    | none => none
def setRun : Nat → List Value → List Value → Option (List Value)
  | _, [], l => some l
  | o, v :: vs, l => match setL o v l with
    | some l' => setRun (o + 1) vs l'
    | none => none
theorem setL_eq : ∀ {i : Nat} {v : Value} {l l' : List Value}, setL i v l = some l' → i < l.length ∧ l' = l.set i v
  | _, _, [], _, h => by simp [setL] at h
  | 0, v, x :: l, l', h => by cases h; simp
  | i + 1, v, x :: l, l', h => by
    simp only [setL] at h
    split at h
    · rename_i l1 hl
      cases h
      obtain ⟨h1, h2⟩ := setL_eq hl
      exact ⟨by simp; omega, by simp [h2]⟩
    · cases h
theorem setRun_eq : ∀ {vs : List Value} {o k : Nat} {l l' : List Value}, setRun (o + k) vs l = some l' → o + k + vs.length ≤ l.length ∨ vs = [] := fun {vs} => by
  induction vs with
  | nil => exact fun _ => .inr rfl
  | cons v vs ih =>
    intro o k l l' h
    refine .inl ?_
    simp only [setRun] at h
    split at h
    · rename_i l1 hl
      obtain ⟨h1, rfl⟩ := setL_eq hl
      rcases ih (o := o) (k := k + 1) h with h2 | rfl
      · simp at h2 ⊢; omega
      · simp; omega
    · cases h
theorem setRun_fold : ∀ {vs : List Value} {o k : Nat} {l l' : List Value}, setRun (o + k) vs l = some l' →
    (vs.zipIdx k).foldl (fun (cs : Array Value) (x : Value × Nat) => cs.setIfInBounds (o + x.2) x.1) l.toArray = l'.toArray := fun {vs} => by
  induction vs with
  | nil => intro o k l l' h; cases h; rfl
  | cons v vs ih =>
    intro o k l l' h
    simp only [setRun] at h
    split at h
    · rename_i l1 hl
      obtain ⟨h1, rfl⟩ := setL_eq hl
      have := ih (o := o) (k := k + 1) h
      simp only [List.zipIdx_cons, List.foldl_cons]
      rw [← this]
      congr 1
      simp
    · cases h
theorem setRun_len : ∀ {vs : List Value} {o : Nat} {l l' : List Value}, setRun o vs l = some l' → l'.length = l.length
  | [], _, _, _, h => by cases h; rfl
  | v :: vs, o, l, l', h => by
    simp only [setRun] at h
    split at h
    · rename_i l1 hl
      obtain ⟨_, rfl⟩ := setL_eq hl
      rw [setRun_len h, List.length_set]
    · cases h
def fillL (place : Nat → Option (Nat × Nat)) : List Value → List (Nat × Value) → Option (List Value)
  | cells, [] => some cells
  | cells, (i, v) :: rest => match place i with
    | some (off, size) => cond (Nat.beq (cellsOf v).length size) (match setRun off (cellsOf v) cells with
      | some c => fillL place c rest
      | none => none) none
    | none => none
theorem fillL_eq {place : Nat → Option (Nat × Nat)} (hpos : ∀ i o s, place i = some (o, s) → 0 < s) : ∀ {parts : List (Nat × Value)} {cells c : List Value}, fillL place cells parts = some c → Instr.fill place cells.toArray parts = some c.toArray := fun {parts} => by
  induction parts with
  | nil => intro cells c h; cases h; rfl
  | cons p rest ih =>
    obtain ⟨i, v⟩ := p
    intro cells c h
    simp only [fillL] at h
    split at h
    · rename_i off size hp
      cases hb : Nat.beq (cellsOf v).length size with
      | false => rw [hb] at h; cases h
      | true =>
        rw [hb] at h
        simp only [cond_true] at h
        split at h
        · rename_i c1 hc1
          have hsz : (cellsOf v).length = size := Nat.eq_of_beq_eq_true hb
          have hlen : off + (cellsOf v).length ≤ cells.length := by
            rcases setRun_eq (o := off) (k := 0) (by simpa using hc1) with h1 | h1
            · simpa using h1
            · rw [h1] at hsz; have := hpos _ _ _ hp; simp at hsz; omega
          have hf := setRun_fold (o := off) (k := 0) (l := cells) (l' := c1) (by simpa using hc1)
          have := ih h
          simp only [Instr.fill, hp, cellsOf_eq]
          rw [if_neg (by simp [hsz]; omega)]
          rw [← this]
          congr 1
          simpa using hf
        · cases h
    · cases h
def forceL : List Value → Option (List Value)
  | [] => some []
  | x :: l => match forceL l with
    | some l' => some (x :: l')
    | none => none
theorem forceL_eq : ∀ {l l' : List Value}, forceL l = some l' → l' = l
  | [], _, h => by cases h; rfl
  | x :: l, l', h => by
    simp only [forceL] at h
    split at h
    · rename_i l1 h1
      cases h; rw [forceL_eq h1]
    · cases h
def fillF (place : Nat → Option (Nat × Nat)) (cells : List Value) (parts : List (Nat × Value)) : Option (List Value) := match fillL place cells parts with
  | some c => forceL c
  | none => none
theorem fillF_eq {place : Nat → Option (Nat × Nat)} {cells c : List Value} {parts : List (Nat × Value)} (h : fillF place cells parts = some c) : fillL place cells parts = some c := by
  unfold fillF at h
  split at h
  · rename_i c1 h1; rw [h1, forceL_eq h]
  · cases h
def evalParts (n : Nat) (s : List (Nat × Value)) : List (Nat × Operand) → Option (List (Nat × Value))
  | [] => some []
  | (i, x) :: l => match EVO n s x, evalParts n s l with
    | some v, some vs => some ((i, v) :: vs)
    | _, _ => none
theorem evalParts_run {n : Nat} {s : List (Nat × Value)} {ρ : Operand → Value} (hρ : ∀ x v, EVO n s x = some v → ρ x = v) : ∀ {l : List (Nat × Operand)} {vs : List (Nat × Value)}, evalParts n s l = some vs → l.map (fun (i, x) => (i, ρ x)) = vs
  | [], vs, h => by cases h; rfl
  | (i, x) :: l, vs, h => by
    simp only [evalParts] at h
    cases hx : EVO n s x with
    | none => rw [hx] at h; simp at h
    | some v =>
      cases hl : evalParts n s l with
      | none => rw [hx, hl] at h; simp at h
      | some ws =>
        rw [hx, hl] at h; cases h
        rw [List.map_cons, evalParts_run hρ hl]
        show (i, ρ x) :: ws = _
        rw [hρ _ _ hx]
/-- The fields' places. -/
def fieldPl (T : List (Nat × TI)) : List Field → Option (List (Nat × Nat))
  | [] => some []
  | f :: l => match lookT T f.type, fieldPl T l with
    | some ti, some ps => cond (Nat.beq ti.size 0) none (some ((f.offset, ti.size) :: ps))
    | _, _ => none
theorem fieldPl_run {P : Program} {T : List (Nat × TI)} (hT : TyOK P T) : ∀ {l : List Field} {ps : List (Nat × Nat)}, fieldPl T l = some ps → (∀ w : World, (l.mapM (m := Sem) fun f => do pure (f.offset, ← sizeOf f.type)).run P w = .ok ps w) ∧ ∀ i o s, getA ps i = some (o, s) → 0 < s
  | [], ps, h => by cases h; exact ⟨fun w => rfl, fun i o s h => by simp [getA] at h⟩
  | f :: l, ps, h => by
    simp only [fieldPl] at h
    split at h
    · rename_i ti ps' ht hl
      cases hz : Nat.beq ti.size 0 with
      | true => rw [hz] at h; cases h
      | false =>
        rw [hz] at h; cases h
        obtain ⟨h1, h2⟩ := fieldPl_run hT hl
        refine ⟨fun w => ?_, fun i o s hi => ?_⟩
        · have := ty_sizeOf (hT _ _ ht) w
          rw [List.mapM_cons]
          simp only [Sem.run_bind, this, Result.andThen, Sem.run_pure, h1]
        · cases i with
          | zero => simp [getA] at hi; have : ti.size ≠ 0 := fun e => by rw [e] at hz; cases hz
                    omega
          | succ i => exact h2 i o s (by simpa [getA] using hi)
    · cases h
def zeroL : Value → Option (List Value)
  | .agg cs => some cs.toList
  | _ => none
section
variable {r : Option Nat} {P : Program} {T : List (Nat × TI)} {ops : Array Oper} {Q : Exit → Act → World → Prop} {rest : List Oper} {n : Nat} {s : List (Nat × Value)} {τ : Nat → Value} {ds : List Deferred} {w : World}
  {ty : TypeId} {ps : String} {af : Array Edge} {d : Nat} {W : World} {L : List HProp}
theorem run_build {t : TypeId} {ti : TI} {fields : Array Field} {pl : List (Nat × Nat)} {parts : Array (Nat × Value)} {cs : List Value} (hT : TyOK P T) (ht : lookT T t = some ti) (hu : ti.u = .struct fields) (hz : ∃ zs, ti.zero = .agg zs ∧ fillL (getA pl) zs.toList parts.toList = some cs) (hp : fieldPl T fields.toList = some pl) :
    (Instr.build t parts).run P w = .ok (.agg cs.toArray) w := by
  obtain ⟨zs, hz, hf⟩ := hz
  have h1 := ty_zero (hT _ _ ht) w
  have h2 := ty_under (hT _ _ ht) w
  rw [hu] at h2
  obtain ⟨h3, hpos⟩ := fieldPl_run hT hp
  have hfill := fillL_eq hpos hf
  have hm : (fields.mapM (m := Sem) fun f => do pure (f.offset, ← sizeOf f.type)).run P w = .ok pl.toArray w := by
    have hff : fields = fields.toList.toArray := by simp
    rw [hff, List.mapM_toArray]
    have := h3 w
    simp only [Sem.run_map, this]
    rfl
  simp only [Instr.build, Sem.run_bind, h1, h2, Result.andThen, hm, hz, Value.cells]
  have e : (fun i => pl.toArray[i]?) = getA pl := by funext i; rw [getA_eq]; simp
  rw [e]
  have hzz : zs.toList.toArray = zs := by simp
  rw [hzz] at hfill
  rw [hfill]; rfl
theorem LW_build {t : TypeId} {ti : TI} {fields : Array Field} {pl : List (Nat × Nat)} {parts : Array (Nat × Operand)} {pv : List (Nat × Value)} {zs : List Value} {cs : List Value} (hT : TyOK P T) (ht : lookT T t = some ti) (hu : ti.u = .struct fields) (hp : fieldPl T fields.toList = some pl)
    (he : evalParts n s parts.toList = some pv) (hz : zeroL ti.zero = some zs) (hf0 : fillF (getA pl) zs pv = some cs) (k : LW r P ops Q rest (FR n ((d, .agg cs.toArray) :: s) τ ds) w) :
    LW r P ops Q (⟨some d, .build t parts, ty, ps, af, none⟩ :: rest) (FR n s τ ds) w := by
  have hf := fillF_eq hf0
  refine LW_run (v := .agg cs.toArray) rfl (fun c e => by cases e) ?_ (by rw [put_FR]; exact k)
  show Sem.run P (do let v ← Instr.build t (parts.map fun (i, x) => (i, (FR n s τ ds).eval x)); pure (Next.value v)) w = _
  have e1 := evalParts_run (ρ := (FR n s τ ds).eval) (fun x v => eval_of) he
  have hz' : ∃ zs', ti.zero = .agg zs' ∧ zs'.toList = zs := by
    cases h : ti.zero with
    | agg c => rw [h] at hz; cases hz; exact ⟨c, rfl, rfl⟩
    | _ => rw [h] at hz; cases hz
  obtain ⟨zs', hz1, hz2⟩ := hz'
  rw [Sem.run_bind, run_build (cs := cs) hT ht hu ⟨zs', hz1, by rw [hz2]; simpa [e1] using hf⟩ hp]; rfl
def repL : Nat → List Value → List Value
  | 0, _ => []
  | k + 1, zs => zs ++ repL k zs
theorem repL_len (k : Nat) (zs : List Value) : (repL k zs).length = k * zs.length := by
  induction k with
  | zero => simp [repL]
  | succ k ih => simp [repL, ih, Nat.succ_mul]; omega
theorem repL_get : ∀ (k : Nat) (zs : List Value) (j : Nat), j < k * zs.length → (repL k zs)[j]? = some (zs[j % zs.length]!)
  | 0, zs, j, h => by simp at h
  | k + 1, zs, j, h => by
    have hpos : 0 < zs.length := by
      rcases Nat.eq_zero_or_pos zs.length with e | e
      · rw [e] at h; simp at h
      · exact e
    simp only [repL]
    by_cases hj : j < zs.length
    · rw [List.getElem?_append_left hj, Nat.mod_eq_of_lt hj, List.getElem?_eq_getElem hj]
      simp [hj]
    · rw [List.getElem?_append_right (by omega), repL_get k zs (j - zs.length) (by rw [Nat.add_mul, Nat.one_mul] at h; omega)]
      rw [Nat.mod_eq_sub_mod (a := j) (by omega)]
theorem run_buildSlice' {t e : TypeId} {ti te : TI} {len : Nat} {parts : Array (Nat × Value)} {zs cs : List Value} (hT : TyOK P T) (ht : lookT T t = some ti) (hu : ti.u = .slice e) (he : lookT T e = some te) (hsz : Nat.ble 1 te.size = true) (hz : te.zero.cells.toList = zs) (hzl : zs.length = te.size) (hle : Nat.ble (len * te.size) 16777216 = true)
    (hf : fillL (fun i => some (i * te.size, te.size)) (repL len zs) parts.toList = some cs) :
    (Instr.buildSlice t len parts).run P w = .ok (.slice (some ⟨w.heap.size, 0, none⟩) len len) (w.alloc (.cells cs.toArray e (0, 0))) := by
  have h1 := ty_under (hT _ _ ht) w
  rw [hu] at h1
  have h2 := ty_sizeOf (hT _ _ he) w
  have h3 := ty_zero (hT _ _ he) w
  have hs1 : 1 ≤ te.size := Nat.le_of_ble_eq_true hsz
  have hle' : len * te.size ≤ 16777216 := Nat.le_of_ble_eq_true hle
  have hfill := fillL_eq (fun i o s h => by cases h; exact hs1) hf
  have hz2 : te.zero.cells = zs.toArray := by rw [← hz]
  have hinit : (Array.range (len * te.size)).map (fun x => zs.toArray[x % zs.toArray.size]!) = (repL len zs).toArray := by
    apply Array.ext
    · simp [repL_len, hzl]
    · intro i h1 h2
      have hi : i < len * zs.length := by simp at h1; rw [hzl]; exact h1
      have := repL_get len zs i hi
      rw [List.getElem?_eq_getElem (by rw [repL_len]; exact hi)] at this
      simp only [Array.getElem_map, Array.getElem_range, List.getElem_toArray]
      have e2 := Option.some.inj this
      rw [e2]
      simp
  simp only [Instr.buildSlice, Sem.run_bind, h1, h2, Result.andThen]
  rw [if_neg (by omega)]
  by_cases h0 : len * te.size = 0
  · have hl0 : len = 0 := by
      rcases Nat.mul_eq_zero.1 h0 with h | h
      · exact h
      · omega
    subst hl0
    simp only [repL] at hfill
    simp [hfill, newRow, newObj, Sem.run, go_sem]
  · simp only [h0, if_false, Sem.run_bind, h3, Result.andThen, Sem.run_pure, hz2, hinit, hfill]
    simp only [newRow, newObj, Sem.run, Sem.run_bind, Sem.run_pure, Result.andThen]
    rfl
theorem LW_buildSlice {t e : TypeId} {ti te : TI} {len : Nat} {parts : Array (Nat × Operand)} {pv : List (Nat × Value)} {zs cs : List Value} (hT : TyOK P T) (hs : Sat W w L) (ht : lookT T t = some ti) (hu : ti.u = .slice e) (he : lookT T e = some te) (hz : cellsOf te.zero = zs) (hc : (Nat.beq zs.length te.size && Nat.ble 1 te.size && Nat.ble (len * te.size) 16777216) = true)
    (hp : evalParts n s parts.toList = some pv) (hf0 : fillF (fun i => some (i * te.size, te.size)) (repL len zs) pv = some cs)
    (k : ∀ b w', Sat W w' (Cl b cs e :: L) → LW r P ops Q rest (FR n ((d, .slice (some ⟨b, 0, none⟩) len len) :: s) τ ds) w') :
    LW r P ops Q (⟨some d, .buildSlice t len parts, ty, ps, af, none⟩ :: rest) (FR n s τ ds) w := by
  have hf := fillF_eq hf0
  simp only [Bool.and_eq_true] at hc
  have e1 := evalParts_run (ρ := (FR n s τ ds).eval) (fun x v => eval_of) hp
  have hz' : te.zero.cells.toList = zs := by rw [cellsOf_eq, ← hz]
  refine LW_run (v := .slice (some ⟨w.heap.size, 0, none⟩) len len) (w' := w.alloc (.cells cs.toArray e (0, 0))) rfl (fun c e => by cases e) ?_ (by rw [put_FR]; exact k _ _ (hs.alloc _))
  show Sem.run P (do let v ← Instr.buildSlice t len (parts.map fun (i, x) => (i, (FR n s τ ds).eval x)); pure (Next.value v)) w = _
  rw [Sem.run_bind, run_buildSlice' (cs := cs) hT ht hu he hc.1.2 hz' (Nat.eq_of_beq_eq_true hc.1.1) hc.2 (by simpa [e1] using hf)]; rfl
end
end Go.Sl

/- Slices: what may be read of them, and those that a call owns. -/
namespace Go.Sl
open Go.RowKit

section rd
variable {α : Type}
/-- A slice that reads as xs, each element by its cells. -/
def Rd (enc : α → List Value) (w : World) (A : Option Addr) (xs : List α) : Prop :=
  xs = [] ∨ ∃ b o, A = some ⟨b, o, none⟩ ∧ ∀ j v, (xs.flatMap enc)[j]? = some v → w.cell? ⟨b, o + j, none⟩ = some v
theorem Rd.nil (enc : α → List Value) (w : World) (A : Option Addr) : Rd enc w A [] := .inl rfl
theorem Rd.more {enc : α → List Value} {w w' : World} {A : Option Addr} {xs : List α} (h : Rd enc w A xs) (hb : Below w.heap.size w w') : Rd enc w' A xs := by
  rcases h with h | ⟨b, o, hA, h⟩
  · exact .inl h
  · exact .inr ⟨b, o, hA, fun j v hj => (hb.cell (World.block_lt_of_cell? w _ (h j v hj))).trans (h j v hj)⟩
theorem Rd.of {enc : α → List Value} {W w : World} {L : List HProp} {A : Option Addr} {xs : List α} (h : Rd enc W A xs) (hs : Sat W w L) : Rd enc w A xs := h.more hs.below
theorem flat_get {enc : α → List Value} {sz : Nat} (hz : ∀ x, (enc x).length = sz) : ∀ {xs : List α} {i k : Nat} {x : α} {v : Value}, xs[i]? = some x → (enc x)[k]? = some v → (xs.flatMap enc)[i * sz + k]? = some v
  | [], i, k, x, v, h, _ => by simp at h
  | y :: xs, 0, k, x, v, h, hk => by
    simp at h; subst h
    rw [List.flatMap_cons, Nat.zero_mul, Nat.zero_add, List.getElem?_append_left (List.getElem?_eq_some_iff.1 hk).1]; exact hk
  | y :: xs, i + 1, k, x, v, h, hk => by
    rw [List.flatMap_cons, List.getElem?_append_right (by rw [hz, Nat.add_mul]; omega)]
    rw [show (i + 1) * sz + k - (enc y).length = i * sz + k by rw [hz, Nat.add_mul]; omega]
    exact flat_get hz (by simpa using h) hk
def rd [Inhabited α] (xs : List α) (i : Int) : α := xs.getD i.toNat default
theorem rd_get [Inhabited α] {xs : List α} {i : Int} (h0 : 0 ≤ i) (h1 : i < xs.length) : xs[i.toNat]? = some (rd xs i) := by
  have : i.toNat < xs.length := by omega
  simp [rd, this]
theorem Rd.cell [Inhabited α] {enc : α → List Value} {sz : Nat} (hz : ∀ x, (enc x).length = sz) {w : World} {A : Option Addr} {xs : List α} (h : Rd enc w A xs) {b o : Nat} (hA : A = some ⟨b, o, none⟩) {i : Int} (h0 : 0 ≤ i) (h1 : i < xs.length) {k : Nat} {v : Value} (hk : getA (enc (rd xs i)) k = some v) :
    w.cell? ⟨b, o + i.toNat * sz + k, none⟩ = some v := by
  rcases h with h | ⟨b', o', hA', h⟩
  · subst h; simp at h1; omega
  · rw [hA] at hA'; cases hA'
    rw [getA_eq] at hk
    have := h (i.toNat * sz + k) v (flat_get hz (rd_get h0 h1) hk)
    rw [Nat.add_assoc]; exact this
theorem Rd.some [Inhabited α] {enc : α → List Value} {w : World} {A : Option Addr} {xs : List α} (h : Rd enc w A xs) {i : Int} (h0 : 0 ≤ i) (h1 : i < xs.length) : ∃ b o, A = some ⟨b, o, none⟩ := by
  rcases h with h | ⟨b', o', hA', h⟩
  · subst h; simp at h1; omega
  · exact ⟨_, _, hA'⟩
theorem flat_len {enc : α → List Value} {sz : Nat} (hz : ∀ x, (enc x).length = sz) (xs : List α) : (xs.flatMap enc).length = xs.length * sz := by
  induction xs with
  | nil => simp
  | cons x xs ih => simp [hz, ih, Nat.add_mul]; omega
end rd

/-- A value that is a row from its block's start on, behind which there may be more. -/
def OwnR (w : World) (base : Nat) (e : TypeId) (size : Nat) (v : Value) (n : Nat) (xs : List Value) : Prop :=
  xs.length = n * size ∧ ((v = .slice none 0 0 ∧ n = 0) ∨ ∃ g cap cur, v = .slice (some ⟨g, 0, none⟩) n cap ∧ base ≤ g ∧ w.heap[g]? = some (.cells cur e (0, 0)) ∧ n ≤ cap ∧ cap ≤ maxLen ∧ cap * size ≤ cur.size ∧ cur.toList.take (n * size) = xs)
theorem OwnR.of {w : World} {base : Nat} {e : TypeId} {size n : Nat} {v : Value} {xs : List Value} (h : w.ownsRow base e size v n xs) : OwnR w base e size v n xs := by
  refine ⟨h.1, ?_⟩
  rcases h.2 with h | ⟨g, cap, cur, h1, h2, h3, h4, h5, h6, h7⟩
  · exact .inl h
  · exact .inr ⟨g, cap, cur, h1, h2, h3, h4, h5, by omega, h7⟩
theorem OwnR.cells {w : World} {base : Nat} {e : TypeId} {size n g cap : Nat} {xs : List Value} (h : OwnR w base e size (.slice (some ⟨g, 0, none⟩) n cap) n xs) : ∀ j u, xs[j]? = some u → w.cell? ((⟨g, 0, none⟩ : Addr).add j) = some u := by
  intro j u hj
  rcases h.2 with ⟨h1, _⟩ | ⟨g', cap', cur, h1, h2, h3, h4, h5, h6, h7⟩
  · cases h1
  · cases h1
    have e1 : (⟨g, 0, none⟩ : Addr).add j = ⟨g, j, none⟩ := by unfold Addr.add; split <;> simp_all
    rw [e1]
    rw [← h7, List.getElem?_take] at hj
    split at hj
    · simp only [World.cell?, h3]; simpa using hj
    · cases hj
theorem run_appendR {P : Program} (w : World) (base : Nat) (t ty e : TypeId) (i : TypeInfo) (z : Value) (size bytes : Nat) (ht : P.underlying t = some (.slice e)) (hi : P.info? e = some i) (hz : i.zero = some z)
    (hsize : i.size = size) (hby : i.bytes = bytes) (hzs : z.cells.size = size) (hsz : 0 < size) (v : Value) (n : Nat) (xs : List Value) (hown : OwnR w base e size v n xs)
    (a : Addr) (m c : Nat) (news : List Value) (hl : news.length = m * size) (hnews : ∀ j u, news[j]? = some u → w.cell? (a.add j) = some u) (h1 : ∀ u ∈ news, u.oneCell' = true)
    (h63 : n + m ≤ maxLen) (hbytes : (n + m) * bytes ≤ 140737488355328) (hbase : base ≤ w.heap.size) :
    ∃ v' w', (Builtin.append_ #[t, t] ty #[v, .slice (some a) m c]).run P w = .ok v' w' ∧ OwnR w' base e size v' (n + m) (xs ++ news) ∧ w.grownBy w' v.ownBlock ∧ (v'.ownBlock = v.ownBlock ∨ v'.ownBlock = some w.heap.size ∧ w.grownBy w' none) := by
  rcases hown.2 with ⟨rfl, rfl⟩ | ⟨g, cap, cur, rfl, hbg, hgc, hnc, hcm, hcs, htake⟩
  · have hx : xs = [] := List.eq_nil_of_length_eq_zero (by simpa using hown.1)
    subst hx
    obtain ⟨v', w', hr, ho, hg, _, hat⟩ := run_append_own_at w base t ty e i z size bytes ht hi hz hsize hby hzs hsz (.slice none 0 0) 0 [] (World.ownsRow_nil w base e size) a m c news hl hnews h1 h63 hbytes hbase
    exact ⟨v', w', hr, .of ho, hg, hat.imp id fun h => ⟨h, hg⟩⟩
  · subst hsize
    by_cases hroom : n + m ≤ cap
    · have hfit : n * i.size + news.length ≤ cur.size := Nat.le_trans (by rw [hl, ← Nat.add_mul]; exact Nat.mul_le_mul_right _ hroom) hcs
      have h2 := run_append_room (P := P) w t ty e i ht hi g n cap cur hgc a m c news hl hnews h1 hroom hfit
      refine ⟨_, _, h2, ⟨by rw [List.length_append, hown.1, hl, Nat.add_mul], .inr ⟨g, cap, _, rfl, hbg, setRow_heap w g cur _ e _ hgc, hroom, hcm, ?_, ?_⟩⟩, ⟨rfl, rfl, rfl, by simp, fun k _ hk => setRow_other w g k _ (fun e => hk (by simp [Value.ownBlock, e]))⟩, .inl rfl⟩
      · simp only [List.size_toArray, List.length_append, List.length_take, List.length_drop, Array.length_toList]
        omega
      · rw [htake, List.take_append_of_le_length (by rw [List.length_append, hown.1, hl, Nat.add_mul]; omega), List.take_of_length_le (by rw [List.length_append, hown.1, hl, Nat.add_mul]; omega)]
    · have h2 := run_append_grow (P := P) w t ty e i z ht hi hz ⟨g, 0, none⟩ n cap xs hown.1 hown.cells a m c news hl hnews (by omega) (by simp only [maxLen] at h63; omega) (growslice_fits (by omega) (by rw [hby]; exact hbytes))
      have hge := grownCap_ge w (n + m) cap e
      have hlen : (xs ++ news).length = (n + m) * i.size := by rw [List.length_append, hown.1, hl, Nat.add_mul]
      have hgb : ∀ row, w.grownBy (w.drew.alloc (.cells (xs.toArray ++ news.toArray ++ Builtin.zeroCells z.cells (grownCap w (n + m) cap e - (n + m))) e)) row := fun row => ⟨rfl, rfl, rfl, by simp, fun k hk _ => Below.heap_alloc w.drew _ k hk⟩
      refine ⟨_, _, h2, ⟨hlen, .inr ⟨w.heap.size, _, _, rfl, hbase, World.alloc_heap_new w.drew _, hge, grownCap_le_maxLen w (n + m) cap e h63, ?_, ?_⟩⟩, hgb _, .inr ⟨rfl, hgb _⟩⟩
      · simp only [Array.size_append, List.size_toArray, size_zeroCells, hzs, hown.1, hl, ← Nat.add_mul]
        exact Nat.mul_le_mul_right _ (by omega)
      · simp only [Array.toList_append, List.append_assoc]
        rw [← List.append_assoc, ← hlen]
        exact List.take_left

/-- A row of the call's own: the slice '.slice A n c', whose elements take the cells told. -/
def Row (e : TypeId) (sz : Nat) (A : Option Addr) (n c : Nat) (cells : List Value) : HProp := fun h =>
  cells.length = n * sz ∧ ((A = none ∧ n = 0 ∧ c = 0) ∨ ∃ b spare, A = some ⟨b, 0, none⟩ ∧ n ≤ c ∧ c ≤ maxLen ∧ c * sz ≤ (cells ++ spare).length ∧ h b = some (.cells (cells ++ spare).toArray e (0, 0)))
/-- The same, its elements read as xs. -/
abbrev RowOf {α : Type} (enc : α → List Value) (e : TypeId) (sz : Nat) (A : Option Addr) (c : Nat) (xs : List α) : HProp := Row e sz A xs.length c (xs.flatMap enc)

section
variable {W w : World} {L R : List HProp} {e : TypeId} {sz n c : Nat} {A : Option Addr} {cells : List Value}
theorem Row.nil (h : Frag) : Row e sz none 0 0 [] h := ⟨by simp, .inl ⟨rfl, rfl, rfl⟩⟩
theorem Sat.nilRow (hs : Sat W w L) (e : TypeId) (sz : Nat) : Sat W w (Row e sz none 0 0 [] :: L) :=
  ⟨hs.below, fun _ => none, _, fun _ => .inl rfl, fun _ _ h => (by cases h), Frag.le.refl _, Row.nil _, hs.sep⟩
theorem Sat.row0 (hs : Sat W w (Row e sz A n c cells :: R)) : OwnR w W.heap.size e sz (.slice A n c) n cells := by
  obtain ⟨h1, h2, _, l1, _, ⟨hl, h⟩, _⟩ := hs.sep
  refine ⟨hl, ?_⟩
  rcases h with ⟨rfl, rfl, rfl⟩ | ⟨b, spare, rfl, hnc, hcm, hlen, hb⟩
  · exact .inl ⟨rfl, rfl⟩
  · obtain ⟨hB, hw⟩ := frg_some (l1 _ _ hb)
    refine .inr ⟨b, c, _, rfl, hB, hw, hnc, hcm, by simpa using hlen, ?_⟩
    rw [← hl]; simp
theorem Sat.row (hs : Sat W w L) (i : Nat) (hi : getA L i = some (Row e sz A n c cells)) : OwnR w W.heap.size e sz (.slice A n c) n cells := by
  rw [getA_eq] at hi
  exact (hs.front i hi).row0
/-- A row is turned for another that lies where it lay or is new. -/
theorem Sat.rowTurn {w' : World} (hs : Sat W w (Row e sz A n c cells :: R)) {n' : Nat} {v' : Value} {cells' : List Value} (hown : OwnR w' W.heap.size e sz v' n' cells')
    (hg : w.grownBy w' (Value.slice A n c).ownBlock) (hat : v'.ownBlock = (Value.slice A n c).ownBlock ∨ v'.ownBlock = some w.heap.size) :
    ∃ A' c', v' = .slice A' n' c' ∧ Sat W w' (Row e sz A' n' c' cells' :: R) := by
  obtain ⟨h1, h2, hd, l1, l2, ⟨hl, h⟩, hR⟩ := hs.sep
  have hbelow : Below W.heap.size W w' := by
    refine hs.below.grown hg hs.size fun k hk => ?_
    rcases h with ⟨rfl, rfl, rfl⟩ | ⟨b, spare, rfl, _, _, _, hb⟩
    · simp [Value.ownBlock] at hk
    · simp [Value.ownBlock] at hk; subst hk; exact (frg_some (l1 _ _ hb)).1
  have hR2 : Frag.le h2 (frg W.heap.size w') := by
    intro x y hx
    obtain ⟨hB, hw⟩ := frg_some (l2 _ _ hx)
    refine frg_mk hB ((hg.block x (block_lt hw) ?_).trans hw)
    rcases h with ⟨rfl, rfl, rfl⟩ | ⟨b, spare, rfl, _, _, _, hb⟩
    · simp [Value.ownBlock]
    · simp only [Value.ownBlock]
      intro hxb; cases hxb
      rcases hd x with q | q
      · rw [hb] at q; cases q
      · rw [hx] at q; cases q
  obtain ⟨hl', hv⟩ := hown
  rcases hv with ⟨rfl, rfl⟩ | ⟨g, cap, cur, rfl, hB, hcur, hnc, hcm, hcs, htk⟩
  · exact ⟨none, 0, rfl, hbelow, fun _ => none, h2, fun _ => .inl rfl, fun _ _ h => (by cases h), hR2, ⟨hl', .inl ⟨rfl, rfl, rfl⟩⟩, hR⟩
  · refine ⟨some ⟨g, 0, none⟩, cap, rfl, hbelow, fun x => if x = g then some (.cells cur e (0, 0)) else none, h2, ?_, ?_, hR2, ⟨hl', .inr ⟨g, cur.toList.drop (n' * sz), rfl, hnc, hcm, ?_, ?_⟩⟩, hR⟩
    · intro x
      by_cases hx : x = g
      · subst hx
        refine .inr ?_
        cases hh : h2 x with
        | none => rfl
        | some o =>
          exfalso
          obtain ⟨_, hw⟩ := frg_some (l2 _ _ hh)
          have hlt := block_lt hw
          rcases hat with hat | hat
          · rcases h with ⟨rfl, rfl, rfl⟩ | ⟨b, spare, rfl, _, _, _, hb⟩
            · simp [Value.ownBlock] at hat
            · simp [Value.ownBlock] at hat; subst hat
              rcases hd x with q | q
              · rw [hb] at q; cases q
              · rw [hh] at q; cases q
          · simp [Value.ownBlock] at hat; omega
      · exact .inl (by simp [hx])
    · intro x y hx
      by_cases hxg : x = g
      · subst hxg; simp at hx; subst hx; exact frg_mk hB hcur
      · simp [hxg] at hx
    · rw [← htk, List.take_append_drop]; simpa using hcs
    · rw [← htk, List.take_append_drop]; simp
theorem Row.rd {α : Type} {enc : α → List Value} {xs : List α} (h : OwnR w W.heap.size e sz (.slice A xs.length c) xs.length (xs.flatMap enc)) : Rd enc w A xs := by
  obtain ⟨hl, h⟩ := h
  rcases h with ⟨h1, h2⟩ | ⟨g, cap, cur, hv, hB, hcur, hnc, hcm, hcs, htk⟩
  · exact .inl (List.length_eq_zero_iff.1 h2)
  · cases hv
    refine .inr ⟨g, 0, rfl, fun j v hj => ?_⟩
    rw [Nat.zero_add]
    have h2 : w.cell? ⟨g, j, none⟩ = cur[j]? := by simp [World.cell?, hcur]
    rw [h2]
    rw [← htk] at hj
    rw [List.getElem?_take] at hj
    split at hj
    · simpa using hj
    · cases hj
theorem Sat.rd {α : Type} {enc : α → List Value} {xs : List α} (hs : Sat W w L) (i : Nat) (hi : getA L i = some (RowOf enc e sz A c xs)) : Rd enc w A xs := Row.rd (hs.row i hi)
/-- A block of one's own reads so. -/
theorem Sat.rdC {α : Type} {enc : α → List Value} {xs : List α} {b : Nat} {t : TypeId} (hs : Sat W w L) (i : Nat) (hi : getA L i = some (Cl b (xs.flatMap enc) t)) : Rd enc w (some ⟨b, 0, none⟩) xs := by
  rw [getA_eq] at hi
  exact .inr ⟨b, 0, rfl, fun j v hj => by rw [Nat.zero_add, hs.cell i hi j]; exact hj⟩
theorem Sat.and0 {w' : World} (hs : Sat W w L) (h : Sat w w' []) : Sat W w' L := hs.andThen h
theorem Sat.and1 {w' : World} {p : HProp} (hs : Sat W w L) (h : Sat w w' [p]) : Sat W w' (p :: L) := hs.andThen h
theorem Sat.and2 {w' : World} {p q : HProp} (hs : Sat W w L) (h : Sat w w' [p, q]) : Sat W w' (p :: q :: L) := hs.andThen h
theorem Sat.same {w' : World} (hs : Sat W w L) (h : w' = w) : Sat W w' L := h ▸ hs
end

theorem run_append_none {P : Program} {w : World} {base n : Nat} {t ty e : TypeId} {te : TI} {sz : Nat} {xs : List Value} {A : Option Addr} {c : Nat} (ht : P.underlying t = some (.slice e)) (he : tyOf P e = some te) (hown : OwnR w base e sz (.slice A n c) n xs) (cb : Nat) :
    (Builtin.append_ #[t, t] ty #[.slice A n c, .slice none 0 cb]).run P w = .ok (.slice A n c) w := by
  have h1 : n ≤ c := by
    rcases hown.2 with ⟨h, h2⟩ | ⟨g, cap, cur, hv, hB, hcur, hnc, hcm, hcs, htk⟩
    · cases h; exact Nat.le_refl _
    · cases hv; exact hnc
  have hu := run_underlying ht w
  have h2 := ty_sizeOf he w
  cases A <;> simp [Builtin.append_, Sem.run_bind, hu, h2, Result.andThen, Builtin.lenOf, Builtin.firstCells, storeCells, h1, go_sem]
section steps
variable {r : Option Nat} {P : Program} {T : List (Nat × TI)} {ops : Array Oper} {Q : Exit → Act → World → Prop} {rest : List Oper} {n : Nat} {s : List (Nat × Value)} {τ : Nat → Value} {ds : List Deferred} {w : World}
  {ty : TypeId} {ps : String} {af : Array Edge} {d : Nat} {W : World} {L : List HProp} {α : Type} {e' : TypeId}
/-- The place of an element of a slice that may be read. -/
theorem LW_indexRd [Inhabited α] {enc : α → List Value} {xs : List α} {A : Option Addr} (hr : Rd enc w A xs) {t e : TypeId} {x y : Operand} {ti te : TI} {k : IntKind} {cap : Nat} {i : Int} (hT : TyOK P T) (hx : EVO n s x = some (.slice A xs.length cap)) (hy : EVO n s y = some (.int k i)) (ht : lookT T t = some ti) (hu : ti.u = .slice e) (he : lookT T e = some te)
    (h0 : 0 ≤ i) (h1 : i < xs.length) (c : ∀ b o, A = some ⟨b, o, none⟩ → LW r P ops Q rest (FR n ((d, .pointer (some ⟨b, o + i.toNat * te.size, none⟩)) :: s) τ ds) w) : LW r P ops Q (⟨some d, .indexAddr t x y, ty, ps, af, none⟩ :: rest) (FR n s τ ds) w := by
  obtain ⟨b, o, hA⟩ := hr.some h0 h1
  subst hA
  exact LW_indexAddr hT hx hy ht hu he h0 h1 (c b o rfl)
theorem LW_loadRd [Inhabited α] {enc : α → List Value} {xs : List α} {A : Option Addr} (hr : Rd enc w A xs) {sz : Nat} (hz : ∀ x, (enc x).length = sz) {x : Operand} {t : TypeId} {ti : TI} {b o k : Nat} {i : Int} {v : Value} (hT : TyOK P T) (hx : EVO n s x = some (.pointer (some ⟨b, o + i.toNat * sz + k, none⟩))) (hA : A = some ⟨b, o, none⟩) (ht : lookT T t = some ti) (ha : ti.agg = false)
    (h0 : 0 ≤ i) (h1 : i < xs.length) (hk : getA (enc (rd xs i)) k = some v) (c : LW r P ops Q rest (FR n ((d, v) :: s) τ ds) w) : LW r P ops Q (⟨some d, .load t x, ty, ps, af, none⟩ :: rest) (FR n s τ ds) w :=
  LW_load hT hx ht ha (hr.cell hz hA h0 h1 hk) c
theorem LW_loadRd0 [Inhabited α] {enc : α → List Value} {xs : List α} {A : Option Addr} (hr : Rd enc w A xs) (hz : ∀ x, (enc x).length = 1) {x : Operand} {t : TypeId} {ti : TI} {b o : Nat} {i : Int} {v : Value} (hT : TyOK P T) (hx : EVO n s x = some (.pointer (some ⟨b, o + i.toNat * 1, none⟩))) (hA : A = some ⟨b, o, none⟩) (ht : lookT T t = some ti) (ha : ti.agg = false)
    (h0 : 0 ≤ i) (h1 : i < xs.length) (hk : getA (enc (rd xs i)) 0 = some v) (c : LW r P ops Q rest (FR n ((d, v) :: s) τ ds) w) : LW r P ops Q (⟨some d, .load t x, ty, ps, af, none⟩ :: rest) (FR n s τ ds) w :=
  LW_load hT hx ht ha (by have := hr.cell hz hA h0 h1 hk; rwa [Nat.add_zero] at this) c
/-- A whole element of several cells. -/
theorem LW_loadRdA [Inhabited α] {enc : α → List Value} {xs : List α} {A : Option Addr} (hr : Rd enc w A xs) {sz : Nat} (hz : ∀ x, (enc x).length = sz) {x : Operand} {t : TypeId} {ti : TI} {b o : Nat} {i : Int} (hT : TyOK P T) (hx : EVO n s x = some (.pointer (some ⟨b, o + i.toNat * sz, none⟩))) (hA : A = some ⟨b, o, none⟩) (ht : lookT T t = some ti) (ha : ti.agg = true) (hsz : ti.size = sz)
    (h0 : 0 ≤ i) (h1 : i < xs.length) {vs : List Value} (hv : enc (rd xs i) = vs) (c : LW r P ops Q rest (FR n ((d, .agg vs.toArray) :: s) τ ds) w) : LW r P ops Q (⟨some d, .load t x, ty, ps, af, none⟩ :: rest) (FR n s τ ds) w :=
  LW_loadA hT hx ht ha (by rw [← hv, hz, hsz]) (fun j v hj => by
    have := hr.cell hz hA h0 h1 (k := j) (v := v) (by rw [getA_eq, hv]; exact hj)
    exact this) c
/-- append: onto a row of one's own, of a slice that may be read. -/
theorem LW_append (i : Nat) {enc : α → List Value} {sz : Nat} (hz : ∀ x, (enc x).length = sz) {xs ys : List α} {A B : Option Addr} {c cb : Nat} (hs : Sat W w L) {x y : Operand} {t e : TypeId} {ti te : TI} (hT : TyOK P T) (hx : EVO n s x = some (.slice A xs.length c)) (hy : EVO n s y = some (.slice B ys.length cb)) (hr : Rd enc w B ys) (h1 : ∀ x, ∀ u ∈ enc x, u.oneCell' = true)
    (ht : lookT T t = some ti) (hu : ti.u = .slice e) (he : lookT T e = some te) (hsz : te.size = sz) (hpos : Nat.ble 1 te.size = true) (hzc : te.zero.cells.size = te.size) (hi : getA L i = some (RowOf enc e sz A c xs))
    (hlen : xs.length + ys.length ≤ maxLen) (hby : (xs.length + ys.length) * te.bytes ≤ 140737488355328)
    (k : ∀ A' c' w', Sat W w' (L.set i (RowOf enc e sz A' c' (xs ++ ys))) → LW r P ops Q rest (FR n ((d, .slice A' (xs ++ ys).length c') :: s) τ ds) w') :
    LW r P ops Q (⟨some d, .call { callee := .builtin .append, args := #[x, y], argTypes := #[t, t] }, ty, ps, af, none⟩ :: rest) (FR n s τ ds) w := by
  have hi' : L[i]? = some (RowOf enc e sz A c xs) := by rw [← getA_eq]; exact hi
  have hown := hs.row i hi
  have hf := hs.front i hi'
  obtain ⟨hu1, f, hf1, hf2, hf3, hf4⟩ := ty_info (hT _ _ ht)
  obtain ⟨hu2, fe, hfe, hfe2, hfe3, hfe4⟩ := ty_info (hT _ _ he)
  rw [hu] at hu1
  have hpos' : 0 < sz := by rw [← hsz]; exact Nat.le_of_ble_eq_true hpos
  have key : ∃ v' w', (Builtin.append_ #[t, t] ty #[.slice A xs.length c, .slice B ys.length cb]).run P w = .ok v' w' ∧ OwnR w' W.heap.size e sz v' (xs.length + ys.length) (xs.flatMap enc ++ ys.flatMap enc) ∧ w.grownBy w' (Value.slice A xs.length c).ownBlock ∧ (v'.ownBlock = (Value.slice A xs.length c).ownBlock ∨ v'.ownBlock = some w.heap.size) := by
    rcases hr with hr | ⟨b, o, hB, hr⟩
    · subst hr
      cases B with
      | none =>
        refine ⟨_, w, run_append_none hu1 (hT _ _ he) hown cb, by simpa using hown, World.grownBy.refl _ _, .inl rfl⟩
      | some ad =>
        obtain ⟨v', w', h1', h2, h3, h5⟩ := run_appendR w W.heap.size t ty e fe te.zero sz te.bytes hu1 hfe hfe2 (by rw [hfe3, hsz]) hfe4 (by rw [hzc, hsz]) hpos' (.slice A xs.length c) xs.length (xs.flatMap enc) hown ad 0 cb [] (by simp) (fun j u h => by simp at h) (fun u h => by cases h) (by simpa using hlen) (by simpa using hby) hs.size
        exact ⟨v', w', h1', by simpa using h2, h3, h5.imp id (·.1)⟩
    · subst hB
      obtain ⟨v', w', h1', h2, h3, h5⟩ := run_appendR w W.heap.size t ty e fe te.zero sz te.bytes hu1 hfe hfe2 (by rw [hfe3, hsz]) hfe4 (by rw [hzc, hsz]) hpos' (.slice A xs.length c) xs.length (xs.flatMap enc) hown ⟨b, o, none⟩ ys.length cb (ys.flatMap enc) (flat_len hz ys)
        (fun j u h => by
          have e : (⟨b, o, none⟩ : Addr).add j = ⟨b, o + j, none⟩ := by unfold Addr.add; split <;> simp_all
          rw [e]; exact hr j u h) (fun u h => by obtain ⟨x, _, hx⟩ := List.mem_flatMap.1 h; exact h1 x u hx) hlen hby hs.size
      exact ⟨v', w', h1', h2, h3, h5.imp id (·.1)⟩
  obtain ⟨v', w', hrun, hown', hg, hat⟩ := key
  obtain ⟨A', c', rfl, hs'⟩ := hf.rowTurn hown' hg hat
  have hcat : xs.flatMap enc ++ ys.flatMap enc = (xs ++ ys).flatMap enc := by simp
  have hln : xs.length + ys.length = (xs ++ ys).length := by simp
  rw [hcat, hln] at hs'
  rw [hln] at hrun
  refine LW_run (v := .slice A' (xs ++ ys).length c') (w' := w') rfl (fun c e => by cases e) ?_ (by rw [put_FR]; exact k A' c' w' (Sat.back hi' hs'))
  show Sem.run P (do let d ← resolve (FR n s τ ds).eval { callee := .builtin .append, args := #[x, y], argTypes := #[t, t] } ty; invoke d.target d.args) w = _
  have e1 : (#[x, y] : Array Operand).map (FR n s τ ds).eval = #[.slice A xs.length c, .slice B ys.length cb] := by simp [eval_of hx, eval_of hy]
  simp only [resolve, e1, Sem.run_bind, Sem.run_pure, Result.andThen, invoke, builtin, hrun]
/-- append of one element, which lies in the block that was just laid for it. -/
theorem LW_append1 (i : Nat) {enc : α → List Value} {sz : Nat} (hE : (∀ x, (enc x).length = sz) ∧ ∀ x, ∀ u ∈ enc x, u.oneCell' = true) {xs : List α} {z : α} {A : Option Addr} {c bx : Nat} {cs : List Value} (hs : Sat W w (Cl bx cs e' :: L)) {x y : Operand} {t e : TypeId} {ti te : TI} (hT : TyOK P T) (hx : EVO n s x = some (.slice A xs.length c)) (hy : EVO n s y = some (.slice (some ⟨bx, 0, none⟩) 1 1)) (hcs : enc z = cs)
    (ht : lookT T t = some ti) (hu : ti.u = .slice e) (he : lookT T e = some te) (hsz : te.size = sz) (hpos : Nat.ble 1 te.size = true) (hzc : te.zero.cells.size = te.size) (hi : getA L i = some (RowOf enc e sz A c xs))
    (hlen : xs.length + 1 ≤ maxLen) (hby : (xs.length + 1) * te.bytes ≤ 140737488355328)
    (k : ∀ A' c' w', Sat W w' (L.set i (RowOf enc e sz A' c' (xs ++ [z]))) → LW r P ops Q rest (FR n ((d, .slice A' (xs ++ [z]).length c') :: s) τ ds) w') :
    LW r P ops Q (⟨some d, .call { callee := .builtin .append, args := #[x, y], argTypes := #[t, t] }, ty, ps, af, none⟩ :: rest) (FR n s τ ds) w := by
  have hr : Rd enc w (some ⟨bx, 0, none⟩) [z] := hs.rdC (t := e') 0 (by simp [getA, hcs])
  refine LW_append (i + 1) hE.1 (ys := [z]) hs hT hx hy hr hE.2 ht hu he hsz hpos hzc (by simpa [getA] using hi) (by simpa using hlen) (by simpa using hby) ?_
  intro A' c' w' hs'
  exact k A' c' w' (Sat.drop1 hs')
end steps
def eI (x : Int) : List Value := [.int .i64 x]
def eP (p : Int × Int) : List Value := [.int .i64 p.1, .int .i64 p.2]
def eB (b : UInt8) : List Value := [.int .u8 b.toNat]
def eS (b : ByteArray) : List Value := [.string b]
theorem eI_ok : (∀ x, (eI x).length = 1) ∧ ∀ x, ∀ u ∈ eI x, u.oneCell' = true := ⟨fun _ => rfl, fun x u h => by simp [eI] at h; subst h; rfl⟩
theorem eP_ok : (∀ x, (eP x).length = 2) ∧ ∀ x, ∀ u ∈ eP x, u.oneCell' = true := ⟨fun _ => rfl, fun x u h => by simp [eP] at h; rcases h with rfl | rfl <;> rfl⟩
theorem eB_ok : (∀ x, (eB x).length = 1) ∧ ∀ x, ∀ u ∈ eB x, u.oneCell' = true := ⟨fun _ => rfl, fun x u h => by simp [eB] at h; subst h; rfl⟩
theorem eS_ok : (∀ x, (eS x).length = 1) ∧ ∀ x, ∀ u ∈ eS x, u.oneCell' = true := ⟨fun _ => rfl, fun x u h => by simp [eS] at h; subst h; rfl⟩
end Go.Sl

/- A region whose order is drawn, taken by a plan. -/
namespace Go.Sl
open Go.RowKit

/-- Is the plan one: each that only reads may be taken first; each other is alone when it is taken. -/
def planOK (l : List Oper) (eff : List Nat) : List Nat → Array Bool → Bool
  | [], listed => match Region.ready .any l.toArray listed with
    | [] => true
    | _ => false
  | i :: rest, listed => (cond (eff.contains i) (match Region.ready .any l.toArray listed with
      | [j] => Nat.beq i j
      | _ => false) (Region.free .any l.toArray listed i && (Region.ready .any l.toArray listed).contains i)) && planOK l eff rest (listed.setIfInBounds i true)
def DP (r : Option Nat) (P : Program) (l : List Oper) (eff : List Nat) (K : Act → World → Prop) (Cs : List (Nat × (World → Prop))) (plan : List Nat) (listed : Array Bool) (a : Act) (w : World) : Prop :=
  noDefer l.toArray = true → planOK l eff plan listed = true → DW r P l eff K Cs plan.length listed a w
section
variable {r : Option Nat} {P : Program} {T : List (Nat × TI)} {l : List Oper} {eff : List Nat} {K : Act → World → Prop} {Cs : List (Nat × (World → Prop))} {plan : List Nat} {listed : Array Bool} {a : Act} {w : World} {n : Nat} {s : List (Nat × Value)} {τ : Nat → Value} {ds : List Deferred}
  {W : World} {L : List HProp} {op : Op} {ty : TypeId} {ps : String} {af : Array Edge} {d i : Nat} {α : Type}
theorem CW_drawP {Q : Exit → Act → World → Prop} {id : Nat} (eff plan : List Nat) (hm : P.follows .mixedOrders = true) (hok : (noDefer l.toArray && planOK l eff plan (Array.replicate l.length false) && Nat.beq plan.length l.length) = true) (hs : Sat W w L)
    (h : Sat W w.drew L → DP r P l eff (fun a w => Q .normal a w) [] plan (Array.replicate l.length false) a w.drew) : CW r P (.region id l.toArray true) Q a w := by
  simp only [Bool.and_eq_true] at hok
  refine CW_draw eff hm hok.1.1 ?_
  have := h hs.drew hok.1.1 hok.1.2
  rwa [Nat.eq_of_beq_eq_true hok.2] at this
theorem QN_n {K : Act → World → Prop} (h : K a w) : QN K .normal a w := h
theorem DP_end (hI : Inv l eff Cs listed w) (h : K a w) : DP r P l eff K Cs [] listed a w := fun _ hp => by
  refine DW_done ?_ hI h
  unfold planOK at hp
  split at hp
  · assumption
  · cases hp
theorem DP_eff {o : Oper} (heff : eff.contains i = true) (hi : getA l i = some o) (hI : Inv l eff Cs listed w) (h : LW r P l.toArray (QN (DP r P l eff K Cs plan (listed.setIfInBounds i true))) [o] a w) : DP r P l eff K Cs (i :: plan) listed a w := fun hnd hp => by
  unfold planOK at hp
  simp only [Bool.and_eq_true, heff, cond_true] at hp
  obtain ⟨h1, h2⟩ := hp
  split at h1
  · rename_i j hr
    obtain rfl := Nat.eq_of_beq_eq_true h1
    refine DW_eff i hi hnd hr hI ?_
    have mono : ∀ {o : List Oper} {a : Act} {w : World}, LW r P l.toArray (QN (DP r P l eff K Cs plan (listed.setIfInBounds i true))) o a w → LW r P l.toArray (QN (DW r P l eff K Cs plan.length (listed.setIfInBounds i true))) o a w := by
      intro o
      induction o with
      | nil => exact fun h => h hnd h2
      | cons o os ih =>
        intro a w h
        unfold LW wpListIn at h ⊢
        split at h
        · rw [if_pos ‹_›]
          refine ⟨h.1, uponIn_mono (fun a w q => ih q) (fun _ _ _ q => q) (fun _ _ q => q) h.2⟩
        · rw [if_neg ‹_›]; exact ⟨h.1, ih h.2⟩
    exact mono h
  · cases h1
theorem DP_plain {o : Oper} {v : Value} (heff : eff.contains i = false) (hi : getA l i = some o) (hy : YC P l.toArray (fun _ => True) o v a) (k : DP r P l eff K Cs plan (listed.setIfInBounds i true) (a.put o.dst v) w) : DP r P l eff K Cs (i :: plan) listed a w := fun hnd hp => by
  unfold planOK at hp
  simp only [Bool.and_eq_true, heff, cond_false] at hp
  exact DW_plain i hi hnd heff hp.1.1 hp.1.2 hy (k hnd hp.2)
theorem DP_yield {o : Oper} {v : Value} (c : World → Prop) (heff : eff.contains i = false) (hi : getA l i = some o) (hy : YC P l.toArray c o v a) (hc : c w) (hI : Inv l eff Cs listed w) (k : DP r P l eff K ((i, c) :: Cs) plan (listed.setIfInBounds i true) (a.put o.dst v) w) : DP r P l eff K Cs (i :: plan) listed a w := fun hnd hp => by
  unfold planOK at hp
  simp only [Bool.and_eq_true, heff, cond_false] at hp
  exact DW_yield i c hi hnd heff hp.1.1 hp.1.2 hy hc hI (k hnd hp.2)
theorem YC.mk {c : World → Prop} {o : Oper} {v : Value} (hg : o.guard = none) (h : ∀ w, c w → (execOp a.eval o).run P w = .ok (.value v) w) : YC P l.toArray c o v a := .inl ⟨by simp [Region.wanted, hg], h⟩
theorem YC.mkG {c : World → Prop} {o : Oper} {v : Value} {j : Nat} {b : Bool} (hg : o.guard = some (j, b)) (hy : yld s n l j = some b) (h : ∀ w, c w → (execOp (FR n s τ ds).eval o).run P w = .ok (.value v) w) : YC P l.toArray c o v (FR n s τ ds) :=
  .inl ⟨by simp [Region.wanted, hg, yld_yielded hy], h⟩
/-- The guard of an operation, where it has one, says yes. -/
def gdOK (s : List (Nat × Value)) (n : Nat) (l : List Oper) : Option (Nat × Bool) → Prop
  | none => True
  | some (j, b) => yld s n l j = some b
theorem YC.mkD {c : World → Prop} {o : Oper} {v : Value} (hg : gdOK s n l o.guard) (h : ∀ w, c w → (execOp (FR n s τ ds).eval o).run P w = .ok (.value v) w) : YC P l.toArray c o v (FR n s τ ds) := by
  cases e : o.guard with
  | none => exact YC.mk e h
  | some g => obtain ⟨j, b⟩ := g; rw [e] at hg; exact YC.mkG e hg h
variable {gd : Option (Nat × Bool)}
theorem DP_pure (hT : TyOK P T) (heff : eff.contains i = false) (hi : getA l i = some ⟨some d, op, ty, ps, af, gd⟩) (hg : gdOK s n l gd) {v : Value} (h : evalOp T n s op = some v) (k : DP r P l eff K Cs plan (listed.setIfInBounds i true) (FR n ((d, v) :: s) τ ds) w) :
    DP r P l eff K Cs (i :: plan) listed (FR n s τ ds) w :=
  DP_plain heff hi (YC.mkD hg fun w _ => evalOp_run (fun x v => eval_of) hT h w) (by rw [put_FR]; exact k)
theorem DP_nileq (hT : TyOK P T) (heff : eff.contains i = false) (hi : getA l i = some ⟨some d, op, ty, ps, af, gd⟩) (hg : gdOK s n l gd) {b : Bool} (h : evalNil T n s op = some b) (k : DP r P l eff K Cs plan (listed.setIfInBounds i true) (FR n ((d, .bool b) :: s) τ ds) w) :
    DP r P l eff K Cs (i :: plan) listed (FR n s τ ds) w :=
  DP_plain heff hi (YC.mkD hg fun w _ => evalNil_run (fun x v => eval_of) hT h w) (by rw [put_FR]; exact k)
theorem DP_cmp {p : Prop} [inst : Decidable p] (heff : eff.contains i = false) (hi : getA l i = some ⟨some d, op, ty, ps, af, gd⟩) (hg : gdOK s n l gd) (h : evalCmp n s op = some (decide p)) (ht : p → DP r P l eff K Cs plan (listed.setIfInBounds i true) (FR n ((d, .bool true) :: s) τ ds) w)
    (hf : ¬ p → DP r P l eff K Cs plan (listed.setIfInBounds i true) (FR n ((d, .bool false) :: s) τ ds) w) : DP r P l eff K Cs (i :: plan) listed (FR n s τ ds) w := by
  refine DP_plain (v := .bool (decide p)) heff hi (YC.mkD hg fun w _ => evalCmp_run (fun x v => eval_of) h w) ?_
  rw [put_FR]
  by_cases hp : p
  · simp only [hp, decide_true]; exact ht hp
  · simp only [hp, decide_false]; exact hf hp
theorem DP_cmpB {b : Bool} (heff : eff.contains i = false) (hi : getA l i = some ⟨some d, op, ty, ps, af, gd⟩) (hg : gdOK s n l gd) (h : evalCmp n s op = some b) (k : DP r P l eff K Cs plan (listed.setIfInBounds i true) (FR n ((d, .bool b) :: s) τ ds) w) : DP r P l eff K Cs (i :: plan) listed (FR n s τ ds) w :=
  DP_plain (v := .bool b) heff hi (YC.mkD hg fun w _ => evalCmp_run (fun x v => eval_of) h w) (by rw [put_FR]; exact k)
theorem DP_i64 {e : Int} (heff : eff.contains i = false) (hi : getA l i = some ⟨some d, op, ty, ps, af, gd⟩) (hg : gdOK s n l gd) (h : evalArith n s op = some (.i64, e)) (h1 : -9223372036854775808 ≤ e) (h2 : e ≤ 9223372036854775807) (k : DP r P l eff K Cs plan (listed.setIfInBounds i true) (FR n ((d, .int .i64 e) :: s) τ ds) w) :
    DP r P l eff K Cs (i :: plan) listed (FR n s τ ds) w :=
  DP_plain (v := .int .i64 e) heff hi (YC.mkD hg fun w _ => by
    have := evalArith_run (P := P) (o := ⟨some d, op, ty, ps, af, gd⟩) (ρ := (FR n s τ ds).eval) (fun x v => eval_of) h w
    rwa [IntWalk.i64_in e (by omega)] at this) (by rw [put_FR]; exact k)
/-- The guard says no. -/
theorem DP_pass {j : Nat} {b b' : Bool} (heff : eff.contains i = false) (hi : getA l i = some ⟨some d, op, ty, ps, af, some (j, b)⟩) (hy : yld s n l j = some b') (hne : b' = !b) (k : DP r P l eff K Cs plan (listed.setIfInBounds i true) (FR n ((d, undef) :: s) τ ds) w) : DP r P l eff K Cs (i :: plan) listed (FR n s τ ds) w :=
  DP_plain heff hi (.inr ⟨by subst hne; simp [Region.wanted, yld_yielded hy], rfl⟩) (by rw [put_FR]; exact k)
theorem DP_passU {j j' : Nat} {b : Bool} {o' : Oper} {d' : Nat} (heff : eff.contains i = false) (hi : getA l i = some ⟨some d, op, ty, ps, af, some (j, b)⟩) (hj : getA l j = some o') (hd : o'.dst = some d') (hy : EVO n s (.tmp d') = some undef) (k : DP r P l eff K Cs plan (listed.setIfInBounds i true) (FR n ((d, undef) :: s) τ ds) w) : DP r P l eff K Cs (i :: plan) listed (FR n s τ ds) w := by
  refine DP_plain heff hi (.inr ⟨?_, rfl⟩) (by rw [put_FR]; exact k)
  have h1 := eval_of (τ := τ) (ds := ds) hy
  have h2 : (FR n s τ ds).tmps[d']?.getD undef = undef := by simpa [Act.eval] using h1
  rw [getA_eq] at hj
  have : yielded l.toArray (FR n s τ ds).tmps j = none := by
    unfold yielded
    simp only [List.getElem?_toArray, hj, Option.bind_some, hd]
    cases h3 : (FR n s τ ds).tmps[d']? with
    | none => rfl
    | some v => rw [h3] at h2; simp at h2; subst h2; rfl
  simp [Region.wanted, this]
/-- An element's place, of a slice that may be read. -/
theorem DP_indexRd [Inhabited α] {enc : α → List Value} {xs : List α} {A : Option Addr} (hr : Rd enc w A xs) {t e : TypeId} {x y : Operand} {ti te : TI} {k : IntKind} {cap : Nat} {j : Int} (hT : TyOK P T) (heff : eff.contains i = false) (hi : getA l i = some ⟨some d, .indexAddr t x y, ty, ps, af, gd⟩) (hg : gdOK s n l gd)
    (hx : EVO n s x = some (.slice A xs.length cap)) (hy : EVO n s y = some (.int k j)) (ht : lookT T t = some ti) (hu : ti.u = .slice e) (he : lookT T e = some te) (h0 : 0 ≤ j) (h1 : j < xs.length)
    (c : ∀ b o, A = some ⟨b, o, none⟩ → DP r P l eff K Cs plan (listed.setIfInBounds i true) (FR n ((d, .pointer (some ⟨b, o + j.toNat * te.size, none⟩)) :: s) τ ds) w) : DP r P l eff K Cs (i :: plan) listed (FR n s τ ds) w := by
  obtain ⟨b, o, hA⟩ := hr.some h0 h1
  subst hA
  refine DP_plain (v := .pointer (some ⟨b, o + j.toNat * te.size, none⟩)) heff hi (YC.mkD hg fun w _ => ?_) (by rw [put_FR]; exact c b o rfl)
  show Sem.run P (do let v ← Instr.indexAt t ((FR n s τ ds).eval x) ((FR n s τ ds).eval y); pure (Next.value v)) w = _
  rw [eval_of hx, eval_of hy, Sem.run_bind, run_indexAddr (hT _ _ ht) hu (hT _ _ he) h0 h1]; rfl
/-- Loads: out of what lay in the base; out of a block of one's own. -/
theorem DP_loadB {x : Operand} {t : TypeId} {ti : TI} {b o : Nat} {v : Value} (hs : Sat W w L) (hT : TyOK P T) (heff : eff.contains i = false) (hi : getA l i = some ⟨some d, .load t x, ty, ps, af, gd⟩) (hg : gdOK s n l gd) (hx : EVO n s x = some (.pointer (some ⟨b, o, none⟩))) (ht : lookT T t = some ti) (ha : ti.agg = false) (hc : W.cell? ⟨b, o, none⟩ = some v)
    (hI : Inv l eff Cs listed w) (k : DP r P l eff K ((i, fun w' => Below W.heap.size W w') :: Cs) plan (listed.setIfInBounds i true) (FR n ((d, v) :: s) τ ds) w) : DP r P l eff K Cs (i :: plan) listed (FR n s τ ds) w := by
  refine DP_yield (v := v) (fun w' => Below W.heap.size W w') heff hi (YC.mkD hg fun w' hw' => ?_) hs.below hI (by rw [put_FR]; exact k)
  show Sem.run P (do let v ← Instr.loadAt t ((FR n s τ ds).eval x); pure (Next.value v)) w' = _
  have hc' : w'.cell? ⟨b, o, none⟩ = some v := (hw'.cell (World.block_lt_of_cell? W _ hc)).trans hc
  rw [eval_of hx, Sem.run_bind, run_load1 (hT _ _ ht) ha hc']; rfl
theorem DP_loadC (j : Nat) {x : Operand} {t : TypeId} {ti : TI} {b o : Nat} {v : Value} {vs : List Value} {te : TypeId} (hs : Sat W w L) (hT : TyOK P T) (heff : eff.contains i = false) (hi : getA l i = some ⟨some d, .load t x, ty, ps, af, gd⟩) (hg : gdOK s n l gd) (hx : EVO n s x = some (.pointer (some ⟨b, o, none⟩))) (ht : lookT T t = some ti) (ha : ti.agg = false) (hj : getA L j = some (Cl b vs te)) (hv : getA vs o = some v)
    (hI : Inv l eff Cs listed w) (k : DP r P l eff K ((i, fun w' => w'.cell? ⟨b, o, none⟩ = some v) :: Cs) plan (listed.setIfInBounds i true) (FR n ((d, v) :: s) τ ds) w) : DP r P l eff K Cs (i :: plan) listed (FR n s τ ds) w := by
  rw [getA_eq] at hj hv
  refine DP_yield (v := v) (fun w' => w'.cell? ⟨b, o, none⟩ = some v) heff hi (YC.mkD hg fun w' hw' => ?_) ((hs.cell j hj o).trans hv) hI (by rw [put_FR]; exact k)
  show Sem.run P (do let v ← Instr.loadAt t ((FR n s τ ds).eval x); pure (Next.value v)) w' = _
  rw [eval_of hx, Sem.run_bind, run_load1 (hT _ _ ht) ha hw']; rfl
theorem Inv.keepC (j : Nat) {i : Nat} {b o : Nat} {v : Value} {vs : List Value} {te : TypeId} (hs : Sat W w L) (hj : getA L j = some (Cl b vs te)) (hv : getA vs o = some v) (k : Inv l eff Cs listed w) : Inv l eff ((i, fun w' => w'.cell? ⟨b, o, none⟩ = some v) :: Cs) listed w := by
  rw [getA_eq] at hj hv
  exact Inv.keep ((hs.cell j hj o).trans hv) k
theorem Inv.keepB {i : Nat} (hs : Sat W w L) (k : Inv l eff Cs listed w) : Inv l eff ((i, fun w' => Below W.heap.size W w') :: Cs) listed w := Inv.keep hs.below k
/-- Loads of an element of a slice in the base. -/
theorem DP_loadRd [Inhabited α] {enc : α → List Value} {xs : List α} {A : Option Addr} (hr : Rd enc W A xs) {sz : Nat} (hz : ∀ x, (enc x).length = sz) {x : Operand} {t : TypeId} {ti : TI} {b o k : Nat} {j : Int} {v : Value} (hs : Sat W w L) (hT : TyOK P T) (heff : eff.contains i = false) (hi : getA l i = some ⟨some d, .load t x, ty, ps, af, gd⟩) (hg : gdOK s n l gd) (hx : EVO n s x = some (.pointer (some ⟨b, o + j.toNat * sz + k, none⟩))) (hA : A = some ⟨b, o, none⟩) (ht : lookT T t = some ti) (ha : ti.agg = false)
    (h0 : 0 ≤ j) (h1 : j < xs.length) (hk : getA (enc (rd xs j)) k = some v) (hI : Inv l eff Cs listed w) (c : DP r P l eff K ((i, fun w' => Below W.heap.size W w') :: Cs) plan (listed.setIfInBounds i true) (FR n ((d, v) :: s) τ ds) w) : DP r P l eff K Cs (i :: plan) listed (FR n s τ ds) w :=
  DP_loadB hs hT heff hi hg hx ht ha (hr.cell hz hA h0 h1 hk) hI c
theorem DP_loadRd0 [Inhabited α] {enc : α → List Value} {xs : List α} {A : Option Addr} (hr : Rd enc W A xs) (hz : ∀ x, (enc x).length = 1) {x : Operand} {t : TypeId} {ti : TI} {b o : Nat} {j : Int} {v : Value} (hs : Sat W w L) (hT : TyOK P T) (heff : eff.contains i = false) (hi : getA l i = some ⟨some d, .load t x, ty, ps, af, gd⟩) (hg : gdOK s n l gd) (hx : EVO n s x = some (.pointer (some ⟨b, o + j.toNat * 1, none⟩))) (hA : A = some ⟨b, o, none⟩) (ht : lookT T t = some ti) (ha : ti.agg = false)
    (h0 : 0 ≤ j) (h1 : j < xs.length) (hk : getA (enc (rd xs j)) 0 = some v) (hI : Inv l eff Cs listed w) (c : DP r P l eff K ((i, fun w' => Below W.heap.size W w') :: Cs) plan (listed.setIfInBounds i true) (FR n ((d, v) :: s) τ ds) w) : DP r P l eff K Cs (i :: plan) listed (FR n s τ ds) w :=
  DP_loadB hs hT heff hi hg hx ht ha (by have := hr.cell hz hA h0 h1 hk; rwa [Nat.add_zero] at this) hI c
theorem DP_loadBA {x : Operand} {t : TypeId} {ti : TI} {b o : Nat} {vs : List Value} (hs : Sat W w L) (hT : TyOK P T) (heff : eff.contains i = false) (hi : getA l i = some ⟨some d, .load t x, ty, ps, af, gd⟩) (hg : gdOK s n l gd) (hx : EVO n s x = some (.pointer (some ⟨b, o, none⟩))) (ht : lookT T t = some ti) (ha : ti.agg = true) (hl : vs.length = ti.size) (hc : ∀ j v, vs[j]? = some v → W.cell? ⟨b, o + j, none⟩ = some v)
    (hI : Inv l eff Cs listed w) (k : DP r P l eff K ((i, fun w' => Below W.heap.size W w') :: Cs) plan (listed.setIfInBounds i true) (FR n ((d, .agg vs.toArray) :: s) τ ds) w) : DP r P l eff K Cs (i :: plan) listed (FR n s τ ds) w := by
  refine DP_yield (v := .agg vs.toArray) (fun w' => Below W.heap.size W w') heff hi (YC.mkD hg fun w' hw' => ?_) hs.below hI (by rw [put_FR]; exact k)
  show Sem.run P (do let v ← Instr.loadAt t ((FR n s τ ds).eval x); pure (Next.value v)) w' = _
  rw [eval_of hx, Sem.run_bind, run_loadA (hT _ _ ht) ha hl (fun j v hj => (hw'.cell (World.block_lt_of_cell? W _ (hc j v hj))).trans (hc j v hj))]; rfl
theorem DP_loadRdA [Inhabited α] {enc : α → List Value} {xs : List α} {A : Option Addr} (hr : Rd enc W A xs) {sz : Nat} (hz : ∀ x, (enc x).length = sz) {x : Operand} {t : TypeId} {ti : TI} {b o : Nat} {j : Int} (hs : Sat W w L) (hT : TyOK P T) (heff : eff.contains i = false) (hi : getA l i = some ⟨some d, .load t x, ty, ps, af, gd⟩) (hg : gdOK s n l gd) (hx : EVO n s x = some (.pointer (some ⟨b, o + j.toNat * sz, none⟩))) (hA : A = some ⟨b, o, none⟩) (ht : lookT T t = some ti) (ha : ti.agg = true) (hsz : ti.size = sz)
    (h0 : 0 ≤ j) (h1 : j < xs.length) {vs : List Value} (hv : enc (rd xs j) = vs) (hI : Inv l eff Cs listed w) (c : DP r P l eff K ((i, fun w' => Below W.heap.size W w') :: Cs) plan (listed.setIfInBounds i true) (FR n ((d, .agg vs.toArray) :: s) τ ds) w) : DP r P l eff K Cs (i :: plan) listed (FR n s τ ds) w :=
  DP_loadBA hs hT heff hi hg hx ht ha (by rw [← hv, hz, hsz]) (fun k v hk => by
    have := hr.cell hz hA h0 h1 (k := k) (v := v) (by rw [getA_eq, hv]; exact hk)
    exact this) hI c
end
end Go.Sl

/- Two structs of two integers are held against each other. -/
namespace Go.Sl
open Go.RowKit

structure PairEq (P : Program) (t : TypeId) : Prop where
  run : ∀ (a b c d : Int) (w : World), (Op.equalIn 10000 t (.agg #[.int .i64 a, .int .i64 b]) (.agg #[.int .i64 c, .int .i64 d])).run P w = .ok (decide (a = c ∧ b = d)) w
  gd : P.eqGuardType P.depth t = false
theorem PairEq.mk' {P : Program} {t t1 t2 : TypeId} {f1 f2 : Field} (hu : P.underlying t = some (.struct #[f1, f2])) (hs : P.stoodInHeld t = false) (hg : P.eqGuardType P.depth t = false) (h1 : f1.name ≠ "_") (h2 : f2.name ≠ "_") (ho1 : f1.offset = 0) (ho2 : f2.offset = 1)
    (ht1 : P.underlying f1.type = some (.int .i64)) (ht2 : P.underlying f2.type = some (.int .i64)) : PairEq P t := by
  refine ⟨fun a b c d w => ?_, hg⟩
  have hf : P.fieldsOf t = #[f1, f2] := by unfold Program.fieldsOf; rw [hu]
  have e : (10000 : Nat) = 9999 + 1 := rfl
  rw [e, run_equalIn_struct w 9999 t _ _ (by rw [hf]; exact hu) hs, hf]
  have a1 : ∀ w, (isAgg f1.type).run P w = .ok false w := fun w => by simp [isAgg, Sem.run_bind, run_underlying ht1, Result.andThen]
  have a2 : ∀ w, (isAgg f2.type).run P w = .ok false w := fun w => by simp [isAgg, Sem.run_bind, run_underlying ht2, Result.andThen]
  have e2 : (9999 : Nat) = 9998 + 1 := rfl
  have r1 : ∀ (x y : Int) w, (Op.equalIn 9999 f1.type (.int .i64 x) (.int .i64 y)).run P w = .ok (x == y) w := fun x y w => by rw [e2]; exact run_equalIn_int w 9998 f1.type .i64 .i64 x y ht1
  have r2 : ∀ (x y : Int) w, (Op.equalIn 9999 f2.type (.int .i64 x) (.int .i64 y)).run P w = .ok (x == y) w := fun x y w => by rw [e2]; exact run_equalIn_int w 9998 f2.type .i64 .i64 x y ht2
  simp only [Op.eqFields, h1, h2, ne_eq, not_false_eq_true, if_true, part, Sem.run_bind, a1, a2, Result.andThen, ho1, ho2]
  simp [r1, Sem.run_bind, Result.andThen]
  by_cases hac : a = c
  · simp [hac, r2, Sem.run_bind, Result.andThen]
    by_cases hbd : b = d <;> simp [hbd, a2, r2]
  · simp [hac]
section
variable {r : Option Nat} {P : Program} {ops : Array Oper} {Q : Exit → Act → World → Prop} {rest : List Oper} {l : List Oper} {eff : List Nat} {K : Act → World → Prop} {Cs : List (Nat × (World → Prop))} {plan : List Nat} {listed : Array Bool} {w : World} {n : Nat} {s : List (Nat × Value)} {τ : Nat → Value} {ds : List Deferred}
  {ty : TypeId} {ps : String} {af : Array Edge} {d' i : Nat} {gd : Option (Nat × Bool)}
theorem run_neqP {t yt : TypeId} {x y : Operand} {a b c d : Int} {ρ : Operand → Value} {o : Oper} (ho : o.op = .binOp .neq t x y yt) (hE : PairEq P t) (hx : ρ x = .agg #[.int .i64 a, .int .i64 b]) (hy : ρ y = .agg #[.int .i64 c, .int .i64 d]) (w : World) :
    (execOp ρ o).run P w = .ok (.value (.bool (decide (¬ (a = c ∧ b = d))))) w := by
  unfold execOp; rw [ho]
  show Sem.run P (do let v ← (do eqGuard .neq t x y (ρ x) (ρ y); binOp .neq t (ρ x) (ρ y)); pure (Next.value v)) w = _
  rw [hx, hy]
  simp only [Sem.run_bind, run_eqGuard_agg w .neq t x y _ _ hE.gd, Result.andThen, run_neq_struct, hE.run, Sem.run_pure]
  simp
theorem run_eqlP {t yt : TypeId} {x y : Operand} {a b c d : Int} {ρ : Operand → Value} {o : Oper} (ho : o.op = .binOp .eql t x y yt) (hE : PairEq P t) (hx : ρ x = .agg #[.int .i64 a, .int .i64 b]) (hy : ρ y = .agg #[.int .i64 c, .int .i64 d]) (w : World) :
    (execOp ρ o).run P w = .ok (.value (.bool (decide (a = c ∧ b = d)))) w := by
  unfold execOp; rw [ho]
  show Sem.run P (do let v ← (do eqGuard .eql t x y (ρ x) (ρ y); binOp .eql t (ρ x) (ρ y)); pure (Next.value v)) w = _
  rw [hx, hy]
  simp only [Sem.run_bind, run_eqGuard_agg w .eql t x y _ _ hE.gd, Result.andThen, run_eql_struct, hE.run, Sem.run_pure]
theorem DP_neqP {t yt : TypeId} {x y : Operand} {a b c d : Int} (hE : PairEq P t) (heff : eff.contains i = false) (hi : getA l i = some ⟨some d', .binOp .neq t x y yt, ty, ps, af, gd⟩) (hg : gdOK s n l gd) (hx : EVO n s x = some (.agg #[.int .i64 a, .int .i64 b])) (hy : EVO n s y = some (.agg #[.int .i64 c, .int .i64 d]))
    (ht : ¬ (a = c ∧ b = d) → DP r P l eff K Cs plan (listed.setIfInBounds i true) (FR n ((d', .bool true) :: s) τ ds) w) (hf : a = c ∧ b = d → DP r P l eff K Cs plan (listed.setIfInBounds i true) (FR n ((d', .bool false) :: s) τ ds) w) : DP r P l eff K Cs (i :: plan) listed (FR n s τ ds) w := by
  refine DP_plain (v := .bool (decide (¬ (a = c ∧ b = d)))) heff hi (YC.mkD hg fun w _ => run_neqP rfl hE (eval_of hx) (eval_of hy) w) ?_
  rw [put_FR]
  by_cases hp : a = c ∧ b = d
  · simp only [hp, not_true, decide_false, and_self]; exact hf hp
  · simp only [hp, not_false_eq_true, decide_true]; exact ht hp
theorem LW_neqP {t yt : TypeId} {x y : Operand} {a b c d : Int} (hE : PairEq P t) (hx : EVO n s x = some (.agg #[.int .i64 a, .int .i64 b])) (hy : EVO n s y = some (.agg #[.int .i64 c, .int .i64 d]))
    (ht : ¬ (a = c ∧ b = d) → LW r P ops Q rest (FR n ((d', .bool true) :: s) τ ds) w) (hf : a = c ∧ b = d → LW r P ops Q rest (FR n ((d', .bool false) :: s) τ ds) w) : LW r P ops Q (⟨some d', .binOp .neq t x y yt, ty, ps, af, none⟩ :: rest) (FR n s τ ds) w := by
  refine LW_run (v := .bool (decide (¬ (a = c ∧ b = d)))) rfl (fun c e => by cases e) (run_neqP rfl hE (eval_of hx) (eval_of hy) w) ?_
  rw [put_FR]
  by_cases hp : a = c ∧ b = d
  · simp only [hp, not_true, decide_false, and_self]; exact hf hp
  · simp only [hp, not_false_eq_true, decide_true]; exact ht hp
end
end Go.Sl

/- Maps keyed by integers (and by strings), in blocks of one's own. -/
namespace Go.Sl
open Go.RowKit

/-- What a type's key is: its value and that keys of it are told apart at once. -/
structure KeyE (κ : Type) [DecidableEq κ] where
  val : κ → Value
  desc : TypeDesc
  now : ∀ a b, Instr.sameNow desc (val a) (val b) = some (decide (a = b))
  bits : ∀ a, Instr.sameBits 10000 (val a) (val a) = true
  plain : ∀ (P : Program) (t : TypeId) (e : Bool) (w : World) (a : κ), (underlying t).run P w = .ok desc w → (Instr.checkKey e 10000 t (val a)).run P w = .ok () w
def keyI : KeyE Int where
  val a := .int .i64 a
  desc := .int .i64
  now a b := by
    simp only [Instr.sameNow, if_true]
    congr 1
  bits a := by simp [Instr.sameBits]
  plain P t e w a h := by
    show Sem.run P (Instr.checkKey e (9999 + 1) t _) w = _
    unfold Instr.checkKey
    simp only [Sem.run_bind, h, Result.andThen]
    rfl
def keyS : KeyE ByteArray where
  val a := .string a
  desc := .string
  now a b := by
    simp only [Instr.sameNow]
    congr 1
    rw [beq_toListBytes, toList_eq]
  bits a := by simp [Instr.sameBits, beq_toListBytes]
  plain P t e w a h := by
    show Sem.run P (Instr.checkKey e (9999 + 1) t _) w = _
    unfold Instr.checkKey
    simp only [Sem.run_bind, h, Result.andThen]
    rfl

section
variable {κ : Type} [DecidableEq κ] (E : KeyE κ)
/-- The entries of a map: key, value, stamp. -/
def ents (kvs : List (κ × Value × Nat)) : List MapEntry := kvs.map fun p => ⟨E.val p.1, p.2.1, p.2.2⟩
abbrev Mp (b : Nat) (kvs : List (κ × Value × Nat)) (ck : Nat) : HProp := Bk b (.map (ents E kvs).toArray ck)
def idxOf (kvs : List (κ × Value × Nat)) (k : κ) : Nat := kvs.findIdx fun p => decide (k = p.1)
def findV (kvs : List (κ × Value × Nat)) (k : κ) : Option Value := (kvs.find? fun p => decide (k = p.1)).map (·.2.1)
def putV (kvs : List (κ × Value × Nat)) (ck : Nat) (k : κ) (v : Value) : List (κ × Value × Nat) :=
  if (findV kvs k).isSome then kvs.modify (idxOf kvs k) (fun p => (k, v, p.2.2)) else kvs ++ [(k, v, ck)]
def putCk (kvs : List (κ × Value × Nat)) (ck : Nat) (k : κ) : Nat := if (findV kvs k).isSome then ck else ck + 1
def delV (kvs : List (κ × Value × Nat)) (k : κ) : List (κ × Value × Nat) := if (findV kvs k).isSome then kvs.eraseIdx (idxOf kvs k) else kvs
theorem findNow_ents (k : κ) : ∀ (kvs : List (κ × Value × Nat)) (i : Nat), Instr.findNow E.desc (E.val k) (ents E kvs) i = some ((findV kvs k).map fun v => (i + idxOf kvs k, v))
  | [], i => rfl
  | p :: kvs, i => by
    have ih := findNow_ents k kvs (i + 1)
    simp only [ents, List.map_cons, Instr.findNow, E.now]
    by_cases h : k = p.1
    · simp [h, findV, idxOf, List.findIdx_cons]
    · simp only [h, decide_false]
      rw [show (kvs.map fun p => (⟨E.val p.1, p.2.1, p.2.2⟩ : MapEntry)) = ents E kvs from rfl, ih]
      simp only [findV, idxOf, List.find?_cons, List.findIdx_cons, h, decide_false, cond_false]
      congr 1
      cases (kvs.find? fun p => decide (k = p.1)) with
      | none => rfl
      | some q => simp; omega
theorem idx_lt {kvs : List (κ × Value × Nat)} {k : κ} {u : Value} (hf : findV kvs k = some u) : idxOf kvs k < kvs.length ∧ ∀ h : idxOf kvs k < kvs.length, kvs[idxOf kvs k].1 = k := by
  have hidx : idxOf kvs k < kvs.length := by
    unfold findV at hf
    simp only [Option.map_eq_some_iff] at hf
    obtain ⟨q, hq, _⟩ := hf
    have h1 := List.find?_some (p := fun p : κ × Value × Nat => decide (k = p.1)) hq
    exact List.findIdx_lt_length_of_exists ⟨q, List.mem_of_find?_eq_some hq, h1⟩
  refine ⟨hidx, fun h => ?_⟩
  have := List.findIdx_getElem (p := fun p : κ × Value × Nat => decide (k = p.1)) (xs := kvs) (w := hidx)
  simp at this; exact this.symm
theorem modify_map {α β : Type} (f : α → β) (g : α → α) (h : β → β) (hfg : ∀ x, f (g x) = h (f x)) : ∀ (l : List α) (i : Nat), (l.map f).modify i h = (l.modify i g).map f
  | [], i => by cases i <;> simp
  | x :: l, 0 => by simp [hfg]
  | x :: l, i + 1 => by simp [modify_map f g h hfg l i]
theorem eraseIdx_map' {α β : Type} (f : α → β) : ∀ (l : List α) (i : Nat), (l.map f).eraseIdx i = (l.eraseIdx i).map f
  | [], i => by simp
  | x :: l, 0 => by simp
  | x :: l, i + 1 => by simp [eraseIdx_map' f l i]
variable {P : Program} {w : World} {b ck : Nat} {kvs : List (κ × Value × Nat)} {t kt et : TypeId} {ti tk te : TI}
theorem run_findKey (hk : tyOf P kt = some tk) (hu : tk.u = E.desc) (k : κ) (w : World) : (Instr.findKey kt (E.val k) (ents E kvs)).run P w = .ok ((findV kvs k).map fun v => (idxOf kvs k, v)) w := by
  have h1 := ty_under hk w
  rw [hu] at h1
  simp only [Instr.findKey, Sem.run_bind, h1, Result.andThen, findNow_ents]
  simp only [Nat.zero_add]
  rfl
theorem run_getMap (hb : w.heap[b]? = some (.map (ents E kvs).toArray ck)) : (getObj b).run P w = .ok (.map (ents E kvs).toArray ck) w := by
  simp [getObj, Sem.run, hb]
theorem run_lookup (ht : tyOf P t = some ti) (hu : ti.u = .map kt et) (hk : tyOf P kt = some tk) (hku : tk.u = E.desc) (he : tyOf P et = some te) (hb : w.heap[b]? = some (.map (ents E kvs).toArray ck)) (k : κ) :
    (Instr.lookup t (.map (some b)) (E.val k) false).run P w = .ok ((findV kvs k).getD te.zero) w := by
  have h1 := ty_under ht w
  rw [hu] at h1
  have h2 := ty_under hk w
  rw [hku] at h2
  have h3 := E.plain P kt (ents E kvs).toArray.isEmpty w k h2
  simp only [Instr.lookup, Sem.run_bind, h1, Result.andThen, run_getMap E hb, Sem.run_pure, h3]
  rw [run_findKey E hk hku]
  cases findV kvs k with
  | none => simp [Sem.run_bind, ty_zero he w, Result.andThen]
  | some v => simp
theorem run_lookupOk (ht : tyOf P t = some ti) (hu : ti.u = .map kt et) (hk : tyOf P kt = some tk) (hku : tk.u = E.desc) (he : tyOf P et = some te) (hb : w.heap[b]? = some (.map (ents E kvs).toArray ck)) (k : κ) :
    (Instr.lookup t (.map (some b)) (E.val k) true).run P w = .ok (.tuple #[(findV kvs k).getD te.zero, .bool (findV kvs k).isSome]) w := by
  have h1 := ty_under ht w
  rw [hu] at h1
  have h2 := ty_under hk w
  rw [hku] at h2
  have h3 := E.plain P kt (ents E kvs).toArray.isEmpty w k h2
  simp only [Instr.lookup, Sem.run_bind, h1, Result.andThen, run_getMap E hb, Sem.run_pure, h3]
  rw [run_findKey E hk hku]
  cases findV kvs k with
  | none => simp [Sem.run_bind, ty_zero he w, Result.andThen]
  | some v => simp
theorem run_mapUpdate (ht : tyOf P t = some ti) (hu : ti.u = .map kt et) (hk : tyOf P kt = some tk) (hku : tk.u = E.desc) (hb : w.heap[b]? = some (.map (ents E kvs).toArray ck)) (k : κ) (v : Value) :
    (Instr.mapUpdate t (.map (some b)) (E.val k) v).run P w = .ok () (w.putObj b (.map (ents E (putV kvs ck k v)).toArray (putCk kvs ck k))) := by
  have h1 := ty_under ht w
  rw [hu] at h1
  have h2 := ty_under hk w
  rw [hku] at h2
  have h3 := E.plain P kt false w k h2
  have hlt := block_lt hb
  simp only [Instr.mapUpdate, Sem.run_bind, h1, Result.andThen, run_getMap E hb, h3]
  rw [run_findKey E hk hku]
  cases hf : findV kvs k with
  | none =>
    simp only [Option.map_none]
    simp [setObj, Sem.run, hb, putV, putCk, hf, World.putObj, ents]
  | some u =>
    simp only [Option.map_some]
    obtain ⟨hidx, hkey⟩ := idx_lt hf
    have hkey := hkey hidx
    have hold : ((((ents E kvs).toArray[idxOf kvs k]?).map (·.key)).getD (E.val k)) = E.val k := by
      simp [ents, hidx, hkey]
    simp only [hold, Instr.keyThatStays, E.bits, if_true, Sem.run_bind, Sem.run_pure, Result.andThen]
    simp only [setObj, Sem.run, hb]
    simp only [putV, putCk, hf, Option.isSome_some, if_true, World.putObj]
    congr 4
    simp only [ents]
    rw [List.modify_toArray]
    rw [modify_map (fun p : κ × Value × Nat => (⟨E.val p.1, p.2.1, p.2.2⟩ : MapEntry)) (fun p => (k, v, p.2.2)) _ (fun x => rfl)]
theorem run_delete (ht : tyOf P t = some ti) (hu : ti.u = .map kt et) (hk : tyOf P kt = some tk) (hku : tk.u = E.desc) (hb : w.heap[b]? = some (.map (ents E kvs).toArray ck)) (k : κ) {ty : TypeId} {t2 : TypeId} :
    (Builtin.delete_ #[t, t2] ty #[.map (some b), E.val k]).run P w = .ok (.tuple #[]) (w.putObj b (.map (ents E (delV kvs k)).toArray ck)) := by
  have h1 := ty_under ht w
  rw [hu] at h1
  have h2 := ty_under hk w
  rw [hku] at h2
  have h3 := E.plain P kt (ents E kvs).toArray.isEmpty w k h2
  simp only [Builtin.delete_, Sem.run_bind, Result.andThen]
  simp [Sem.run_bind, h1, Result.andThen, run_getMap E hb]
  have h3' : (Instr.checkKey (ents E kvs).isEmpty 10000 kt (E.val k)).run P w = .ok () w := by simpa using h3
  simp only [h3', run_findKey E hk hku]
  cases hf : findV kvs k with
  | none => simp [setObj, Sem.run, hb, delV, hf, World.putObj]
  | some u =>
    obtain ⟨hidx, _⟩ := idx_lt hf
    simp [setObj, Sem.run, hb, delV, hf, World.putObj, ents, Array.eraseIdxIfInBounds, hidx, eraseIdx_map']
end
end Go.Sl

/- The walk's rules at a map's operations. -/
namespace Go.Sl
open Go.RowKit

theorem Sat.putObj {W w : World} {L : List HProp} (h : Sat W w L) (i : Nat) {b : Nat} {o : Obj} (hi : L[i]? = some (Bk b o)) (o' : Obj) : Sat W (w.putObj b o') (L.set i (Bk b o')) :=
  h.turn i hi o' (grownBy_putObj' w b o') (World.putObj_heap_same (h.lt i hi))
section
variable {κ : Type} [DecidableEq κ] (E : KeyE κ)
variable {r : Option Nat} {P : Program} {T : List (Nat × TI)} {ops : Array Oper} {Q : Exit → Act → World → Prop} {rest : List Oper} {n : Nat} {s : List (Nat × Value)} {τ : Nat → Value} {ds : List Deferred} {w : World}
  {ty : TypeId} {ps : String} {af : Array Edge} {d : Nat} {W : World} {L : List HProp}
  {l : List Oper} {eff : List Nat} {K : Act → World → Prop} {Cs : List (Nat × (World → Prop))} {plan : List Nat} {listed : Array Bool} {gd : Option (Nat × Bool)}
  {t kt et : TypeId} {ti tk te : TI} {b ck : Nat} {kvs : List (κ × Value × Nat)} {x y z : Operand}
theorem LW_lookup (i : Nat) {k : κ} {v : Value} (hs : Sat W w L) (hT : TyOK P T) (hx : EVO n s x = some (.map (some b))) (hy : EVO n s y = some (E.val k)) (ht : lookT T t = some ti) (hu : ti.u = .map kt et) (hk : lookT T kt = some tk) (hku : tk.u = E.desc) (he : lookT T et = some te) (hi : getA L i = some (Mp E b kvs ck)) (hv : (findV kvs k).getD te.zero = v)
    (c : LW r P ops Q rest (FR n ((d, v) :: s) τ ds) w) : LW r P ops Q (⟨some d, .lookup t x y false, ty, ps, af, none⟩ :: rest) (FR n s τ ds) w := by
  rw [getA_eq] at hi
  refine LW_run (v := v) rfl (fun c e => by cases e) ?_ (by rw [put_FR]; exact c)
  show Sem.run P (do let v ← Instr.lookup t ((FR n s τ ds).eval x) ((FR n s τ ds).eval y) false; pure (Next.value v)) w = _
  rw [eval_of hx, eval_of hy, Sem.run_bind, run_lookup E (hT _ _ ht) hu (hT _ _ hk) hku (hT _ _ he) (hs.at i hi).2, hv]; rfl
theorem LW_lookupOk (i : Nat) {k : κ} {v : Value} (hs : Sat W w L) (hT : TyOK P T) (hx : EVO n s x = some (.map (some b))) (hy : EVO n s y = some (E.val k)) (ht : lookT T t = some ti) (hu : ti.u = .map kt et) (hk : lookT T kt = some tk) (hku : tk.u = E.desc) (he : lookT T et = some te) (hi : getA L i = some (Mp E b kvs ck)) (hv : (findV kvs k).getD te.zero = v) {q : Bool} (hq : (findV kvs k).isSome = q)
    (c : LW r P ops Q rest (FR n ((d, .tuple #[v, .bool q]) :: s) τ ds) w) : LW r P ops Q (⟨some d, .lookup t x y true, ty, ps, af, none⟩ :: rest) (FR n s τ ds) w := by
  rw [getA_eq] at hi
  refine LW_run (v := .tuple #[v, .bool q]) rfl (fun c e => by cases e) ?_ (by rw [put_FR]; exact c)
  show Sem.run P (do let v ← Instr.lookup t ((FR n s τ ds).eval x) ((FR n s τ ds).eval y) true; pure (Next.value v)) w = _
  rw [eval_of hx, eval_of hy, Sem.run_bind, run_lookupOk E (hT _ _ ht) hu (hT _ _ hk) hku (hT _ _ he) (hs.at i hi).2, hv, hq]; rfl
theorem DP_lookup (j : Nat) {i : Nat} {k : κ} {v : Value} (hs : Sat W w L) (hT : TyOK P T) (heff : eff.contains i = false) (ho : getA l i = some ⟨some d, .lookup t x y false, ty, ps, af, gd⟩) (hg : gdOK s n l gd) (hx : EVO n s x = some (.map (some b))) (hy : EVO n s y = some (E.val k)) (ht : lookT T t = some ti) (hu : ti.u = .map kt et) (hk : lookT T kt = some tk) (hku : tk.u = E.desc) (he : lookT T et = some te) (hj : getA L j = some (Mp E b kvs ck)) (hv : (findV kvs k).getD te.zero = v)
    (hI : Inv l eff Cs listed w) (c : DP r P l eff K ((i, fun w' => w'.heap[b]? = some (.map (ents E kvs).toArray ck)) :: Cs) plan (listed.setIfInBounds i true) (FR n ((d, v) :: s) τ ds) w) : DP r P l eff K Cs (i :: plan) listed (FR n s τ ds) w := by
  rw [getA_eq] at hj
  refine DP_yield (v := v) _ heff ho (YC.mkD hg fun w' hw' => ?_) (hs.at j hj).2 hI (by rw [put_FR]; exact c)
  show Sem.run P (do let v ← Instr.lookup t ((FR n s τ ds).eval x) ((FR n s τ ds).eval y) false; pure (Next.value v)) w' = _
  rw [eval_of hx, eval_of hy, Sem.run_bind, run_lookup E (hT _ _ ht) hu (hT _ _ hk) hku (hT _ _ he) hw', hv]; rfl
theorem Inv.keepM (j : Nat) {i : Nat} (hs : Sat W w L) (hj : getA L j = some (Mp E b kvs ck)) (k : Inv l eff Cs listed w) : Inv l eff ((i, fun w' => w'.heap[b]? = some (.map (ents E kvs).toArray ck)) :: Cs) listed w := by
  rw [getA_eq] at hj
  exact Inv.keep (hs.at j hj).2 k
theorem LW_mapUpdate (i : Nat) {k : κ} {v : Value} (hs : Sat W w L) (hT : TyOK P T) (hx : EVO n s x = some (.map (some b))) (hy : EVO n s y = some (E.val k)) (hz : EVO n s z = some v) (ht : lookT T t = some ti) (hu : ti.u = .map kt et) (hk : lookT T kt = some tk) (hku : tk.u = E.desc) (hi : getA L i = some (Mp E b kvs ck))
    (c : ∀ w', Sat W w' (L.set i (Mp E b (putV kvs ck k v) (putCk kvs ck k))) → LW r P ops Q rest (FR n s τ ds) w') : LW r P ops Q (⟨none, .mapUpdate t x y z, ty, ps, af, none⟩ :: rest) (FR n s τ ds) w := by
  rw [getA_eq] at hi
  refine LW_runSkip rfl (fun c e => by cases e) ?_ (c _ (hs.putObj i hi _))
  show Sem.run P (do Instr.mapUpdate t ((FR n s τ ds).eval x) ((FR n s τ ds).eval y) ((FR n s τ ds).eval z); pure Next.skip) w = _
  rw [eval_of hx, eval_of hy, eval_of hz, Sem.run_bind, run_mapUpdate E (hT _ _ ht) hu (hT _ _ hk) hku (hs.at i hi).2]; rfl
theorem LW_delete (i : Nat) {k : κ} {t2 : TypeId} {xs : Array Operand} (hs : Sat W w L) (hT : TyOK P T) (he : evalL n s xs.toList = some [.map (some b), E.val k]) (ht : lookT T t = some ti) (hu : ti.u = .map kt et) (hk : lookT T kt = some tk) (hku : tk.u = E.desc) (hi : getA L i = some (Mp E b kvs ck))
    (c : ∀ w', Sat W w' (L.set i (Mp E b (delV kvs k) ck)) → LW r P ops Q rest (FR n s τ ds) w') : LW r P ops Q (⟨none, .call { callee := .builtin .delete, args := xs, argTypes := #[t, t2] }, ty, ps, af, none⟩ :: rest) (FR n s τ ds) w := by
  rw [getA_eq] at hi
  refine LW_run (v := .tuple #[]) rfl (fun c e => by cases e) ?_ (c _ (hs.putObj i hi _))
  show Sem.run P (do let d ← resolve (FR n s τ ds).eval { callee := .builtin .delete, args := xs, argTypes := #[t, t2] } ty; invoke d.target d.args) w = _
  have e1 := evalA_run (ρ := (FR n s τ ds).eval) (fun x v => eval_of) he
  simp only [resolve, e1, Sem.run_bind, Sem.run_pure, Result.andThen, invoke, builtin, run_delete E (hT _ _ ht) hu (hT _ _ hk) hku (hs.at i hi).2]
theorem LW_lenMap (i : Nat) {xs : Array Operand} (hs : Sat W w L) (hT : TyOK P T) (he : evalL n s xs.toList = some [.map (some b)]) (ht : lookT T t = some ti) (hu : ti.u = .map kt et) (hi : getA L i = some (Mp E b kvs ck))
    (c : LW r P ops Q rest (FR n ((d, .int .i64 (kvs.length : Int)) :: s) τ ds) w) : LW r P ops Q (⟨some d, .call { callee := .builtin .len, args := xs, argTypes := #[t] }, ty, ps, af, none⟩ :: rest) (FR n s τ ds) w := by
  rw [getA_eq] at hi
  refine LW_run (v := .int .i64 (kvs.length : Int)) rfl (fun c e => by cases e) ?_ (by rw [put_FR]; exact c)
  show Sem.run P (do let d ← resolve (FR n s τ ds).eval { callee := .builtin .len, args := xs, argTypes := #[t] } ty; invoke d.target d.args) w = _
  have e1 := evalA_run (ρ := (FR n s τ ds).eval) (fun x v => eval_of) he
  have h1 := ty_under (hT _ _ ht) w
  rw [hu] at h1
  simp only [resolve, e1, Sem.run_bind, Sem.run_pure, Result.andThen, invoke, builtin, Builtin.len_]
  simp [Sem.run_bind, h1, Result.andThen, run_getMap E (hs.at i hi).2, goInt, ents]
/- A range over the map. -/
def stamps (vs : List (κ × Value × Nat)) : Array Nat := (vs.map (·.2.2)).toArray
abbrev It (r b ck : Nat) (vs : List (κ × Value × Nat)) : HProp := Bk r (.mapIter (some b) ck (stamps vs) ck)
theorem LW_range (i : Nat) (hs : Sat W w L) (hT : TyOK P T) (hx : EVO n s x = some (.map (some b))) (ht : lookT T t = some ti) (hu : ti.u = .map kt et) (hi : getA L i = some (Mp E b kvs ck))
    (c : ∀ q w', Sat W w' (It q b ck ([] : List (κ × Value × Nat)) :: L) → LW r P ops Q rest (FR n ((d, .pointer (some ⟨q, 0, none⟩)) :: s) τ ds) w') : LW r P ops Q (⟨some d, .range t x, ty, ps, af, none⟩ :: rest) (FR n s τ ds) w := by
  rw [getA_eq] at hi
  refine LW_run (v := .pointer (some ⟨w.heap.size, 0, none⟩)) (w' := w.alloc (.mapIter (some b) ck #[] ck)) rfl (fun c e => by cases e) ?_ (by rw [put_FR]; exact c _ _ (hs.alloc _))
  show Sem.run P (do let v ← Instr.range t ((FR n s τ ds).eval x); pure (Next.value v)) w = _
  have h1 := ty_under (hT _ _ ht) w
  rw [hu] at h1
  rw [eval_of hx]
  simp only [Instr.range, Sem.run_bind, h1, Result.andThen, run_getMap E (hs.at i hi).2, Sem.run_pure, newObj, Sem.run]
  rfl
theorem run_next {q : Nat} {vs : List (κ × Value × Nat)} (hb : w.heap[b]? = some (.map (ents E kvs).toArray ck)) (hq : w.heap[q]? = some (.mapIter (some b) ck (stamps vs) ck)) (hborn : ∀ p ∈ kvs, p.2.2 < ck) (ty : TypeId) :
    ((∀ p ∈ kvs, p.2.2 ∈ vs.map (·.2.2)) ∧ (Instr.next (.pointer (some ⟨q, 0, none⟩)) false ty).run P w = .ok (.tuple #[.bool false]) w) ∨
    ∃ p w', p ∈ kvs ∧ p.2.2 ∉ vs.map (·.2.2) ∧ (w' = w ∨ w' = w.drew) ∧ (Instr.next (.pointer (some ⟨q, 0, none⟩)) false ty).run P w = .ok (.tuple #[.bool true, E.val p.1, p.2.1]) (w'.putObj q (.mapIter (some b) ck (stamps (vs ++ [p])) ck)) := by
  have hgm := run_getMap (P := P) E hb
  have hgi : (getObj q).run P w = .ok (.mapIter (some b) ck (stamps vs) ck) w := by simp [getObj, Sem.run, hq]
  have hchk : (!(stamps vs).isEmpty && !(ents E kvs).toArray.isEmpty && (ents E kvs).toArray.all fun e => decide (e.born ≥ ck)) = false := by
    cases hk : kvs with
    | nil => simp [ents]
    | cons p rest =>
      have := hborn p (by rw [hk]; exact List.mem_cons_self)
      simp [ents]
      intro _ h; omega
  obtain ⟨lf, hlf⟩ : ∃ lf, lf = kvs.filter fun p => !(vs.map (·.2.2)).contains p.2.2 := ⟨_, rfl⟩
  have hleft : ((ents E kvs).toArray.filter fun e => !(stamps vs).contains e.born) = (ents E lf).toArray := by
    rw [hlf, List.filter_toArray]; congr 1
    simp only [ents, List.filter_map]
    congr 1
    congr 1
    funext p
    simp [stamps]
  have hbl : ∀ p ∈ lf, p.2.2 < ck := fun p hp => hborn p (by rw [hlf] at hp; exact (List.mem_filter.1 hp).1)
  have hold : ((ents E lf).toArray.filter fun e => decide (e.born < ck)) = (ents E lf).toArray := by
    rw [List.filter_toArray]; congr 1
    rw [List.filter_eq_self]
    intro e he
    simp only [ents, List.mem_map] at he
    obtain ⟨p, hp, rfl⟩ := he
    simpa using hbl p hp
  have hnew : ((ents E lf).toArray.filter fun e => decide (e.born ≥ ck)) = #[] := by
    rw [List.filter_toArray]; congr 1
    rw [List.filter_eq_nil_iff]
    intro e he
    simp only [ents, List.mem_map] at he
    obtain ⟨p, hp, rfl⟩ := he
    have := hbl p hp
    simp; omega
  cases hl : lf with
  | nil =>
    left
    refine ⟨fun p hp => ?_, ?_⟩
    · apply Classical.byContradiction
      intro hn
      have : p ∈ lf := by rw [hlf]; exact List.mem_filter.2 ⟨hp, by simpa using hn⟩
      rw [hl] at this; cases this
    · simp only [Instr.next, Sem.run_bind, hgi, Result.andThen, hgm, hchk, hleft, hold, hnew, hl]
      simp [ents, choose, Sem.run, Question.forced, Result.andThen, Sem.run_bind]
  | cons p0 rest0 =>
    right
    have hpos : 0 < lf.length := by rw [hl]; simp
    have hne : (ents E lf).toArray.isEmpty = false := by simp [ents, hl]
    have key : ∀ (k : Nat) (hk : k < lf.length), ((#[] : Array (Option MapEntry)) ++ ((ents E lf).toArray ++ #[]).map some)[k]? = some (some ⟨E.val lf[k].1, lf[k].2.1, lf[k].2.2⟩) := by
      intro k hk
      simp [ents, hk]
    have hsz : ((#[] : Array (Option MapEntry)) ++ ((ents E lf).toArray ++ #[]).map some).size = lf.length := by simp [ents]
    have hmem : ∀ (k : Nat) (hk : k < lf.length), lf[k] ∈ kvs ∧ lf[k].2.2 ∉ vs.map (·.2.2) := by
      intro k hk
      have h1 : lf[k] ∈ lf := List.getElem_mem hk
      have hsub : ∀ p ∈ lf, p ∈ kvs ∧ p.2.2 ∉ vs.map (·.2.2) := fun p hp => by
        rw [hlf] at hp
        have h2 := List.mem_filter.1 hp
        exact ⟨h2.1, by simpa using h2.2⟩
      exact hsub _ h1
    have hpush : ∀ p : κ × Value × Nat, (stamps vs).push p.2.2 = stamps (vs ++ [p]) := fun p => by simp [stamps]
    have hqlt := block_lt hq
    by_cases hone : lf.length ≤ 1
    · refine ⟨lf[0], w, (hmem 0 hpos).1, (hmem 0 hpos).2, .inl rfl, ?_⟩
      simp only [Instr.next, Sem.run_bind, hgi, Result.andThen, hgm, hchk, hleft, hold, hnew, hne, Bool.false_eq_true, if_false, hsz]
      simp only [choose, Sem.run, Question.forced, hone, decide_true, if_true]
      rw [key 0 hpos]
      simp only [setObj, Sem.run_bind, Sem.run, hq, Result.andThen, hpush]
      rfl
    · obtain ⟨k, hk⟩ : ∃ k, k = w.tape w.drawn (.mapNext lf.length) % lf.length := ⟨_, rfl⟩
      have hklt : k < lf.length := by rw [hk]; exact Nat.mod_lt _ hpos
      refine ⟨lf[k], w.drew, (hmem k hklt).1, (hmem k hklt).2, .inr rfl, ?_⟩
      simp only [Instr.next, Sem.run_bind, hgi, Result.andThen, hgm, hchk, hleft, hold, hnew, hne, Bool.false_eq_true, if_false, hsz]
      simp only [choose, Sem.run, Question.forced, hone, decide_false, Bool.false_eq_true, if_false, Question.cut]
      rw [← hk, key k hklt]
      simp only [setObj, Sem.run_bind, Sem.run, hq, Result.andThen, hpush]
      rfl
theorem LW_next (i j : Nat) {q : Nat} {vs : List (κ × Value × Nat)} (hs : Sat W w L) (hx : EVO n s x = some (.pointer (some ⟨q, 0, none⟩))) (hi : getA L i = some (Mp E b kvs ck)) (hj : getA L j = some (It q b ck vs)) (hborn : ∀ p ∈ kvs, p.2.2 < ck)
    (cend : (∀ p ∈ kvs, p.2.2 ∈ vs.map (·.2.2)) → LW r P ops Q rest (FR n ((d, .tuple #[.bool false]) :: s) τ ds) w)
    (cgo : ∀ p w', p ∈ kvs → p.2.2 ∉ vs.map (·.2.2) → Sat W w' (L.set j (It q b ck (vs ++ [p]))) → LW r P ops Q rest (FR n ((d, .tuple #[.bool true, E.val p.1, p.2.1]) :: s) τ ds) w') : LW r P ops Q (⟨some d, .next x false, ty, ps, af, none⟩ :: rest) (FR n s τ ds) w := by
  rw [getA_eq] at hi hj
  rcases run_next (P := P) E (hs.at i hi).2 (hs.at j hj).2 hborn ty with ⟨h1, h2⟩ | ⟨p, w', h1, h2, h3, h4⟩
  · refine LW_run rfl (fun c e => by cases e) ?_ (by rw [put_FR]; exact cend h1)
    show Sem.run P (do let v ← Instr.next ((FR n s τ ds).eval x) false ty; pure (Next.value v)) w = _
    rw [eval_of hx, Sem.run_bind, h2]; rfl
  · have hs' : Sat W w' L := by
      rcases h3 with rfl | rfl
      · exact hs
      · exact hs.drew
    refine LW_run rfl (fun c e => by cases e) ?_ (by rw [put_FR]; exact cgo p _ h1 h2 (hs'.putObj j hj _))
    show Sem.run P (do let v ← Instr.next ((FR n s τ ds).eval x) false ty; pure (Next.value v)) w = _
    rw [eval_of hx, Sem.run_bind, h4]; rfl
omit [DecidableEq κ] in
theorem find_born [DecidableEq κ] (E : KeyE κ) {p : κ × Value × Nat} : ∀ {kvs : List (κ × Value × Nat)}, p ∈ kvs → (kvs.map (·.2.2)).Nodup → (ents E kvs).find? (fun e => e.born == p.2.2) = some ⟨E.val p.1, p.2.1, p.2.2⟩
  | [], hp, _ => by cases hp
  | u :: kvs, hp, hnd => by
    simp only [List.map_cons, List.nodup_cons] at hnd
    rcases List.mem_cons.1 hp with rfl | hp'
    · simp [ents]
    · have hne : u.2.2 ≠ p.2.2 := fun e => hnd.1 (by rw [e]; exact List.mem_map_of_mem hp')
      have ih := find_born E hp' hnd.2
      simp only [ents, List.map_cons]
      rw [List.find?_cons_of_neg (by simpa using hne)]
      exact ih
theorem LW_entry (i j : Nat) {q : Nat} {vs : List (κ × Value × Nat)} {p : κ × Value × Nat} (hs : Sat W w L) (hx : EVO n s x = some (.pointer (some ⟨q, 0, none⟩))) (hi : getA L i = some (Mp E b kvs ck)) (hj : getA L j = some (It q b ck (vs ++ [p]))) (hp : p ∈ kvs) (hnd : (kvs.map (·.2.2)).Nodup)
    (c : LW r P ops Q rest (FR n ((d, .tuple #[E.val p.1, p.2.1]) :: s) τ ds) w) : LW r P ops Q (⟨some d, .entry x, ty, ps, af, none⟩ :: rest) (FR n s τ ds) w := by
  rw [getA_eq] at hi hj
  refine LW_run (v := .tuple #[E.val p.1, p.2.1]) rfl (fun c e => by cases e) ?_ (by rw [put_FR]; exact c)
  show Sem.run P (do let v ← Instr.entry ((FR n s τ ds).eval x); pure (Next.value v)) w = _
  have hgm := run_getMap (P := P) E (hs.at i hi).2
  have hgi : (getObj q).run P w = .ok (.mapIter (some b) ck (stamps (vs ++ [p])) ck) w := by simp [getObj, Sem.run, (hs.at j hj).2]
  have hback : (stamps (vs ++ [p])).back? = some p.2.2 := by simp [stamps]
  have hfind : (ents E kvs).toArray.find? (fun e => e.born == p.2.2) = some ⟨E.val p.1, p.2.1, p.2.2⟩ := by
    rw [List.find?_toArray]
    exact find_born E hp hnd
  rw [eval_of hx]
  simp only [Instr.entry, Sem.run_bind, hgi, Result.andThen, hback, hgm, hfind]
  simp
end
end Go.Sl

/- More steps: parts of slices, new slices, bits and division, stores into rows, boxed results. -/
namespace Go.Sl
open Go.RowKit

/- CUTS -/
structure Stop (p : Prop) : Prop where
  go : p
section
variable {r : Option Nat} {P : Program} {Q : Exit → Act → World → Prop} {a : Act} {w : World}
/-- Here a walk that goes on by itself stands still. -/
theorem CW_stop {i : Nat} {c : Code} (h : Stop (CW r P (.block i c) Q a w)) : CW r P (.block i c) Q a w := h.go
theorem CW_stopR {i : Nat} {l : Array Oper} {b : Bool} {y : Code} (h : Stop (CW r P (.seq (.region i l b) y) Q a w)) : CW r P (.seq (.region i l b) y) Q a w := h.go
/- What stands behind some steps is shown once, for all the ways that lead to it. -/
theorem CW_late1 {x0 z : Code} (M : Act → World → Prop) (hz : ∀ a w, M a w → CW r P z Q a w) (k : (∀ a w, M a w → CW r P z Q a w) → CW r P (.seq x0 z) Q a w) : CW r P (.seq x0 z) Q a w := k hz
theorem CW_late2 {x0 x1 z : Code} (M : Act → World → Prop) (hz : ∀ a w, M a w → CW r P z Q a w) (k : (∀ a w, M a w → CW r P z Q a w) → CW r P (.seq x0 (.seq x1 z)) Q a w) : CW r P (.seq x0 (.seq x1 z)) Q a w := k hz
theorem CW_late3 {x0 x1 x2 z : Code} (M : Act → World → Prop) (hz : ∀ a w, M a w → CW r P z Q a w) (k : (∀ a w, M a w → CW r P z Q a w) → CW r P (.seq x0 (.seq x1 (.seq x2 z))) Q a w) : CW r P (.seq x0 (.seq x1 (.seq x2 z))) Q a w := k hz
theorem CW_late4 {x0 x1 x2 x3 z : Code} (M : Act → World → Prop) (hz : ∀ a w, M a w → CW r P z Q a w) (k : (∀ a w, M a w → CW r P z Q a w) → CW r P (.seq x0 (.seq x1 (.seq x2 (.seq x3 z)))) Q a w) : CW r P (.seq x0 (.seq x1 (.seq x2 (.seq x3 z)))) Q a w := k hz
theorem CW_late5 {x0 x1 x2 x3 x4 z : Code} (M : Act → World → Prop) (hz : ∀ a w, M a w → CW r P z Q a w) (k : (∀ a w, M a w → CW r P z Q a w) → CW r P (.seq x0 (.seq x1 (.seq x2 (.seq x3 (.seq x4 z))))) Q a w) : CW r P (.seq x0 (.seq x1 (.seq x2 (.seq x3 (.seq x4 z))))) Q a w := k hz
theorem CW_late6 {x0 x1 x2 x3 x4 x5 z : Code} (M : Act → World → Prop) (hz : ∀ a w, M a w → CW r P z Q a w) (k : (∀ a w, M a w → CW r P z Q a w) → CW r P (.seq x0 (.seq x1 (.seq x2 (.seq x3 (.seq x4 (.seq x5 z)))))) Q a w) : CW r P (.seq x0 (.seq x1 (.seq x2 (.seq x3 (.seq x4 (.seq x5 z)))))) Q a w := k hz
theorem CW_late7 {x0 x1 x2 x3 x4 x5 x6 z : Code} (M : Act → World → Prop) (hz : ∀ a w, M a w → CW r P z Q a w) (k : (∀ a w, M a w → CW r P z Q a w) → CW r P (.seq x0 (.seq x1 (.seq x2 (.seq x3 (.seq x4 (.seq x5 (.seq x6 z))))))) Q a w) : CW r P (.seq x0 (.seq x1 (.seq x2 (.seq x3 (.seq x4 (.seq x5 (.seq x6 z))))))) Q a w := k hz
theorem CW_late8 {x0 x1 x2 x3 x4 x5 x6 x7 z : Code} (M : Act → World → Prop) (hz : ∀ a w, M a w → CW r P z Q a w) (k : (∀ a w, M a w → CW r P z Q a w) → CW r P (.seq x0 (.seq x1 (.seq x2 (.seq x3 (.seq x4 (.seq x5 (.seq x6 (.seq x7 z)))))))) Q a w) : CW r P (.seq x0 (.seq x1 (.seq x2 (.seq x3 (.seq x4 (.seq x5 (.seq x6 (.seq x7 z)))))))) Q a w := k hz
theorem CW_late9 {x0 x1 x2 x3 x4 x5 x6 x7 x8 z : Code} (M : Act → World → Prop) (hz : ∀ a w, M a w → CW r P z Q a w) (k : (∀ a w, M a w → CW r P z Q a w) → CW r P (.seq x0 (.seq x1 (.seq x2 (.seq x3 (.seq x4 (.seq x5 (.seq x6 (.seq x7 (.seq x8 z))))))))) Q a w) : CW r P (.seq x0 (.seq x1 (.seq x2 (.seq x3 (.seq x4 (.seq x5 (.seq x6 (.seq x7 (.seq x8 z))))))))) Q a w := k hz
theorem CW_late10 {x0 x1 x2 x3 x4 x5 x6 x7 x8 x9 z : Code} (M : Act → World → Prop) (hz : ∀ a w, M a w → CW r P z Q a w) (k : (∀ a w, M a w → CW r P z Q a w) → CW r P (.seq x0 (.seq x1 (.seq x2 (.seq x3 (.seq x4 (.seq x5 (.seq x6 (.seq x7 (.seq x8 (.seq x9 z)))))))))) Q a w) : CW r P (.seq x0 (.seq x1 (.seq x2 (.seq x3 (.seq x4 (.seq x5 (.seq x6 (.seq x7 (.seq x8 (.seq x9 z)))))))))) Q a w := k hz
theorem CW_late11 {x0 x1 x2 x3 x4 x5 x6 x7 x8 x9 x10 z : Code} (M : Act → World → Prop) (hz : ∀ a w, M a w → CW r P z Q a w) (k : (∀ a w, M a w → CW r P z Q a w) → CW r P (.seq x0 (.seq x1 (.seq x2 (.seq x3 (.seq x4 (.seq x5 (.seq x6 (.seq x7 (.seq x8 (.seq x9 (.seq x10 z))))))))))) Q a w) : CW r P (.seq x0 (.seq x1 (.seq x2 (.seq x3 (.seq x4 (.seq x5 (.seq x6 (.seq x7 (.seq x8 (.seq x9 (.seq x10 z))))))))))) Q a w := k hz
theorem CW_late12 {x0 x1 x2 x3 x4 x5 x6 x7 x8 x9 x10 x11 z : Code} (M : Act → World → Prop) (hz : ∀ a w, M a w → CW r P z Q a w) (k : (∀ a w, M a w → CW r P z Q a w) → CW r P (.seq x0 (.seq x1 (.seq x2 (.seq x3 (.seq x4 (.seq x5 (.seq x6 (.seq x7 (.seq x8 (.seq x9 (.seq x10 (.seq x11 z)))))))))))) Q a w) : CW r P (.seq x0 (.seq x1 (.seq x2 (.seq x3 (.seq x4 (.seq x5 (.seq x6 (.seq x7 (.seq x8 (.seq x9 (.seq x10 (.seq x11 z)))))))))))) Q a w := k hz
end
/- BITS, DIVISION, SHIFTS -/
def bitV (bo : BinOp) (k : IntKind) (x y : Int) : Option Int := match bo with
  | .and => some (k.wrap (BitVec.ofInt k.bits x &&& BitVec.ofInt k.bits y).toNat)
  | .or => some (k.wrap (BitVec.ofInt k.bits x ||| BitVec.ofInt k.bits y).toNat)
  | .xor => some (k.wrap (BitVec.ofInt k.bits x ^^^ BitVec.ofInt k.bits y).toNat)
  | _ => none
def divV (bo : BinOp) (k : IntKind) (x y : Int) : Option Int := match bo with
  | .quo => some (k.wrap (x.tdiv y))
  | .rem => some (x.tmod y)
  | _ => none
def shV (bo : BinOp) (k : IntKind) (x y : Int) : Option Int := match bo with
  | .shl => some (k.wrap (x * 2 ^ (min y.toNat k.bits)))
  | .shr => some (x.fdiv (2 ^ (min y.toNat k.bits)))
  | _ => none
section steps
variable {r : Option Nat} {P : Program} {T : List (Nat × TI)} {ops : Array Oper} {Q : Exit → Act → World → Prop} {rest : List Oper} {n : Nat} {s : List (Nat × Value)} {τ : Nat → Value} {ds : List Deferred} {w : World}
  {ty : TypeId} {ps : String} {af : Array Edge} {d : Nat} {W : World} {L : List HProp}
theorem LW_bits {bo : BinOp} {t yt : TypeId} {x y : Operand} {k : IntKind} {a b e : Int} (hx : EVO n s x = some (.int k a)) (hy : EVO n s y = some (.int k b)) (h : bitV bo k a b = some e) (c : LW r P ops Q rest (FR n ((d, .int k e) :: s) τ ds) w) :
    LW r P ops Q (⟨some d, .binOp bo t x y yt, ty, ps, af, none⟩ :: rest) (FR n s τ ds) w := by
  refine LW_run (v := .int k e) rfl (fun c e => by cases e) ?_ (by rw [put_FR]; exact c)
  show Sem.run P (do let v ← (do eqGuard bo t x y ((FR n s τ ds).eval x) ((FR n s τ ds).eval y); binOp bo t ((FR n s τ ds).eval x) ((FR n s τ ds).eval y)); pure (Next.value v)) w = _
  rw [eval_of hx, eval_of hy]
  cases bo <;> simp only [bitV] at h <;> first | (cases h; done) | (cases h; simp [eqGuard, binOp, Op.intBits, go_sem])
theorem LW_div {bo : BinOp} {t yt : TypeId} {x y : Operand} {k : IntKind} {a b e : Int} (hx : EVO n s x = some (.int k a)) (hy : EVO n s y = some (.int k b)) (hb : ¬ b = 0) (h : divV bo k a b = some e) (c : LW r P ops Q rest (FR n ((d, .int k e) :: s) τ ds) w) :
    LW r P ops Q (⟨some d, .binOp bo t x y yt, ty, ps, af, none⟩ :: rest) (FR n s τ ds) w := by
  refine LW_run (v := .int k e) rfl (fun c e => by cases e) ?_ (by rw [put_FR]; exact c)
  show Sem.run P (do let v ← (do eqGuard bo t x y ((FR n s τ ds).eval x) ((FR n s τ ds).eval y); binOp bo t ((FR n s τ ds).eval x) ((FR n s τ ds).eval y)); pure (Next.value v)) w = _
  rw [eval_of hx, eval_of hy]
  cases bo <;> simp only [divV] at h <;> first | (cases h; done) | (cases h; simp [eqGuard, binOp, Op.intDiv, hb, go_sem])
theorem LW_shift {bo : BinOp} {t yt : TypeId} {x y : Operand} {k k' : IntKind} {a b e : Int} (hx : EVO n s x = some (.int k a)) (hy : EVO n s y = some (.int k' b)) (hb : 0 ≤ b) (h : shV bo k a b = some e) (c : LW r P ops Q rest (FR n ((d, .int k e) :: s) τ ds) w) :
    LW r P ops Q (⟨some d, .binOp bo t x y yt, ty, ps, af, none⟩ :: rest) (FR n s τ ds) w := by
  refine LW_run (v := .int k e) rfl (fun c e => by cases e) ?_ (by rw [put_FR]; exact c)
  show Sem.run P (do let v ← (do eqGuard bo t x y ((FR n s τ ds).eval x) ((FR n s τ ds).eval y); binOp bo t ((FR n s τ ds).eval x) ((FR n s τ ds).eval y)); pure (Next.value v)) w = _
  rw [eval_of hx, eval_of hy]
  have hb' : ¬ b < 0 := by omega
  cases bo <;> simp only [shV] at h <;> first | (cases h; done) | (cases h; simp [eqGuard, binOp, Op.shift, hb', go_sem])
/-- The same steps, the number told otherwise. -/
theorem LW_bitsE {bo : BinOp} {t yt : TypeId} {x y : Operand} {k : IntKind} {a b e : Int} (e' : Int) (hx : EVO n s x = some (.int k a)) (hy : EVO n s y = some (.int k b)) (h : bitV bo k a b = some e) (he : e = e') (c : LW r P ops Q rest (FR n ((d, .int k e') :: s) τ ds) w) :
    LW r P ops Q (⟨some d, .binOp bo t x y yt, ty, ps, af, none⟩ :: rest) (FR n s τ ds) w := LW_bits hx hy h (he ▸ c)
theorem LW_divE {bo : BinOp} {t yt : TypeId} {x y : Operand} {k : IntKind} {a b e : Int} (e' : Int) (hx : EVO n s x = some (.int k a)) (hy : EVO n s y = some (.int k b)) (hb : ¬ b = 0) (h : divV bo k a b = some e) (he : e = e') (c : LW r P ops Q rest (FR n ((d, .int k e') :: s) τ ds) w) :
    LW r P ops Q (⟨some d, .binOp bo t x y yt, ty, ps, af, none⟩ :: rest) (FR n s τ ds) w := LW_div hx hy hb h (he ▸ c)
theorem LW_shiftE {bo : BinOp} {t yt : TypeId} {x y : Operand} {k k' : IntKind} {a b e : Int} (e' : Int) (hx : EVO n s x = some (.int k a)) (hy : EVO n s y = some (.int k' b)) (hb : 0 ≤ b) (h : shV bo k a b = some e) (he : e = e') (c : LW r P ops Q rest (FR n ((d, .int k e') :: s) τ ds) w) :
    LW r P ops Q (⟨some d, .binOp bo t x y yt, ty, ps, af, none⟩ :: rest) (FR n s τ ds) w := LW_shift hx hy hb h (he ▸ c)
theorem LW_arithE {op : Op} {k : IntKind} {e : Int} (e' : Int) (h : evalArith n s op = some (k, e)) (he : k.wrap e = e') (c : LW r P ops Q rest (FR n ((d, .int k e') :: s) τ ds) w) :
    LW r P ops Q (⟨some d, op, ty, ps, af, none⟩ :: rest) (FR n s τ ds) w := LW_arithW h (he ▸ c)
theorem LW_u64 {op : Op} {e : Int} (h : evalArith n s op = some (.u64, e)) (h1 : 0 ≤ e) (h2 : e ≤ 18446744073709551615) (c : LW r P ops Q rest (FR n ((d, .int .u64 e) :: s) τ ds) w) :
    LW r P ops Q (⟨some d, op, ty, ps, af, none⟩ :: rest) (FR n s τ ds) w := by
  refine LW_arith h ?_ c
  simp [IntKind.wrap, IntKind.bits, IntKind.signed]; omega
/-- A number of another kind, which holds it. -/
theorem LW_convE {src dst : TypeId} {x : Operand} {k k' : IntKind} {a : Int} {ti tj : TI} (e' : Int) (hT : TyOK P T) (hx : EVO n s x = some (.int k a)) (h1 : lookT T src = some ti) (h2 : lookT T dst = some tj) (hu : tj.u = .int k') (he : k'.wrap a = e') (c : LW r P ops Q rest (FR n ((d, .int k' e') :: s) τ ds) w) :
    LW r P ops Q (⟨some d, .convert src dst x, ty, ps, af, none⟩ :: rest) (FR n s τ ds) w := by
  refine LW_pure (T := T) hT ?_ c
  obtain ⟨a1, a2, a3, a4⟩ := tj
  simp only at hu
  subst hu
  simp [evalOp, h1, h2, hx, he]
/-- The guard's own guard said no. -/
theorem LW_passV {l : List Oper} {op : Op} {j : Nat} {b : Bool} {o' : Oper} {d' : Nat} (hj : getA l j = some o') (hd : o'.dst = some d') (hy : EVO n s (.tmp d') = some undef) (k : LW r P l.toArray Q rest (FR n ((d, undef) :: s) τ ds) w) :
    LW r P l.toArray Q (⟨some d, op, ty, ps, af, some (j, b)⟩ :: rest) (FR n s τ ds) w := by
  refine LW_passU ?_ (by rw [put_FR]; exact k)
  have h1 := eval_of (τ := τ) (ds := ds) hy
  have h2 : (FR n s τ ds).tmps[d']?.getD undef = undef := by simpa [Act.eval] using h1
  rw [getA_eq] at hj
  unfold yielded
  simp only [List.getElem?_toArray, hj, Option.bind_some, hd]
  cases h3 : (FR n s τ ds).tmps[d']? with
  | none => rfl
  | some v => rw [h3] at h2; simp at h2; subst h2; rfl
/- PARTS OF SLICES -/
def movedA (A : Option Addr) (k : Nat) : Option Addr := A.map (·.add k)
theorem movedA_some (b o k : Nat) : movedA (some ⟨b, o, none⟩) k = some ⟨b, o + k, none⟩ := by
  unfold movedA Option.map Addr.add; split <;> simp_all
theorem movedA_zero (A : Option Addr) : movedA A 0 = A := by
  cases A <;> simp [movedA, Addr.add]
variable {t e : TypeId} {ti te : TI} {x y z u : Operand} {A : Option Addr} {len cap : Nat} {k1 k2 k3 : IntKind} {lo hi mx : Int}
theorem elem_of (ht : P.underlying t = some (.slice e)) : P.elem t = e := by simp [Program.elem, ht]
theorem LW_sliceH (hT : TyOK P T) (hx : EVO n s x = some (.slice A len cap)) (hy : EVO n s y = some (.int k1 hi)) (ht : lookT T t = some ti) (hu : ti.u = .slice e) (he : lookT T e = some te) (h0 : 0 ≤ hi) (h1 : hi ≤ cap)
    (c : LW r P ops Q rest (FR n ((d, .slice A hi.toNat cap) :: s) τ ds) w) : LW r P ops Q (⟨some d, .slice t x none (some y) none, ty, ps, af, none⟩ :: rest) (FR n s τ ds) w := by
  refine LW_run (v := .slice A hi.toNat cap) rfl (fun c e => by cases e) ?_ (by rw [put_FR]; exact c)
  show Sem.run P (do let v ← Instr.sliceAt t ((FR n s τ ds).eval x) none (some ((FR n s τ ds).eval y)) none; pure (Next.value v)) w = _
  have hu1 := (ty_info (hT _ _ ht)).1
  rw [hu] at hu1
  have hel := elem_of hu1
  have hu2 : P.underlying t = some (.slice (P.elem t)) := by rw [hel]; exact hu1
  have hm := movedA_zero A
  unfold movedA at hm
  rw [eval_of hx, eval_of hy, Sem.run_bind, run_sliceAt_slice w t _ _ _ _ hu2, run_slice_h w t A len cap hu2 k1 hi h0 h1, hel, ty_sizeOf (hT _ _ he)]
  simp [Result.andThen, sliced, hm]
theorem LW_sliceHM (hT : TyOK P T) (hx : EVO n s x = some (.slice A len cap)) (hy : EVO n s y = some (.int k1 hi)) (hz : EVO n s z = some (.int k2 mx)) (ht : lookT T t = some ti) (hu : ti.u = .slice e) (he : lookT T e = some te) (h0 : 0 ≤ hi) (h1 : hi ≤ mx) (h2 : mx ≤ cap)
    (c : LW r P ops Q rest (FR n ((d, .slice A hi.toNat mx.toNat) :: s) τ ds) w) : LW r P ops Q (⟨some d, .slice t x none (some y) (some z), ty, ps, af, none⟩ :: rest) (FR n s τ ds) w := by
  refine LW_run (v := .slice A hi.toNat mx.toNat) rfl (fun c e => by cases e) ?_ (by rw [put_FR]; exact c)
  show Sem.run P (do let v ← Instr.sliceAt t ((FR n s τ ds).eval x) none (some ((FR n s τ ds).eval y)) (some ((FR n s τ ds).eval z)); pure (Next.value v)) w = _
  have hu1 := (ty_info (hT _ _ ht)).1
  rw [hu] at hu1
  have hel := elem_of hu1
  have hu2 : P.underlying t = some (.slice (P.elem t)) := by rw [hel]; exact hu1
  have hm := movedA_zero A
  unfold movedA at hm
  rw [eval_of hx, eval_of hy, eval_of hz, Sem.run_bind, run_sliceAt_slice w t _ _ _ _ hu2, run_slice_hm w t A len cap hu2 k1 k2 hi mx h0 h1 h2, hel, ty_sizeOf (hT _ _ he)]
  simp [Result.andThen, sliced, hm]
def slicedA (A : Option Addr) (l m k : Nat) : Option Addr := if m = l then A else movedA A k
theorem LW_sliceL (hT : TyOK P T) (hx : EVO n s x = some (.slice A len cap)) (hy : EVO n s y = some (.int k1 lo)) (ht : lookT T t = some ti) (hu : ti.u = .slice e) (he : lookT T e = some te) (h0 : 0 ≤ lo) (h1 : lo ≤ len)
    (c : LW r P ops Q rest (FR n ((d, .slice (slicedA A lo.toNat cap (lo.toNat * te.size)) (len - lo.toNat) (cap - lo.toNat)) :: s) τ ds) w) : LW r P ops Q (⟨some d, .slice t x (some y) none none, ty, ps, af, none⟩ :: rest) (FR n s τ ds) w := by
  refine LW_run (v := .slice (slicedA A lo.toNat cap (lo.toNat * te.size)) (len - lo.toNat) (cap - lo.toNat)) rfl (fun c e => by cases e) ?_ (by rw [put_FR]; exact c)
  show Sem.run P (do let v ← Instr.sliceAt t ((FR n s τ ds).eval x) (some ((FR n s τ ds).eval y)) none none; pure (Next.value v)) w = _
  have hu1 := (ty_info (hT _ _ ht)).1
  rw [hu] at hu1
  have hel := elem_of hu1
  have hu2 : P.underlying t = some (.slice (P.elem t)) := by rw [hel]; exact hu1
  rw [eval_of hx, eval_of hy, Sem.run_bind, run_sliceAt_slice w t _ _ _ _ hu2, run_slice_l w t A len cap hu2 k1 lo h0 h1, hel, ty_sizeOf (hT _ _ he)]
  simp [Result.andThen, sliced, slicedA, movedA]
theorem LW_sliceLH (hT : TyOK P T) (hx : EVO n s x = some (.slice A len cap)) (hy : EVO n s y = some (.int k1 lo)) (hz : EVO n s z = some (.int k2 hi)) (ht : lookT T t = some ti) (hu : ti.u = .slice e) (he : lookT T e = some te) (h0 : 0 ≤ lo) (h1 : lo ≤ hi) (h2 : hi ≤ cap)
    (c : LW r P ops Q rest (FR n ((d, .slice (slicedA A lo.toNat cap (lo.toNat * te.size)) (hi.toNat - lo.toNat) (cap - lo.toNat)) :: s) τ ds) w) : LW r P ops Q (⟨some d, .slice t x (some y) (some z) none, ty, ps, af, none⟩ :: rest) (FR n s τ ds) w := by
  refine LW_run (v := .slice (slicedA A lo.toNat cap (lo.toNat * te.size)) (hi.toNat - lo.toNat) (cap - lo.toNat)) rfl (fun c e => by cases e) ?_ (by rw [put_FR]; exact c)
  show Sem.run P (do let v ← Instr.sliceAt t ((FR n s τ ds).eval x) (some ((FR n s τ ds).eval y)) (some ((FR n s τ ds).eval z)) none; pure (Next.value v)) w = _
  have hu1 := (ty_info (hT _ _ ht)).1
  rw [hu] at hu1
  have hel := elem_of hu1
  have hu2 : P.underlying t = some (.slice (P.elem t)) := by rw [hel]; exact hu1
  rw [eval_of hx, eval_of hy, eval_of hz, Sem.run_bind, run_sliceAt_slice w t _ _ _ _ hu2, run_slice_lh w t A len cap hu2 k1 k2 lo hi h0 h1 h2, hel, ty_sizeOf (hT _ _ he)]
  simp [Result.andThen, sliced, slicedA, movedA]
/- A SLICE OF WHICH IT IS NOT KNOWN WHETHER IT IS NIL -/
theorem LW_sliceNil {bo : BinOp} {yt : TypeId} (hb : bo = .eql) (hT : TyOK P T) (hx : EVO n s x = some (.slice A len cap)) (hy : EVO n s y = some (.slice none 0 0)) (ht : lookT T t = some ti) (hu : ti.u = .slice e)
    (hn : A = none → LW r P ops Q rest (FR n ((d, .bool true) :: s) τ ds) w) (hs : ∀ a, A = some a → LW r P ops Q rest (FR n ((d, .bool false) :: s) τ ds) w) : LW r P ops Q (⟨some d, .binOp bo t x y yt, ty, ps, af, none⟩ :: rest) (FR n s τ ds) w := by
  subst hb
  obtain ⟨a1, a2, a3, a4⟩ := ti
  simp only at hu
  subst hu
  cases A with
  | none => exact LW_nileq hT (b := true) (by simp [evalNil, ht, hx, hy]) (hn rfl)
  | some a => exact LW_nileq hT (b := false) (by simp [evalNil, ht, hx, hy]) (hs a rfl)
/- ROWS -/
theorem Sat.toRow {cells : List Value} {b sz n0 : Nat} (hs : Sat W w L) (i : Nat) (hi : getA L i = some (Cl b cells e)) (hl : cells.length = n0 * sz) (hm : n0 ≤ maxLen) : Sat W w (L.set i (Row e sz (some ⟨b, 0, none⟩) n0 n0 cells)) := by
  rw [getA_eq] at hi
  refine Sat.back hi ?_
  refine (hs.front i hi).imp fun f hf => ?_
  obtain ⟨h1, h2, h3, h4, h5, h6, h7⟩ := hf
  exact ⟨h1, h2, h3, h4, h5, ⟨hl, .inr ⟨b, [], rfl, Nat.le_refl _, hm, by rw [List.append_nil]; exact Nat.le_of_eq hl.symm, by rw [List.append_nil]; exact h6⟩⟩, h7⟩
theorem LW_makeSlice0 {sz : Nat} (hT : TyOK P T) (hs : Sat W w L) (hx : EVO n s x = some (.int k1 0)) (hy : EVO n s y = some (.int k2 mx)) (ht : lookT T t = some ti) (hu : ti.u = .slice e) (he : lookT T e = some te) (hsz : te.size = sz) (h0 : 0 ≤ mx) (h1 : te.bytes * mx.toNat ≤ 281474976710656) (h2 : mx.toNat ≤ maxLen)
    (c : ∀ A w', Sat W w' (Row e sz A 0 mx.toNat [] :: L) → LW r P ops Q rest (FR n ((d, .slice A 0 mx.toNat) :: s) τ ds) w') : LW r P ops Q (⟨some d, .makeSlice t x y, ty, ps, af, none⟩ :: rest) (FR n s τ ds) w := by
  obtain ⟨hu1, _⟩ := ty_info (hT _ _ ht)
  obtain ⟨hu2, fe, hfe, hfe2, hfe3, hfe4⟩ := ty_info (hT _ _ he)
  rw [hu] at hu1
  obtain ⟨w', hr, ho, hg⟩ := run_make_own (P := P) w W.heap.size t e fe te.zero sz hu1 hfe hfe2 (by rw [hfe3, hsz]) k1 k2 mx.toNat (by rw [hfe4]; exact h1) h2 hs.size
  rw [Int.toNat_of_nonneg h0] at hr
  obtain ⟨A', c', e1, hs'⟩ := (hs.nilRow e sz).rowTurn (.of ho) (by simpa [Value.ownBlock] using hg) (.inr rfl)
  cases e1
  refine LW_run (v := .slice (some ⟨w.heap.size, 0, none⟩) 0 mx.toNat) (w' := w') rfl (fun c e => by cases e) ?_ (by rw [put_FR]; exact c _ _ hs')
  show Sem.run P (do let v ← Instr.makeSlice t ((FR n s τ ds).eval x) ((FR n s τ ds).eval y); pure (Next.value v)) w = _
  rw [eval_of hx, eval_of hy, Sem.run_bind, hr]; rfl
end steps
section
variable {W w : World} {L : List HProp} {α : Type} {enc : α → List Value}
theorem Rd.take {A : Option Addr} {xs : List α} (h : Rd enc w A xs) (k : Nat) : Rd enc w A (xs.take k) := by
  rcases h with h | ⟨b, o, hA, h⟩
  · subst h; exact .inl (by simp)
  · refine .inr ⟨b, o, hA, fun j v hj => h j v ?_⟩
    have : xs.flatMap enc = (xs.take k).flatMap enc ++ (xs.drop k).flatMap enc := by rw [← List.flatMap_append, List.take_append_drop]
    rw [this, List.getElem?_append_left (List.getElem?_eq_some_iff.1 hj).1]; exact hj
theorem Rd.drop {A : Option Addr} {xs : List α} {sz : Nat} (hz : ∀ x, (enc x).length = sz) (h : Rd enc w A xs) (k : Nat) (hk : k ≤ xs.length) : Rd enc w (movedA A (k * sz)) (xs.drop k) := by
  rcases h with h | ⟨b, o, hA, h⟩
  · subst h; exact .inl (by simp)
  · subst hA
    refine .inr ⟨b, o + k * sz, by rw [movedA_some], fun j v hj => ?_⟩
    rw [Nat.add_assoc]
    refine h (k * sz + j) v ?_
    have e1 : xs.flatMap enc = (xs.take k).flatMap enc ++ (xs.drop k).flatMap enc := by rw [← List.flatMap_append, List.take_append_drop]
    have e2 : ((xs.take k).flatMap enc).length = k * sz := by rw [flat_len hz, List.length_take, Nat.min_eq_left hk]
    rw [e1, List.getElem?_append_right (by omega), e2, Nat.add_sub_cancel_left]; exact hj
/-- A row's front part, with less room told. -/
theorem Row.cut {e : TypeId} {sz n c n' c' : Nat} {A : Option Addr} {cells : List Value} {f : Frag} (h : Row e sz A n c cells f) (h1 : n' ≤ n) (h2 : n' ≤ c') (h3 : c' ≤ c) : Row e sz A n' c' (cells.take (n' * sz)) f := by
  obtain ⟨hl, h⟩ := h
  have hm : n' * sz ≤ n * sz := Nat.mul_le_mul_right _ h1
  refine ⟨by rw [List.length_take, hl]; omega, ?_⟩
  rcases h with ⟨rfl, rfl, rfl⟩ | ⟨b, spare, rfl, hnc, hcm, hlen, hb⟩
  · exact .inl ⟨rfl, by omega, by omega⟩
  · refine .inr ⟨b, cells.drop (n' * sz) ++ spare, rfl, h2, by omega, ?_, ?_⟩
    · rw [← List.append_assoc, List.take_append_drop]; exact Nat.le_trans (Nat.mul_le_mul_right _ h3) hlen
    · rw [← List.append_assoc, List.take_append_drop]; exact hb
theorem Sat.clip {e : TypeId} {sz n c : Nat} {A : Option Addr} {cells : List Value} (hs : Sat W w (Row e sz A n c cells :: L)) : Sat W w (Row e sz A n n cells :: L) :=
  hs.imp fun f hf => by
    obtain ⟨a1, a2, a3, a4, a5, a6, a7⟩ := hf
    have h := a6.cut (n' := n) (c' := n) (Nat.le_refl _) (Nat.le_refl _) (by rcases a6.2 with ⟨_, h1, h2⟩ | ⟨_, _, _, h, _⟩ <;> omega)
    rw [List.take_of_length_le (by rw [a6.1]; omega)] at h
    exact ⟨a1, a2, a3, a4, a5, h, a7⟩
theorem Sat.rowLe {e : TypeId} {sz n c : Nat} {A : Option Addr} {cells : List Value} (hs : Sat W w (Row e sz A n c cells :: L)) : n ≤ c := by
  obtain ⟨a1, a2, a3, a4, a5, a6, a7⟩ := hs.sep
  rcases a6.2 with ⟨_, h1, h2⟩ | ⟨_, _, _, h, _⟩ <;> omega
end
end Go.Sl


/- Which kind of goal a walk stands at. -/
namespace Go.Sl
section
variable {r : Option Nat} {P : Program} {Q : Exit → Act → World → Prop} {a : Act} {w : World} {ops : Array Oper} {rest : List Oper} {ty : TypeId} {ps : String} {af : Array Edge} {dst : Option Tmp} {L : List Oper}
theorem isLW (h : LW r P ops Q L a w) : LW r P ops Q L a w := h
theorem isLg {op : Op} {g : Nat × Bool} (h : LW r P ops Q (⟨dst, op, ty, ps, af, some g⟩ :: rest) a w) : LW r P ops Q (⟨dst, op, ty, ps, af, some g⟩ :: rest) a w := h
theorem isLload {t : TypeId} {x : Operand} (h : LW r P ops Q (⟨dst, .load t x, ty, ps, af, none⟩ :: rest) a w) : LW r P ops Q (⟨dst, .load t x, ty, ps, af, none⟩ :: rest) a w := h
theorem isLstore {t : TypeId} {x y : Operand} (h : LW r P ops Q (⟨dst, .store t x y, ty, ps, af, none⟩ :: rest) a w) : LW r P ops Q (⟨dst, .store t x y, ty, ps, af, none⟩ :: rest) a w := h
theorem isLcall {c : Call} (h : LW r P ops Q (⟨dst, .call c, ty, ps, af, none⟩ :: rest) a w) : LW r P ops Q (⟨dst, .call c, ty, ps, af, none⟩ :: rest) a w := h
theorem isLidx {t : TypeId} {x y : Operand} (h : LW r P ops Q (⟨dst, .indexAddr t x y, ty, ps, af, none⟩ :: rest) a w) : LW r P ops Q (⟨dst, .indexAddr t x y, ty, ps, af, none⟩ :: rest) a w := h
theorem isLbin {b : BinOp} {t yt : TypeId} {x y : Operand} (h : LW r P ops Q (⟨dst, .binOp b t x y yt, ty, ps, af, none⟩ :: rest) a w) : LW r P ops Q (⟨dst, .binOp b t x y yt, ty, ps, af, none⟩ :: rest) a w := h
variable {l : List Oper} {eff : List Nat} {K : Act → World → Prop} {Cs : List (Nat × (World → Prop))} {plan : List Nat} {listed : Array Bool} {i : Nat} {gd : Option (Nat × Bool)}
theorem isDP (h : DP r P l eff K Cs plan listed a w) : DP r P l eff K Cs plan listed a w := h
theorem isDnil (h : DP r P l eff K Cs [] listed a w) : DP r P l eff K Cs [] listed a w := h
theorem isDe (he : eff.contains i = true) (h : DP r P l eff K Cs (i :: plan) listed a w) : DP r P l eff K Cs (i :: plan) listed a w := h
theorem isDg {op : Op} {g : Nat × Bool} (he : getA l i = some ⟨dst, op, ty, ps, af, some g⟩) (h : DP r P l eff K Cs (i :: plan) listed a w) : DP r P l eff K Cs (i :: plan) listed a w := h
theorem isDload {t : TypeId} {x : Operand} (he : getA l i = some ⟨dst, .load t x, ty, ps, af, gd⟩) (h : DP r P l eff K Cs (i :: plan) listed a w) : DP r P l eff K Cs (i :: plan) listed a w := h
theorem isDidx {t : TypeId} {x y : Operand} (he : getA l i = some ⟨dst, .indexAddr t x y, ty, ps, af, gd⟩) (h : DP r P l eff K Cs (i :: plan) listed a w) : DP r P l eff K Cs (i :: plan) listed a w := h
theorem isDbin {b : BinOp} {t yt : TypeId} {x y : Operand} (he : getA l i = some ⟨dst, .binOp b t x y yt, ty, ps, af, gd⟩) (h : DP r P l eff K Cs (i :: plan) listed a w) : DP r P l eff K Cs (i :: plan) listed a w := h
/-- What a drawn operation rests on, at the head of the list. -/
theorem isI0 (h : Inv l eff [] listed w) : Inv l eff [] listed w := h
theorem isI1 {c : World → Prop} (h : Inv l eff ((i, c) :: Cs) listed w) : Inv l eff ((i, c) :: Cs) listed w := h
end
end Go.Sl
