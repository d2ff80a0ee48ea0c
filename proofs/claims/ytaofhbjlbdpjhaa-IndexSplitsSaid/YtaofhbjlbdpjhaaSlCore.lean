/- A small separation logic over the model's heap: a list of assertions on disjoint parts of the blocks that lie above a base world. -/
import Derived.WalkKit
import Derived.Deep.Draws
import Derived.TacticsInMore
import Derived.OwnWalkIn
import Derived.RangeFuncNested
import Derived.Maps.AppendAt
import Derived.Shelf.Abstract
set_option linter.unusedVariables false
set_option linter.unusedSimpArgs false
namespace Go.Sl
open Go.RowKit

abbrev Frag := Nat → Option Obj
abbrev HProp := Frag → Prop

def Frag.le (h k : Frag) : Prop := ∀ b o, h b = some o → k b = some o
def Frag.dj (h k : Frag) : Prop := ∀ b, h b = none ∨ k b = none
def Frag.un (h k : Frag) : Frag := fun b => (h b).or (k b)

theorem Frag.le.refl (h : Frag) : Frag.le h h := fun _ _ x => x
theorem Frag.le.trans {a b c : Frag} (h : Frag.le a b) (k : Frag.le b c) : Frag.le a c := fun x o e => k x o (h x o e)
theorem Frag.dj.symm {a b : Frag} (h : Frag.dj a b) : Frag.dj b a := fun x => (h x).symm
theorem Frag.dj.le {a b a' b' : Frag} (h : Frag.dj a b) (ha : Frag.le a' a) (hb : Frag.le b' b) : Frag.dj a' b' := fun x => by
  cases e : a' x with
  | none => exact .inl rfl
  | some o =>
    refine .inr ?_
    cases e' : b' x with
    | none => rfl
    | some o' =>
      have h1 := ha x o e
      have h2 := hb x o' e'
      rcases h x with h | h
      · rw [h1] at h; cases h
      · rw [h2] at h; cases h
theorem Frag.le_un_left (a b : Frag) : Frag.le a (a.un b) := fun x o e => by simp [Frag.un, e]
theorem Frag.le_un_right {a b : Frag} (h : Frag.dj a b) : Frag.le b (a.un b) := fun x o e => by
  rcases h x with h | h
  · simp [Frag.un, h, e]
  · rw [h] at e; cases e
theorem Frag.un_le {a b c : Frag} (ha : Frag.le a c) (hb : Frag.le b c) : Frag.le (a.un b) c := fun x o e => by
  unfold Frag.un at e
  cases ea : a x with
  | none => rw [ea] at e; exact hb x o (by simpa using e)
  | some o' => rw [ea] at e; simp at e; subst e; exact ha x _ ea
theorem Frag.dj_un {a b c : Frag} (h1 : Frag.dj a c) (h2 : Frag.dj b c) : Frag.dj (a.un b) c := fun x => by
  rcases h1 x with h | h
  · rcases h2 x with h' | h'
    · exact .inl (by simp [Frag.un, h, h'])
    · exact .inr h'
  · exact .inr h

/-- A list of assertions, each on a part of its own. -/
def sepL : List HProp → HProp
  | [] => fun _ => True
  | p :: l => fun h => ∃ h1 h2, Frag.dj h1 h2 ∧ Frag.le h1 h ∧ Frag.le h2 h ∧ p h1 ∧ sepL l h2

theorem sepL_mono {h k : Frag} (hk : Frag.le h k) : ∀ {l : List HProp}, sepL l h → sepL l k
  | [], _ => trivial
  | _ :: _, ⟨h1, h2, d, l1, l2, p, r⟩ => ⟨h1, h2, d, l1.trans hk, l2.trans hk, p, r⟩

theorem sepL_swap {p q : HProp} {l : List HProp} {h : Frag} : sepL (p :: q :: l) h → sepL (q :: p :: l) h := by
  rintro ⟨h1, h2, d, l1, l2, hp, h21, h22, d2, l21, l22, hq, hr⟩
  have d1 : Frag.dj h1 h21 := d.le (.refl _) l21
  have d3 : Frag.dj h1 h22 := d.le (.refl _) l22
  exact ⟨h21, h1.un h22, (Frag.dj_un d1 d2.symm).symm, l21.trans l2, Frag.un_le l1 (l22.trans l2), hq, h1, h22, d3, Frag.le_un_left _ _, Frag.le_un_right d3, hp, hr⟩

theorem sepL_cons_mono {p : HProp} {l l' : List HProp} (hl : ∀ h, sepL l h → sepL l' h) {h : Frag} : sepL (p :: l) h → sepL (p :: l') h :=
  fun ⟨h1, h2, d, l1, l2, hp, r⟩ => ⟨h1, h2, d, l1, l2, hp, hl _ r⟩

theorem sepL_perm {l l' : List HProp} (hp : l.Perm l') : ∀ {h : Frag}, sepL l h → sepL l' h := by
  induction hp with
  | nil => exact fun h => h
  | cons x _ ih => exact fun h => sepL_cons_mono (fun _ => ih) h
  | swap x y l => exact fun h => sepL_swap h
  | trans _ _ ih1 ih2 => exact fun h => ih2 (ih1 h)

theorem sepL_app {l1 l2 : List HProp} : ∀ {h : Frag}, sepL (l1 ++ l2) h → ∃ h1 h2, Frag.dj h1 h2 ∧ Frag.le h1 h ∧ Frag.le h2 h ∧ sepL l1 h1 ∧ sepL l2 h2 := by
  induction l1 with
  | nil => exact fun {h} r => ⟨fun _ => none, h, fun _ => .inl rfl, fun _ _ e => (by cases e), Frag.le.refl _, trivial, r⟩
  | cons p l ih =>
    rintro h ⟨h1, h2, d, le1, le2, hp, r⟩
    obtain ⟨a, b, d', la, lb, ra, rb⟩ := ih r
    have dab : Frag.dj h1 a := d.le (.refl _) la
    have db : Frag.dj h1 b := d.le (.refl _) lb
    exact ⟨h1.un a, b, Frag.dj_un db d', Frag.un_le le1 (la.trans le2), lb.trans le2, ⟨h1, a, dab, Frag.le_un_left _ _, Frag.le_un_right dab, hp, ra⟩, rb⟩

theorem sepL_app_mk {l1 l2 : List HProp} : ∀ {h h1 h2 : Frag}, Frag.dj h1 h2 → Frag.le h1 h → Frag.le h2 h → sepL l1 h1 → sepL l2 h2 → sepL (l1 ++ l2) h := by
  induction l1 with
  | nil => exact fun _ _ le2 _ r => sepL_mono le2 r
  | cons p l ih =>
    rintro h h1 h2 d le1 le2 ⟨a, b, dab, la, lb, hp, r⟩ r2
    have dbh : Frag.dj b h2 := d.le lb (.refl _)
    have dah : Frag.dj a h2 := d.le la (.refl _)
    refine ⟨a, b.un h2, (Frag.dj_un dab.symm dah.symm).symm, la.trans le1, Frag.un_le (lb.trans le1) le2, hp, ?_⟩
    exact ih dbh (Frag.le_un_left _ _) (Frag.le_un_right dbh) r r2

/-- Several assertions as one. -/
def Big (l : List HProp) : HProp := sepL l
theorem sepL_big {l r : List HProp} {h : Frag} : sepL (Big l :: r) h ↔ sepL (l ++ r) h :=
  ⟨fun ⟨_, _, d, a, b, p, q⟩ => sepL_app_mk d a b p q, fun x => let ⟨h1, h2, d, a, b, p, q⟩ := sepL_app x; ⟨h1, h2, d, a, b, p, q⟩⟩

/-- The blocks of a world from B on. -/
def frg (B : Nat) (w : World) : Frag := fun b => if B ≤ b then w.heap[b]? else none
theorem frg_some {B b : Nat} {w : World} {o : Obj} (h : frg B w b = some o) : B ≤ b ∧ w.heap[b]? = some o := by
  unfold frg at h
  split at h
  · exact ⟨‹_›, h⟩
  · cases h
theorem frg_mk {B b : Nat} {w : World} {o : Obj} (hB : B ≤ b) (h : w.heap[b]? = some o) : frg B w b = some o := by
  unfold frg; rw [if_pos hB]; exact h

/-- w is W with blocks more, and what lies in these meets L. -/
structure Sat (W w : World) (L : List HProp) : Prop where
  below : Below W.heap.size W w
  sep : sepL L (frg W.heap.size w)

theorem Sat.start (W : World) : Sat W W [] := ⟨Below.refl _ _, trivial⟩
theorem Sat.perm {W w : World} {L L' : List HProp} (h : Sat W w L) (hp : L.Perm L') : Sat W w L' := ⟨h.below, sepL_perm hp h.sep⟩
theorem Sat.imp {W w : World} {L L' : List HProp} (h : Sat W w L) (hp : ∀ f, sepL L f → sepL L' f) : Sat W w L' := ⟨h.below, hp _ h.sep⟩
theorem Sat.size {W w : World} {L : List HProp} (h : Sat W w L) : W.heap.size ≤ w.heap.size := h.below.size

theorem block_lt {w : World} {b : Nat} {o : Obj} (h : w.heap[b]? = some o) : b < w.heap.size := (Array.getElem?_eq_some_iff.1 h).1

theorem frg_below {B : Nat} {w w' : World} (h : Below w.heap.size w w') : Frag.le (frg B w) (frg B w') := fun b o e =>
  let ⟨hb, he⟩ := frg_some e
  frg_mk hb ((h.block b (block_lt he)).trans he)

/-- Blocks more are no harm. -/
theorem Sat.more {W w w' : World} {L : List HProp} (h : Sat W w L) (hb : Below w.heap.size w w') : Sat W w' L :=
  ⟨h.below.trans (hb.mono h.size), sepL_mono (frg_below hb) h.sep⟩

/-- What was made above w lies beside what lay in w. -/
theorem Sat.andThen {W w w' : World} {L L' : List HProp} (h : Sat W w L) (k : Sat w w' L') : Sat W w' (L' ++ L) := by
  refine ⟨h.below.trans (k.below.mono h.size), ?_⟩
  refine sepL_app_mk (h1 := frg w.heap.size w') (h2 := frg W.heap.size w) (fun b => ?_) (fun b o e => ?_) (frg_below k.below) k.sep h.sep
  · by_cases hb : b < w.heap.size
    · exact .inl (by unfold frg; rw [if_neg (by omega)])
    · refine .inr ?_
      unfold frg; split
      · exact Array.getElem?_eq_none (by omega)
      · rfl
  · obtain ⟨hb, he⟩ := frg_some e
    exact frg_mk (Nat.le_trans h.size hb) he

/-- The i-th to the front. -/
theorem perm_front {α : Type} : ∀ {l : List α} {i : Nat} {p : α}, l[i]? = some p → l.Perm (p :: l.eraseIdx i)
  | [], _, _, h => by simp at h
  | x :: l, 0, p, h => by simp at h; subst h; exact List.Perm.refl _
  | x :: l, i + 1, p, h => by
    have := perm_front (l := l) (i := i) (p := p) (by simpa using h)
    exact (List.Perm.cons x this).trans (List.Perm.swap p x _)
theorem perm_back {α : Type} : ∀ {l : List α} {i : Nat} {p : α} (q : α), l[i]? = some p → (q :: l.eraseIdx i).Perm (l.set i q)
  | [], _, _, _, h => by simp at h
  | x :: l, 0, p, q, h => List.Perm.refl _
  | x :: l, i + 1, p, q, h => by
    have := perm_back (l := l) (i := i) (p := p) q (by simpa using h)
    exact (List.Perm.swap x q _).trans (List.Perm.cons x this)

theorem Sat.front {W w : World} {L : List HProp} (h : Sat W w L) (i : Nat) {p : HProp} (hi : L[i]? = some p) : Sat W w (p :: L.eraseIdx i) := h.perm (perm_front hi)
theorem Sat.back {W w : World} {L : List HProp} {i : Nat} {p q : HProp} (hi : L[i]? = some p) (h : Sat W w (q :: L.eraseIdx i)) : Sat W w (L.set i q) := h.perm (perm_back q hi)

/-- Some to the front, in the order told; then the others. -/
def picks {α : Type} (l : List α) : List Nat → List α
  | [] => l
  | i :: is => match l[i]? with
    | some p => p :: picks (l.eraseIdx i) is
    | none => l
theorem perm_picks {α : Type} : ∀ (is : List Nat) (l : List α), l.Perm (picks l is)
  | [], l => List.Perm.refl _
  | i :: is, l => by
    unfold picks
    split
    · rename_i p hp
      exact (perm_front hp).trans (List.Perm.cons _ (perm_picks is _))
    · exact List.Perm.refl _
theorem Sat.picks {W w : World} {L : List HProp} (h : Sat W w L) (is : List Nat) : Sat W w (Sl.picks L is) := h.perm (perm_picks is L)
theorem Sat.drop1 {W w : World} {L : List HProp} {p : HProp} (h : Sat W w (p :: L)) : Sat W w L := ⟨h.below, let ⟨_, _, _, _, l2, _, r⟩ := h.sep; sepL_mono l2 r⟩

theorem Sat.big {W w : World} {l r : List HProp} (h : Sat W w (Big l :: r)) : Sat W w (l ++ r) := ⟨h.below, sepL_big.1 h.sep⟩
theorem Sat.mkBig {W w : World} {l r : List HProp} (h : Sat W w (l ++ r)) : Sat W w (Big l :: r) := ⟨h.below, sepL_big.2 h.sep⟩

/-- An assertion that says 'there are x with which M x holds' is laid open. -/
theorem Sat.unpack {W w : World} {R : List HProp} {p : HProp} {α : Sort _} {Φ : α → Prop} {M : α → List HProp} (h : Sat W w (p :: R)) (hp : ∀ f, p f → ∃ x, Φ x ∧ sepL (M x) f) :
    ∃ x, Φ x ∧ Sat W w (M x ++ R) := by
  obtain ⟨h1, h2, d, l1, l2, q, r⟩ := h.sep
  obtain ⟨x, hx, m⟩ := hp _ q
  exact ⟨x, hx, h.below, sepL_app_mk d l1 l2 m r⟩
theorem Sat.pack {W w : World} {R M : List HProp} {p : HProp} (h : Sat W w (M ++ R)) (hp : ∀ f, sepL M f → p f) : Sat W w (p :: R) := by
  obtain ⟨h1, h2, d, l1, l2, m, r⟩ := sepL_app h.sep
  exact ⟨h.below, h1, h2, d, l1, l2, hp _ m, r⟩

/-- Block b holds o. -/
def Bk (b : Nat) (o : Obj) : HProp := fun h => h b = some o
abbrev Cl (b : Nat) (vs : List Value) (t : TypeId) : HProp := Bk b (.cells vs.toArray t (0, 0))

theorem Sat.at {W w : World} {L : List HProp} (h : Sat W w L) (i : Nat) {b : Nat} {o : Obj} (hi : L[i]? = some (Bk b o)) : W.heap.size ≤ b ∧ w.heap[b]? = some o := by
  obtain ⟨h1, h2, d, l1, l2, q, r⟩ := (h.front i hi).sep
  exact frg_some (l1 _ _ q)
theorem Sat.lt {W w : World} {L : List HProp} (h : Sat W w L) (i : Nat) {b : Nat} {o : Obj} (hi : L[i]? = some (Bk b o)) : b < w.heap.size := block_lt (h.at i hi).2

/-- Two blocks told in one list are two. -/
theorem Sat.ne01 {W w : World} {R : List HProp} {b b' : Nat} {o o' : Obj} (h : Sat W w (Bk b o :: Bk b' o' :: R)) : b ≠ b' := by
  obtain ⟨h1, h2, d, l1, l2, q, h3, h4, d', l3, l4, q', r⟩ := h.sep
  rintro rfl
  rcases d b with e | e
  · rw [show h1 b = some o from q] at e; cases e
  · rw [l3 _ _ q'] at e; cases e
theorem Sat.ne {W w : World} {L : List HProp} (h : Sat W w L) (i j : Nat) {b b' : Nat} {o o' : Obj} (hi : L[i]? = some (Bk b o)) (hj : (L.eraseIdx i)[j]? = some (Bk b' o')) : b ≠ b' :=
  Sat.ne01 (W := W) (w := w) (R := (L.eraseIdx i).eraseIdx j) ((h.front i hi).perm (List.Perm.cons _ (perm_front hj)))

/-- One block is turned, blocks more may lie behind. -/
theorem Sat.turn {W w w' : World} {L : List HProp} (h : Sat W w L) (i : Nat) {b : Nat} {o : Obj} (hi : L[i]? = some (Bk b o)) (o' : Obj)
    (hg : w.grownBy w' (some b)) (ho : w'.heap[b]? = some o') : Sat W w' (L.set i (Bk b o')) := by
  have hf := h.front i hi
  refine Sat.back hi ?_
  obtain ⟨h1, h2, d, l1, l2, q, r⟩ := hf.sep
  have hb := frg_some (l1 _ _ q)
  have hnb : h2 b = none := by
    rcases d b with e | e
    · rw [show h1 b = some o from q] at e; cases e
    · exact e
  refine ⟨?_, fun x => if x = b then some o' else none, h2, ?_, ?_, ?_, ?_, r⟩
  · exact h.below.grown hg h.size (fun k e => by cases e; exact hb.1)
  · intro x
    by_cases e : x = b
    · subst e; exact .inr hnb
    · exact .inl (by simp [e])
  · intro x y e
    by_cases ex : x = b
    · subst ex; simp at e; subst e; exact frg_mk hb.1 ho
    · simp [ex] at e
  · intro x y e
    have := frg_some (l2 _ _ e)
    refine frg_mk this.1 ((hg.block x (block_lt this.2) ?_).trans this.2)
    intro ex; cases ex; rw [hnb] at e; cases e
  · simp [Bk]

theorem Sat.alloc {W w : World} {L : List HProp} (h : Sat W w L) (o : Obj) : Sat W (w.alloc o) (Bk w.heap.size o :: L) := by
  have := h.andThen (w' := w.alloc o) (L' := [Bk w.heap.size o]) ⟨(Below.refl _ _).alloc (Nat.le_refl _) _, frg w.heap.size (w.alloc o), fun _ => none, fun _ => .inr rfl, .refl _, fun _ _ e => by (cases e), ?_, trivial⟩
  · exact this
  · exact frg_mk (Nat.le_refl _) (World.alloc_heap_new w o)

theorem Sat.drew {W w : World} {L : List HProp} (h : Sat W w L) : Sat W w.drew L := ⟨h.below.drew, h.sep⟩
theorem Sat.drewN {W w : World} {L : List HProp} (h : Sat W w L) (n : Nat) : Sat W (w.drewN n) L := ⟨⟨h.below.os, h.below.tape, h.below.output, h.below.size, h.below.block⟩, h.sep⟩

theorem Sat.setCell {W w : World} {L : List HProp} (h : Sat W w L) (i : Nat) {b : Nat} {vs : List Value} {t : TypeId} (hi : L[i]? = some (Cl b vs t)) (o : Nat) (v : Value) :
    Sat W (w.setCell ⟨b, o, none⟩ v) (L.set i (Cl b (vs.set o v) t)) := by
  refine h.turn i hi _ ⟨rfl, rfl, rfl, by simp [World.setCell], fun k hk hne => Below.heap_setCell _ _ _ _ (fun e => hne (by rw [e]))⟩ ?_
  have hb := (h.at i hi).2
  simp only [World.setCell, Array.getElem?_modify, hb]
  simp

theorem Sat.cell {W w : World} {L : List HProp} (h : Sat W w L) (i : Nat) {b : Nat} {vs : List Value} {t : TypeId} (hi : L[i]? = some (Cl b vs t)) (o : Nat) :
    w.cell? ⟨b, o, none⟩ = vs[o]? := by
  have hb := (h.at i hi).2
  simp [World.cell?, hb]
theorem Sat.frozen {W w : World} {L : List HProp} (h : Sat W w L) (i : Nat) {b : Nat} {vs : List Value} {t : TypeId} (hi : L[i]? = some (Cl b vs t)) (o : Nat) :
    w.frozen? ⟨b, o, none⟩ = false := by
  have hb := (h.at i hi).2
  simp [World.frozen?, hb]
/-- What lay in the base lies there still. -/
theorem Sat.base {W w : World} {L : List HProp} (h : Sat W w L) {p : Addr} {v : Value} (hp : W.cell? p = some v) : w.cell? p = some v :=
  (h.below.cell (World.block_lt_of_cell? W p hp)).trans hp
end Go.Sl
