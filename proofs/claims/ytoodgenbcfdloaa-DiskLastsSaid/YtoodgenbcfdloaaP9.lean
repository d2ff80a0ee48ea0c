/- Plain: what the caller of a disk knows of it, call by call (DiskLasts). -/
import Derived.Test.YtoodgenbcfdloaaG22
set_option linter.unusedVariables false
set_option linter.unusedSimpArgs false
namespace Go.Proofs.Ytoodgenbcfdloaa
open Go
/-- A list of bytes as it lies. -/
structure By where
  A : Option Addr
  c : Nat
  d : List UInt8
  deriving Inhabited
def nilBy : By := ⟨none, 0, []⟩
structure Wd where
  n : Nm
  dat : By
  nxt : By
  hn : Bool
  sur : By
  hsu : Bool
  deriving Inhabited
def freshW (n : Nm) (b : By) : Wd := ⟨n, b, nilBy, false, nilBy, false⟩
def lessW (l : List Wd) (n : Nm) : List Wd := l.filter fun w => decide (¬ w.n = n)
def placeW (l : List Wd) (n : Nm) : Option Nat := l.findIdx? fun w => decide (w.n = n)
def sureW (w : Wd) : Wd := if w.hn = true then { w with sur := w.nxt, hsu := true } else w
def takeBy (b : By) (k : Nat) : By := ⟨b.A, b.c, b.d.take k⟩
/-- What the caller notes behind a call; y: the bytes behind an Append, laid anew. -/
def notedW (l : List Wd) (k : Int) (a b : Nm) (n : Int) (y : By) : List Wd :=
  if k = 1 then lessW l a ++ [freshW a nilBy] else if k = 5 then (match placeW l a with
    | none => l
    | some i => lessW (lessW l a) b ++ [freshW b (l.getD i default).dat])
  else if k = 6 then lessW l a else if k = 7 then l.map sureW else match placeW l a with
    | none => l
    | some i =>
      if k = 2 then l.set i { l.getD i default with dat := y }
      else if k = 3 then l.set i { l.getD i default with nxt := (l.getD i default).dat, hn := true }
      else if k = 4 then (if 0 ≤ n ∧ n ≤ (l.getD i default).dat.d.length then l.set i (freshW a (takeBy (l.getD i default).dat n.toNat)) else l)
      else l
structure WOk (D : DS) (w : Wd) (i : Nat) : Prop where
  now : fnd D.now w.n = some i
  dat : w.dat.d = D.dat i
  nxt : w.hn = true → w.nxt.d <+: D.dat i ∧ w.nxt.d.length ≤ (D.fl i).syn
  sur : w.hsu = true → w.sur.d <+: D.dat i ∧ w.sur.d.length ≤ (D.fl i).syn ∧ fnd D.las w.n = some i ∧ ∀ c ∈ D.chs, ¬ c.a = w.n ∧ ¬ c.b = w.n
structure WI (D : DS) (l : List Wd) : Prop where
  nd : (l.map (·.n)).Nodup
  all : ∀ p ∈ D.now, ∃ w ∈ l, w.n = p.1
  ok : ∀ w ∈ l, ∃ i, WOk D w i
/-- Two disks that hold the same. -/
structure Core (D D' : DS) : Prop where
  fs : D'.fs = D.fs
  now : D'.now = D.now
  las : D'.las = D.las
  chs : D'.chs = D.chs
theorem Core.refl (D : DS) : Core D D := ⟨rfl, rfl, rfl, rfl⟩
theorem core_turn (D : DS) : Core D D.turn.2 := by
  obtain ⟨e1, e2, e3, e4, e5⟩ := turn_fields D
  exact ⟨e1, e2, e3, e4⟩
section
variable {D D' : DS} {l : List Wd}
theorem Core.fl (h : Core D D') (i : Nat) : D'.fl i = D.fl i := by unfold DS.fl; rw [h.fs]
theorem Core.dat (h : Core D D') (i : Nat) : D'.dat i = D.dat i := by unfold DS.dat; rw [h.fl]
theorem WI.core (h : WI D l) (c : Core D D') : WI D' l := by
  refine ⟨h.nd, by rw [c.now]; exact h.all, fun w hw => ?_⟩
  obtain ⟨i, k⟩ := h.ok w hw
  exact ⟨i, by rw [c.now]; exact k.now, by rw [c.dat]; exact k.dat, fun e => by rw [c.dat, c.fl]; exact k.nxt e, fun e => by rw [c.dat, c.fl, c.las, c.chs]; exact k.sur e⟩
/-- A call that is refused, or at which the disk goes down, leaves all as it is. -/
theorem act_core (D : DS) (k : Int) (a b : Nm) (n : Int) (data : List UInt8) : (D.act k a b n data).1 ≠ 0 → Core D (D.act k a b n data).2 := by
  have ht := core_turn D
  have hr := Core.refl D
  have hno : ∀ c, (D.note c).1 ≠ 0 → Core D (D.note c).2 := by
    intro c h
    unfold DS.note at h ⊢
    split at h
    · exact absurd rfl h
    · rename_i h0; rw [if_neg h0]; exact ht
  unfold DS.act
  split
  · unfold DS.create
    intro h
    split
    · exact hr
    split
    · split
      · rename_i h1 h2 h3; rw [if_neg h1, if_pos h2, if_pos h3] at h; exact absurd rfl h
      · exact ht
    · exact hr
  split
  · unfold DS.append
    intro h
    split
    · split
      · exact hr
      split
      · rename_i h1 h2 h3; rw [if_pos h1, if_neg h2, if_pos h3] at h; exact absurd rfl h
      · exact ht
    · exact hr
  split
  · unfold DS.sync
    intro h
    split
    · split
      · rename_i h1 h2; rw [if_pos h1, if_pos h2] at h; exact absurd rfl h
      · exact ht
    · exact hr
  split
  · unfold DS.trunc
    intro h
    split
    · split
      · exact hr
      split
      · rename_i h1 h2 h3; rw [if_pos h1, if_neg h2, if_pos h3] at h; exact absurd rfl h
      · exact ht
    · exact hr
  split
  · unfold DS.rename
    intro h
    split
    · exact hr
    split
    · exact hr
    split
    · exact hr
    · rename_i h1 h2 h3; rw [if_neg h1, if_neg h2, if_neg h3] at h; exact hno _ h
  split
  · unfold DS.remove
    intro h
    split
    · rename_i h1; rw [if_pos h1] at h; exact hno _ h
    · exact hr
  · unfold DS.syncdir
    intro h
    split
    · exact hr
    split
    · rename_i h1 h2; rw [if_neg h1, if_pos h2] at h; exact absurd rfl h
    · exact ht
/- NAMES -/
theorem fnd_wo_ne {l : Names} {n m : Nm} (h : ¬ m = n) : fnd (wo l n) m = fnd l m := by
  unfold fnd wo
  congr 1
  induction l with
  | nil => rfl
  | cons p l ih =>
    by_cases hp : p.1 = n
    · have e1 : decide (m = p.1) = false := decide_eq_false (by rw [hp]; exact h)
      simp only [List.filter_cons, hp, not_true_eq_false, decide_false, Bool.false_eq_true, if_false, List.find?_cons]
      rw [hp] at e1
      rw [e1, ih]
    · simp only [List.filter_cons, hp, not_false_eq_true, decide_true, if_true, List.find?_cons, ih]
theorem fnd_wi_ne {l : Names} {n m : Nm} {f : Nat} (h : ¬ m = n) : fnd (wi l n f) m = fnd l m := by
  rw [← fnd_wo_ne (l := l) h]
  have e : wo l n = (wo l n).takeWhile (fun p => decide (p.1 < n)) ++ (wo l n).dropWhile (fun p => decide (p.1 < n)) := List.takeWhile_append_dropWhile.symm
  unfold wi fnd
  congr 1
  conv => rhs; rw [e]
  rw [List.find?_append, List.find?_append, List.find?_cons, decide_eq_false h]
theorem fnd_doC {l : Names} {c : Chg} {n : Nm} (ha : ¬ c.a = n) (hb : ¬ c.b = n) : fnd (doC l c) n = fnd l n := by
  have h1 : fnd (if c.a = [] then l else wo l c.a) n = fnd l n := by
    split
    · rfl
    · exact fnd_wo_ne fun e => ha e.symm
  unfold doC
  dsimp only
  split
  · exact h1
  split
  · exact h1
  · rw [fnd_wi_ne fun e => hb e.symm]; exact h1
theorem fnd_foldC {n : Nm} : ∀ {cs : List Chg} {l : Names}, (∀ c ∈ cs, ¬ c.a = n ∧ ¬ c.b = n) → fnd (cs.foldl doC l) n = fnd l n
  | [], _, _ => rfl
  | c :: cs, l, h => by
    rw [List.foldl_cons, fnd_foldC fun c hc => h c (List.mem_cons_of_mem _ hc)]
    exact fnd_doC (h c List.mem_cons_self).1 (h c List.mem_cons_self).2
theorem nd_inj {α : Type} {l : List α} (h : l.Nodup) {i j : Nat} (hi : i < l.length) (hj : j < l.length) (e : l[i] = l[j]) : i = j := by
  rcases Nat.lt_trichotomy i j with h1 | h1 | h1
  · exact absurd e (List.pairwise_iff_getElem.1 h i j hi hj h1)
  · exact h1
  · exact absurd e.symm (List.pairwise_iff_getElem.1 h j i hj hi h1)
theorem fnd_inj {l : Names} (h : (idsL l).Nodup) {n m : Nm} {i : Nat} (h1 : fnd l n = some i) (h2 : fnd l m = some i) : n = m := by
  have g1 := fnd_mem h1
  have g2 := fnd_mem h2
  have : (n, i) = (m, i) := by
    obtain ⟨a, ha, e1⟩ := List.getElem_of_mem g1
    obtain ⟨b, hb, e2⟩ := List.getElem_of_mem g2
    have hab : a = b := by
      exact nd_inj h (i := a) (j := b) (by simpa [idsL] using ha) (by simpa [idsL] using hb) (by simp [idsL, e1, e2])
    subst hab
    rw [← e1, ← e2]
  exact congrArg Prod.fst this
/- WORDS -/
theorem mem_lessW {n : Nm} {w : Wd} : w ∈ lessW l n ↔ w ∈ l ∧ ¬ w.n = n := by simp [lessW]
theorem nd_lessW (h : (l.map (·.n)).Nodup) (n : Nm) : ((lessW l n).map (·.n)).Nodup := h.sublist ((List.filter_sublist).map _)
theorem placeW_some {n : Nm} {i : Nat} (h : placeW l n = some i) : i < l.length ∧ (l.getD i default).n = n ∧ l.getD i default ∈ l := by
  obtain ⟨h1, h2, _⟩ := List.findIdx?_eq_some_iff_getElem.1 h
  have e : l.getD i default = l[i] := by simp [List.getD, h1]
  rw [e]
  exact ⟨h1, by simpa using h2, List.getElem_mem h1⟩
theorem placeW_none {n : Nm} (h : placeW l n = none) : ∀ w ∈ l, ¬ w.n = n := by
  have := List.findIdx?_eq_none_iff.1 h
  intro w hw; simpa using this w hw
theorem mem_setW (h : (l.map (·.n)).Nodup) {i : Nat} (hi : i < l.length) {z w : Wd} (hw : w ∈ l.set i z) : w = z ∨ w ∈ l ∧ ¬ w.n = (l.getD i default).n := by
  obtain ⟨j, hj, e⟩ := List.getElem_of_mem hw
  have hj' : j < l.length := by simpa using hj
  have e0 : l.getD i default = l[i] := by simp [List.getD, hi]
  by_cases hij : i = j
  · subst hij; left; rw [← e]; simp
  · right
    have e2 : l[j] = w := by rw [← e]; simp [hij]
    refine ⟨e2 ▸ List.getElem_mem hj', fun hn => hij ?_⟩
    have := nd_inj h (i := j) (j := i) (by simpa using hj') (by simpa using hi) (by rw [List.getElem_map, List.getElem_map, e2, hn, e0])
    exact this.symm
theorem names_setW {i : Nat} (hi : i < l.length) {z : Wd} (hz : z.n = (l.getD i default).n) : (l.set i z).map (·.n) = l.map (·.n) := by
  have e0 : l.getD i default = l[i] := by simp [List.getD, hi]
  apply List.ext_getElem (by simp)
  intro j h1 h2
  simp only [List.getElem_map, List.getElem_set]
  split
  · rename_i hij; subst hij; rw [hz, e0]
  · rfl
end
end Go.Proofs.Ytoodgenbcfdloaa
