
set_option linter.unusedVariables false
set_option linter.unusedSimpArgs false/- Plain: a disk as the document tells it: files, names in rising order, changes of names. -/
namespace Go.Proofs.YthhklkpkhaibcaaDoor
abbrev Nm := List UInt8
structure Fl where
  data : List UInt8
  syn : Nat
  deriving Inhabited
structure Chg where
  a : Nm
  b : Nm
  made : Option Nat
  deriving Inhabited
abbrev Names := List (Nm × Nat)
structure DS where
  quota : Nat
  fs : List Fl
  now : Names
  las : Names
  chs : List Chg
  left : Option Nat
  down : Bool
def okc (c : UInt8) : Bool := decide (33 ≤ c.toNat) && decide (c.toNat ≤ 126) && !decide (c.toNat = 47)
def pathB (n : Nm) : Bool := !n.isEmpty && decide (n.length ≤ 40) && n.all okc
theorem pathB_ne {n : Nm} (h : pathB n = true) : n ≠ [] := by
  rintro rfl; simp [pathB] at h
def fnd (l : Names) (n : Nm) : Option Nat := (l.find? fun p => decide (n = p.1)).map (·.2)
def wo (l : Names) (n : Nm) : Names := l.filter fun p => decide (¬ p.1 = n)
def wi (l : Names) (n : Nm) (f : Nat) : Names := (wo l n).takeWhile (fun p => decide (p.1 < n)) ++ (n, f) :: (wo l n).dropWhile (fun p => decide (p.1 < n))
def doC (l : Names) (c : Chg) : Names :=
  let f := if c.a = [] then c.made else fnd l c.a
  let l1 := if c.a = [] then l else wo l c.a
  if c.b = [] then l1 else match f with
    | none => l1
    | some f => wi l1 c.b f
def DS.fl (D : DS) (i : Nat) : Fl := D.fs.getD i default
def DS.dat (D : DS) (i : Nat) : List UInt8 := (D.fl i).data
def DS.lenL (D : DS) : Nat := (D.las.map fun p => (D.dat p.2).length).sum
def lenM (fs : List Fl) : Option Nat → Nat
  | none => 0
  | some i => (fs.getD i default).data.length
def DS.lenC (D : DS) : Nat := (D.chs.map fun c => lenM D.fs c.made).sum
def DS.taken (D : DS) : Nat := D.lenL + D.lenC
def DS.free (D : DS) : Int := if D.down = true then 0 else D.quota - D.taken
def DS.turn (D : DS) : Int × DS := match D.left with
  | none => (0, D)
  | some 0 => (60, { D with down := true })
  | some (k + 1) => (0, { D with left := some k })
/-- The file of a name: 0 and its number, or why there is none. -/
def DS.find (D : DS) (n : Nm) : Int × Nat := if D.down = true then (60, 0) else if pathB n = false then (61, 0) else match fnd D.now n with
  | none => (63, 0)
  | some i => (0, i)
def DS.noted (D : DS) (c : Chg) : DS := { D with now := doC D.now c, chs := D.chs ++ [c] }
def DS.note (D : DS) (c : Chg) : Int × DS := if D.turn.1 = 0 then (0, D.turn.2.noted c) else D.turn
def DS.create (D : DS) (n : Nm) : Int × DS :=
  if (D.find n).1 = 0 then (62, D) else if (D.find n).1 = 63 then
    (if D.turn.1 = 0 then (0, DS.noted { D.turn.2 with fs := D.turn.2.fs ++ [⟨[], 0⟩] } ⟨[], n, some D.fs.length⟩) else D.turn)
  else ((D.find n).1, D)
def DS.setF (D : DS) (i : Nat) (f : Fl) : DS := { D with fs := D.fs.set i f }
def DS.append (D : DS) (n : Nm) (b : List UInt8) : Int × DS :=
  if (D.find n).1 = 0 then (if D.free < b.length then (64, D) else if D.turn.1 = 0 then (0, D.turn.2.setF (D.find n).2 ⟨D.dat (D.find n).2 ++ b, (D.fl (D.find n).2).syn⟩) else D.turn) else ((D.find n).1, D)
def DS.sync (D : DS) (n : Nm) : Int × DS :=
  if (D.find n).1 = 0 then (if D.turn.1 = 0 then (0, D.turn.2.setF (D.find n).2 ⟨D.dat (D.find n).2, (D.dat (D.find n).2).length⟩) else D.turn) else ((D.find n).1, D)
def DS.trunc (D : DS) (n : Nm) (k : Int) : Int × DS :=
  if (D.find n).1 = 0 then (if k < 0 ∨ ((D.dat (D.find n).2).length : Int) < k then (65, D) else if D.turn.1 = 0 then (0, D.turn.2.setF (D.find n).2 ⟨(D.dat (D.find n).2).take k.toNat, min (D.fl (D.find n).2).syn k.toNat⟩) else D.turn) else ((D.find n).1, D)
def DS.rename (D : DS) (a b : Nm) : Int × DS :=
  if D.down = true then (60, D) else if pathB a = false ∨ pathB b = false then (61, D) else if fnd D.now a = none then (63, D) else D.note ⟨a, b, none⟩
def DS.remove (D : DS) (n : Nm) : Int × DS := if (D.find n).1 = 0 then D.note ⟨n, [], none⟩ else ((D.find n).1, D)
def DS.syncdir (D : DS) : Int × DS := if D.down = true then (60, D) else if D.turn.1 = 0 then (0, { D.turn.2 with las := D.now, chs := [] }) else D.turn
def DS.arm (D : DS) (n : Int) : DS := if D.down = true then D else { D with left := if 0 ≤ n then some n.toNat else none }
/-- A changing call by its number. -/
def DS.act (D : DS) (k : Int) (a b : Nm) (n : Int) (data : List UInt8) : Int × DS :=
  if k = 1 then D.create a else if k = 2 then D.append a data else if k = 3 then D.sync a else if k = 4 then D.trunc a n else if k = 5 then D.rename a b else if k = 6 then D.remove a else D.syncdir
def DS.read (D : DS) (n : Nm) : List UInt8 := if (D.find n).1 = 0 then D.dat (D.find n).2 else []
def DS.list (D : DS) : List Nm := if D.down = true then [] else D.now.map (·.1)
abbrev File := Nm × List UInt8
def filesOf (fs : List Fl) (l : Names) : List File := l.map fun p => (p.1, (fs.getD p.2 default).data)
def DS.files (D : DS) : List File := filesOf D.fs D.now
def clamp (n lo hi : Int) : Int := if n < lo then lo else if hi < n then hi else n
/-- What a cut leaves of a file. -/
def leftF (f : Fl) (c : Int × Int) : List UInt8 :=
  let u : Int := f.data.length - f.syn
  let k := clamp c.1 0 u
  f.data.take (f.syn + k.toNat) ++ List.replicate (clamp c.2 0 (u - k)).toNat 0
def keptN (D : DS) (keep : Int) : Names := (D.chs.take (clamp keep 0 D.chs.length).toNat).foldl doC D.las
def leftL (fs : List Fl) (cuts : List (Int × Int)) : Nat → Names → List File
  | _, [] => []
  | k, p :: l => (p.1, leftF (fs.getD p.2 default) (cuts.getD k (0, 0))) :: leftL fs cuts (k + 1) l
def DS.crash (D : DS) (keep : Int) (cuts : List (Int × Int)) : List File := leftL D.fs cuts 0 (keptN D keep)
def newD (q : Nat) : DS := ⟨q, [], [], [], [], none, false⟩
/- NAMES -/
def Srt (l : Names) : Prop := l.Pairwise fun p q => p.1 < q.1
theorem fnd_mem {l : Names} {n : Nm} {i : Nat} (h : fnd l n = some i) : (n, i) ∈ l := by
  unfold fnd at h
  simp only [Option.map_eq_some_iff] at h
  obtain ⟨p, hp, rfl⟩ := h
  have h1 := List.find?_some hp
  have h2 := List.mem_of_find?_eq_some hp
  have : n = p.1 := by simpa using h1
  subst this; exact h2
theorem fnd_none {l : Names} {n : Nm} : fnd l n = none ↔ ∀ p ∈ l, ¬ n = p.1 := by
  simp only [fnd, Option.map_eq_none_iff, List.find?_eq_none, decide_eq_true_eq]
theorem Srt.key {l : Names} (h : Srt l) {p q : Nm × Nat} (hp : p ∈ l) (hq : q ∈ l) (he : p.1 = q.1) : p = q := by
  induction l with
  | nil => cases hp
  | cons x l ih =>
    have h' := List.pairwise_cons.1 h
    rcases List.mem_cons.1 hp with rfl | hp' <;> rcases List.mem_cons.1 hq with rfl | hq'
    · rfl
    · have := h'.1 q hq'; rw [he] at this; exact absurd this (List.lt_irrefl _)
    · have := h'.1 p hp'; rw [he] at this; exact absurd this (List.lt_irrefl _)
    · exact ih h'.2 hp' hq'
theorem fnd_of_mem {l : Names} (h : Srt l) {n : Nm} {i : Nat} (hm : (n, i) ∈ l) : fnd l n = some i := by
  cases e : fnd l n with
  | none => exact absurd rfl (fnd_none.1 e _ hm)
  | some j => have := h.key hm (fnd_mem e) rfl; cases this; rfl
theorem Srt.mkwo {l : Names} (h : Srt l) (n : Nm) : Srt (wo l n) := h.sublist List.filter_sublist
theorem mem_wo {l : Names} {n : Nm} {p : Nm × Nat} : p ∈ wo l n ↔ p ∈ l ∧ ¬ p.1 = n := by simp [wo]
theorem tdw {l : Names} {n : Nm} (h : Srt l) (hn : ∀ p ∈ l, ¬ p.1 = n) : (∀ p ∈ l.takeWhile (fun p => decide (p.1 < n)), p.1 < n) ∧ ∀ p ∈ l.dropWhile (fun p => decide (p.1 < n)), n < p.1 := by
  induction l with
  | nil => exact ⟨fun p hp => (by cases hp), fun p hp => (by cases hp)⟩
  | cons x l ih =>
    have h' := List.pairwise_cons.1 h
    obtain ⟨i1, i2⟩ := ih h'.2 (fun p hp => hn p (List.mem_cons_of_mem _ hp))
    by_cases hx : x.1 < n
    · have e1 : (x :: l).takeWhile (fun p => decide (p.1 < n)) = x :: l.takeWhile (fun p => decide (p.1 < n)) := by simp [hx]
      have e2 : (x :: l).dropWhile (fun p => decide (p.1 < n)) = l.dropWhile (fun p => decide (p.1 < n)) := by simp [hx]
      rw [e1, e2]
      exact ⟨fun p hp => (List.mem_cons.1 hp).elim (fun e => e ▸ hx) (i1 p), i2⟩
    · have e1 : (x :: l).takeWhile (fun p => decide (p.1 < n)) = [] := by simp [hx]
      have e2 : (x :: l).dropWhile (fun p => decide (p.1 < n)) = x :: l := by simp [hx]
      rw [e1, e2]
      have hx2 : n < x.1 := Std.lt_of_le_of_ne (List.not_lt.1 hx) (fun e => hn x List.mem_cons_self e.symm)
      refine ⟨fun p hp => (by cases hp), fun p hp => ?_⟩
      rcases List.mem_cons.1 hp with rfl | hp
      · exact hx2
      · exact List.lt_trans hx2 (h'.1 p hp)
theorem Srt.mkwi {l : Names} (h : Srt l) (n : Nm) (f : Nat) : Srt (wi l n f) := by
  obtain ⟨h1, h2⟩ := tdw (n := n) (h.mkwo n) (fun p hp => (mem_wo.1 hp).2)
  unfold Srt wi
  rw [List.pairwise_append]
  refine ⟨(h.mkwo n).sublist (List.takeWhile_sublist _), List.pairwise_cons.2 ⟨h2, (h.mkwo n).sublist (List.dropWhile_sublist _)⟩, ?_⟩
  intro a ha b hb
  rcases List.mem_cons.1 hb with rfl | hb
  · exact h1 a ha
  · exact List.lt_trans (h1 a ha) (h2 b hb)
theorem wi_perm (l : Names) (n : Nm) (f : Nat) : (wi l n f).Perm ((n, f) :: wo l n) := by
  unfold wi
  refine List.perm_middle.trans (List.Perm.cons _ ?_)
  rw [List.takeWhile_append_dropWhile]
theorem mem_wi {l : Names} {n : Nm} {f : Nat} {p : Nm × Nat} : p ∈ wi l n f ↔ p = (n, f) ∨ p ∈ l ∧ ¬ p.1 = n := by
  rw [(wi_perm l n f).mem_iff, List.mem_cons, mem_wo]
theorem fnd_wo {l : Names} (h : Srt l) (n m : Nm) : fnd (wo l n) m = if m = n then none else fnd l m := by
  by_cases e : m = n
  · subst e; rw [if_pos rfl, fnd_none]; exact fun p hp he => (mem_wo.1 hp).2 he.symm
  · rw [if_neg e]
    cases e2 : fnd l m with
    | none => rw [fnd_none] at e2 ⊢; exact fun p hp => e2 p (mem_wo.1 hp).1
    | some i => exact fnd_of_mem (h.mkwo n) (mem_wo.2 ⟨fnd_mem e2, e⟩)
theorem fnd_wi {l : Names} (h : Srt l) (n m : Nm) (f : Nat) : fnd (wi l n f) m = if m = n then some f else fnd l m := by
  by_cases e : m = n
  · subst e; rw [if_pos rfl]; exact fnd_of_mem (h.mkwi _ f) (mem_wi.2 (.inl rfl))
  · rw [if_neg e]
    cases e2 : fnd l m with
    | none =>
      rw [fnd_none] at e2 ⊢
      intro p hp
      rcases mem_wi.1 hp with rfl | hp
      · exact e
      · exact e2 p hp.1
    | some i => exact fnd_of_mem (h.mkwi _ f) (mem_wi.2 (.inr ⟨fnd_mem e2, e⟩))
theorem wo_none {l : Names} {n : Nm} (h : fnd l n = none) : wo l n = l := by
  unfold wo
  rw [List.filter_eq_self]
  intro p hp
  simpa using fun e => fnd_none.1 h p hp e.symm
end Go.Proofs.YthhklkpkhaibcaaDoor
