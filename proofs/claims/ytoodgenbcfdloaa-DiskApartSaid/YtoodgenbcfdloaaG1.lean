import Derived.Test.YtoodgenbcfdloaaSlText
import Derived.Test.YtoodgenbcfdloaaSrt

set_option linter.unusedVariables false
set_option linter.unusedSimpArgs false/- Plain: a disk as the document tells it: files, names in rising order, changes of names. -/
namespace Go.Proofs.Ytoodgenbcfdloaa
abbrev Nm := List UInt8
structure Fl where
  data : List UInt8
  syn : Nat
  deriving Inhabited
structure Chg where
  a : Nm
  b : Nm
  made : Option Nat
  deriving Inhabited
abbrev Names := List (Nm × Nat)
structure DS where
  quota : Nat
  fs : List Fl
  now : Names
  las : Names
  chs : List Chg
  left : Option Nat
  down : Bool
def okc (c : UInt8) : Bool := decide (33 ≤ c.toNat) && decide (c.toNat ≤ 126) && !decide (c.toNat = 47)
def pathB (n : Nm) : Bool := !n.isEmpty && decide (n.length ≤ 40) && n.all okc
theorem pathB_ne {n : Nm} (h : pathB n = true) : n ≠ [] := by
  rintro rfl; simp [pathB] at h
def fnd (l : Names) (n : Nm) : Option Nat := (l.find? fun p => decide (n = p.1)).map (·.2)
def wo (l : Names) (n : Nm) : Names := l.filter fun p => decide (¬ p.1 = n)
def wi (l : Names) (n : Nm) (f : Nat) : Names := (wo l n).takeWhile (fun p => decide (p.1 < n)) ++ (n, f) :: (wo l n).dropWhile (fun p => decide (p.1 < n))
def doC (l : Names) (c : Chg) : Names :=
  let f := if c.a = [] then c.made else fnd l c.a
  let l1 := if c.a = [] then l else wo l c.a
  if c.b = [] then l1 else match f with
    | none => l1
    | some f => wi l1 c.b f
def DS.fl (D : DS) (i : Nat) : Fl := D.fs.getD i default
def DS.dat (D : DS) (i : Nat) : List UInt8 := (D.fl i).data
def DS.lenL (D : DS) : Nat := (D.las.map fun p => (D.dat p.2).length).sum
def lenM (fs : List Fl) : Option Nat → Nat
  | none => 0
  | some i => (fs.getD i default).data.length
def DS.lenC (D : DS) : Nat := (D.chs.map fun c => lenM D.fs c.made).sum
def DS.taken (D : DS) : Nat := D.lenL + D.lenC
def DS.free (D : DS) : Int := if D.down = true then 0 else D.quota - D.taken
def DS.turn (D : DS) : Int × DS := match D.left with
  | none => (0, D)
  | some 0 => (60, { D with down := true })
  | some (k + 1) => (0, { D with left := some k })
/-- The file of a name: 0 and its number, or why there is none. -/
def DS.find (D : DS) (n : Nm) : Int × Nat := if D.down = true then (60, 0) else if pathB n = false then (61, 0) else match fnd D.now n with
  | none => (63, 0)
  | some i => (0, i)
def DS.noted (D : DS) (c : Chg) : DS := { D with now := doC D.now c, chs := D.chs ++ [c] }
def DS.note (D : DS) (c : Chg) : Int × DS := if D.turn.1 = 0 then (0, D.turn.2.noted c) else D.turn
def DS.create (D : DS) (n : Nm) : Int × DS :=
  if (D.find n).1 = 0 then (62, D) else if (D.find n).1 = 63 then
    (if D.turn.1 = 0 then (0, DS.noted { D.turn.2 with fs := D.turn.2.fs ++ [⟨[], 0⟩] } ⟨[], n, some D.fs.length⟩) else D.turn)
  else ((D.find n).1, D)
def DS.setF (D : DS) (i : Nat) (f : Fl) : DS := { D with fs := D.fs.set i f }
def DS.append (D : DS) (n : Nm) (b : List UInt8) : Int × DS :=
  if (D.find n).1 = 0 then (if D.free < b.length then (64, D) else if D.turn.1 = 0 then (0, D.turn.2.setF (D.find n).2 ⟨D.dat (D.find n).2 ++ b, (D.fl (D.find n).2).syn⟩) else D.turn) else ((D.find n).1, D)
def DS.sync (D : DS) (n : Nm) : Int × DS :=
  if (D.find n).1 = 0 then (if D.turn.1 = 0 then (0, D.turn.2.setF (D.find n).2 ⟨D.dat (D.find n).2, (D.dat (D.find n).2).length⟩) else D.turn) else ((D.find n).1, D)
def DS.trunc (D : DS) (n : Nm) (k : Int) : Int × DS :=
  if (D.find n).1 = 0 then (if k < 0 ∨ ((D.dat (D.find n).2).length : Int) < k then (65, D) else if D.turn.1 = 0 then (0, D.turn.2.setF (D.find n).2 ⟨(D.dat (D.find n).2).take k.toNat, min (D.fl (D.find n).2).syn k.toNat⟩) else D.turn) else ((D.find n).1, D)
def DS.rename (D : DS) (a b : Nm) : Int × DS :=
  if D.down = true then (60, D) else if pathB a = false ∨ pathB b = false then (61, D) else if fnd D.now a = none then (63, D) else D.note ⟨a, b, none⟩
def DS.remove (D : DS) (n : Nm) : Int × DS := if (D.find n).1 = 0 then D.note ⟨n, [], none⟩ else ((D.find n).1, D)
def DS.syncdir (D : DS) : Int × DS := if D.down = true then (60, D) else if D.turn.1 = 0 then (0, { D.turn.2 with las := D.now, chs := [] }) else D.turn
def DS.arm (D : DS) (n : Int) : DS := if D.down = true then D else { D with left := if 0 ≤ n then some n.toNat else none }
/-- A changing call by its number. -/
def DS.act (D : DS) (k : Int) (a b : Nm) (n : Int) (data : List UInt8) : Int × DS :=
  if k = 1 then D.create a else if k = 2 then D.append a data else if k = 3 then D.sync a else if k = 4 then D.trunc a n else if k = 5 then D.rename a b else if k = 6 then D.remove a else D.syncdir
def DS.read (D : DS) (n : Nm) : List UInt8 := if (D.find n).1 = 0 then D.dat (D.find n).2 else []
def DS.list (D : DS) : List Nm := if D.down = true then [] else D.now.map (·.1)
abbrev File := Nm × List UInt8
def filesOf (fs : List Fl) (l : Names) : List File := l.map fun p => (p.1, (fs.getD p.2 default).data)
def DS.files (D : DS) : List File := filesOf D.fs D.now
def clamp (n lo hi : Int) : Int := if n < lo then lo else if hi < n then hi else n
/-- What a cut leaves of a file. -/
def leftF (f : Fl) (c : Int × Int) : List UInt8 :=
  let u : Int := f.data.length - f.syn
  let k := clamp c.1 0 u
  f.data.take (f.syn + k.toNat) ++ List.replicate (clamp c.2 0 (u - k)).toNat 0
def keptN (D : DS) (keep : Int) : Names := (D.chs.take (clamp keep 0 D.chs.length).toNat).foldl doC D.las
def leftL (fs : List Fl) (cuts : List (Int × Int)) : Nat → Names → List File
  | _, [] => []
  | k, p :: l => (p.1, leftF (fs.getD p.2 default) (cuts.getD k (0, 0))) :: leftL fs cuts (k + 1) l
def DS.crash (D : DS) (keep : Int) (cuts : List (Int × Int)) : List File := leftL D.fs cuts 0 (keptN D keep)
def newD (q : Nat) : DS := ⟨q, [], [], [], [], none, false⟩
/- NAMES -/
def Srt (l : Names) : Prop := l.Pairwise fun p q => p.1 < q.1
theorem fnd_mem {l : Names} {n : Nm} {i : Nat} (h : fnd l n = some i) : (n, i) ∈ l := by
  unfold fnd at h
  simp only [Option.map_eq_some_iff] at h
  obtain ⟨p, hp, rfl⟩ := h
  have h1 := List.find?_some hp
  have h2 := List.mem_of_find?_eq_some hp
  have : n = p.1 := by simpa using h1
  subst this; exact h2
theorem fnd_none {l : Names} {n : Nm} : fnd l n = none ↔ ∀ p ∈ l, ¬ n = p.1 := by
  simp only [fnd, Option.map_eq_none_iff, List.find?_eq_none, decide_eq_true_eq]
theorem Srt.key {l : Names} (h : Srt l) {p q : Nm × Nat} (hp : p ∈ l) (hq : q ∈ l) (he : p.1 = q.1) : p = q := by
  induction l with
  | nil => cases hp
  | cons x l ih =>
    have h' := List.pairwise_cons.1 h
    rcases List.mem_cons.1 hp with rfl | hp' <;> rcases List.mem_cons.1 hq with rfl | hq'
    · rfl
    · have := h'.1 q hq'; rw [he] at this; exact absurd this (List.lt_irrefl _)
    · have := h'.1 p hp'; rw [he] at this; exact absurd this (List.lt_irrefl _)
    · exact ih h'.2 hp' hq'
theorem fnd_of_mem {l : Names} (h : Srt l) {n : Nm} {i : Nat} (hm : (n, i) ∈ l) : fnd l n = some i := by
  cases e : fnd l n with
  | none => exact absurd rfl (fnd_none.1 e _ hm)
  | some j => have := h.key hm (fnd_mem e) rfl; cases this; rfl
theorem Srt.mkwo {l : Names} (h : Srt l) (n : Nm) : Srt (wo l n) := h.sublist List.filter_sublist
theorem mem_wo {l : Names} {n : Nm} {p : Nm × Nat} : p ∈ wo l n ↔ p ∈ l ∧ ¬ p.1 = n := by simp [wo]
theorem tdw {l : Names} {n : Nm} (h : Srt l) (hn : ∀ p ∈ l, ¬ p.1 = n) : (∀ p ∈ l.takeWhile (fun p => decide (p.1 < n)), p.1 < n) ∧ ∀ p ∈ l.dropWhile (fun p => decide (p.1 < n)), n < p.1 := by
  induction l with
  | nil => exact ⟨fun p hp => (by cases hp), fun p hp => (by cases hp)⟩
  | cons x l ih =>
    have h' := List.pairwise_cons.1 h
    obtain ⟨i1, i2⟩ := ih h'.2 (fun p hp => hn p (List.mem_cons_of_mem _ hp))
    by_cases hx : x.1 < n
    · have e1 : (x :: l).takeWhile (fun p => decide (p.1 < n)) = x :: l.takeWhile (fun p => decide (p.1 < n)) := by simp [hx]
      have e2 : (x :: l).dropWhile (fun p => decide (p.1 < n)) = l.dropWhile (fun p => decide (p.1 < n)) := by simp [hx]
      rw [e1, e2]
      exact ⟨fun p hp => (List.mem_cons.1 hp).elim (fun e => e ▸ hx) (i1 p), i2⟩
    · have e1 : (x :: l).takeWhile (fun p => decide (p.1 < n)) = [] := by simp [hx]
      have e2 : (x :: l).dropWhile (fun p => decide (p.1 < n)) = x :: l := by simp [hx]
      rw [e1, e2]
      have hx2 : n < x.1 := Std.lt_of_le_of_ne (List.not_lt.1 hx) (fun e => hn x List.mem_cons_self e.symm)
      refine ⟨fun p hp => (by cases hp), fun p hp => ?_⟩
      rcases List.mem_cons.1 hp with rfl | hp
      · exact hx2
      · exact List.lt_trans hx2 (h'.1 p hp)
theorem Srt.mkwi {l : Names} (h : Srt l) (n : Nm) (f : Nat) : Srt (wi l n f) := by
  obtain ⟨h1, h2⟩ := tdw (n := n) (h.mkwo n) (fun p hp => (mem_wo.1 hp).2)
  unfold Srt wi
  rw [List.pairwise_append]
  refine ⟨(h.mkwo n).sublist (List.takeWhile_sublist _), List.pairwise_cons.2 ⟨h2, (h.mkwo n).sublist (List.dropWhile_sublist _)⟩, ?_⟩
  intro a ha b hb
  rcases List.mem_cons.1 hb with rfl | hb
  · exact h1 a ha
  · exact List.lt_trans (h1 a ha) (h2 b hb)
theorem wi_perm (l : Names) (n : Nm) (f : Nat) : (wi l n f).Perm ((n, f) :: wo l n) := by
  unfold wi
  refine List.perm_middle.trans (List.Perm.cons _ ?_)
  rw [List.takeWhile_append_dropWhile]
theorem mem_wi {l : Names} {n : Nm} {f : Nat} {p : Nm × Nat} : p ∈ wi l n f ↔ p = (n, f) ∨ p ∈ l ∧ ¬ p.1 = n := by
  rw [(wi_perm l n f).mem_iff, List.mem_cons, mem_wo]
theorem fnd_wo {l : Names} (h : Srt l) (n m : Nm) : fnd (wo l n) m = if m = n then none else fnd l m := by
  by_cases e : m = n
  · subst e; rw [if_pos rfl, fnd_none]; exact fun p hp he => (mem_wo.1 hp).2 he.symm
  · rw [if_neg e]
    cases e2 : fnd l m with
    | none => rw [fnd_none] at e2 ⊢; exact fun p hp => e2 p (mem_wo.1 hp).1
    | some i => exact fnd_of_mem (h.mkwo n) (mem_wo.2 ⟨fnd_mem e2, e⟩)
theorem fnd_wi {l : Names} (h : Srt l) (n m : Nm) (f : Nat) : fnd (wi l n f) m = if m = n then some f else fnd l m := by
  by_cases e : m = n
  · subst e; rw [if_pos rfl]; exact fnd_of_mem (h.mkwi _ f) (mem_wi.2 (.inl rfl))
  · rw [if_neg e]
    cases e2 : fnd l m with
    | none =>
      rw [fnd_none] at e2 ⊢
      intro p hp
      rcases mem_wi.1 hp with rfl | hp
      · exact e
      · exact e2 p hp.1
    | some i => exact fnd_of_mem (h.mkwi _ f) (mem_wi.2 (.inr ⟨fnd_mem e2, e⟩))
theorem wo_none {l : Names} {n : Nm} (h : fnd l n = none) : wo l n = l := by
  unfold wo
  rw [List.filter_eq_self]
  intro p hp
  simpa using fun e => fnd_none.1 h p hp e.symm
end Go.Proofs.Ytoodgenbcfdloaa

/- A map of names in memory, and the names that it stands for. -/
set_option linter.unusedVariables false
set_option linter.unusedSimpArgs false
namespace Go.Proofs.Ytoodgenbcfdloaa
open Go Go.Sl Go.RowKit
abbrev ptv (bs : List Nat) (i : Nat) : Value := .pointer (some ⟨bs.getD i 0, 0, none⟩)
abbrev Ent' := Nm × Nat × Nat
def kvs (bs : List Nat) (E : List Ent') : List (Nm × Value × Nat) := E.map fun x => (x.1, ptv bs x.2.1, x.2.2)
structure MapOf (E : List Ent') (ck : Nat) (S : Names) : Prop where
  perm : (E.map fun x => (x.1, x.2.1)).Perm S
  srt : Srt S
  st : (E.map (·.2.2)).Nodup
  lt : ∀ x ∈ E, x.2.2 < ck
theorem kvs_append (bs : List Nat) (a b : List Ent') : kvs bs (a ++ b) = kvs bs a ++ kvs bs b := by simp [kvs]
theorem kvs_len (bs : List Nat) (E : List Ent') : (kvs bs E).length = E.length := by simp [kvs]
theorem kvs_keys {bs : List Nat} {E : List Ent'} {n : Nm} (h : ∀ x ∈ E, ¬ n = x.1) : ∀ p ∈ kvs bs E, ¬ n = p.1 := by
  intro p hp
  simp only [kvs, List.mem_map] at hp
  obtain ⟨x, hx, rfl⟩ := hp
  exact h x hx
theorem Srt.nodup {l : Names} (h : Srt l) : (l.map (·.1)).Nodup := by
  unfold List.Nodup
  rw [List.pairwise_map]
  exact h.imp fun hab he => absurd (he ▸ hab) (List.lt_irrefl _)
section
variable {E : List Ent'} {ck : Nat} {S : Names} {bs : List Nat} {n : Nm}
theorem MapOf.keys (h : MapOf E ck S) : (E.map (·.1)).Nodup := by
  have := (h.perm.map (·.1)).nodup_iff.2 h.srt.nodup
  rw [List.map_map] at this
  exact this
/-- The entry of a name, if there is one. -/
theorem MapOf.split (h : MapOf E ck S) (n : Nm) :
    (∃ E1 x E2, E = E1 ++ x :: E2 ∧ x.1 = n ∧ (∀ y ∈ E1, ¬ n = y.1) ∧ (∀ y ∈ E2, ¬ n = y.1) ∧ fnd S n = some x.2.1) ∨ ((∀ x ∈ E, ¬ n = x.1) ∧ fnd S n = none) := by
  by_cases hx : ∃ x ∈ E, x.1 = n
  · obtain ⟨x, hx, rfl⟩ := hx
    obtain ⟨E1, E2, hE⟩ := List.append_of_mem hx
    have hk := h.keys
    rw [hE] at hk
    simp only [List.map_append, List.map_cons, List.nodup_append, List.nodup_cons] at hk
    refine .inl ⟨E1, x, E2, hE, rfl, ?_, ?_, ?_⟩
    · intro y hy e
      exact hk.2.2 _ (List.mem_map_of_mem hy) _ List.mem_cons_self e.symm
    · intro y hy e
      exact hk.2.1.1 (e ▸ List.mem_map_of_mem hy)
    · exact fnd_of_mem h.srt (h.perm.mem_iff.1 (List.mem_map.2 ⟨x, by rw [hE]; simp, rfl⟩))
  · have h2 : ∀ x ∈ E, ¬ n = x.1 := fun x hx' e => hx ⟨x, hx', e.symm⟩
    refine .inr ⟨h2, fnd_none.2 fun p hp e => ?_⟩
    obtain ⟨x, hx, rfl⟩ := List.mem_map.1 (h.perm.mem_iff.2 hp)
    exact h2 x hx e
theorem MapOf.find (h : MapOf E ck S) (bs : List Nat) (n : Nm) : findV (kvs bs E) n = (fnd S n).map (ptv bs) := by
  rcases h.split n with ⟨E1, x, E2, hE, hx, h1, h2, hf⟩ | ⟨h1, hf⟩
  · rw [hf, hE, kvs_append]
    have : kvs bs (x :: E2) = (n, ptv bs x.2.1, x.2.2) :: kvs bs E2 := by rw [← hx]; rfl
    rw [this, findV_mid (kvs_keys h1)]; rfl
  · rw [hf, findV_none (kvs_keys h1)]; rfl
theorem wo_perm {l l' : Names} (h : l.Perm l') (n : Nm) : (wo l n).Perm (wo l' n) := h.filter _
theorem wo_mid {l1 l2 : Names} {n : Nm} {i : Nat} (h1 : ∀ p ∈ l1, ¬ n = p.1) (h2 : ∀ p ∈ l2, ¬ n = p.1) : wo (l1 ++ (n, i) :: l2) n = l1 ++ l2 := by
  unfold wo
  have e1 : l1.filter (fun p => decide (¬ p.1 = n)) = l1 := List.filter_eq_self.2 fun p hp => by simpa using fun e => h1 p hp e.symm
  have e2 : l2.filter (fun p => decide (¬ p.1 = n)) = l2 := List.filter_eq_self.2 fun p hp => by simpa using fun e => h2 p hp e.symm
  rw [List.filter_append, List.filter_cons_of_neg (by simp), e1, e2]
theorem MapOf.del (h : MapOf E ck S) (bs : List Nat) (n : Nm) : ∃ E', delV (kvs bs E) n = kvs bs E' ∧ MapOf E' ck (wo S n) := by
  rcases h.split n with ⟨E1, x, E2, hE, hx, h1, h2, hf⟩ | ⟨h1, hf⟩
  · subst hE
    refine ⟨E1 ++ E2, ?_, ?_, h.srt.mkwo n, ?_, fun y hy => h.lt y ?_⟩
    · have : kvs bs (x :: E2) = (n, ptv bs x.2.1, x.2.2) :: kvs bs E2 := by rw [← hx]; rfl
      rw [kvs_append, this, delV_mid (kvs_keys h1), kvs_append]
    · have := wo_perm h.perm n
      rw [List.map_append, List.map_cons] at this
      rw [← hx] at this h1 h2 ⊢
      rw [wo_mid (fun p hp => by obtain ⟨y, hy, rfl⟩ := List.mem_map.1 hp; exact h1 y hy) (fun p hp => by obtain ⟨y, hy, rfl⟩ := List.mem_map.1 hp; exact h2 y hy)] at this
      rwa [List.map_append]
    · exact h.st.sublist ((List.Sublist.append (List.Sublist.refl _) (List.sublist_cons_self _ _)).map _)
    · simp only [List.mem_append, List.mem_cons] at hy ⊢; exact hy.elim .inl fun h => .inr (.inr h)
  · exact ⟨E, delV_none (kvs_keys h1), by rw [wo_none hf]; exact h⟩
theorem MapOf.put (h : MapOf E ck S) (bs : List Nat) (n : Nm) (f : Nat) : ∃ E', putV (kvs bs E) ck n (ptv bs f) = kvs bs E' ∧ MapOf E' (putCk (kvs bs E) ck n) (wi S n f) := by
  rcases h.split n with ⟨E1, x, E2, hE, hx, h1, h2, hf⟩ | ⟨h1, hf⟩
  · subst hE
    have e1 : kvs bs (x :: E2) = (n, ptv bs x.2.1, x.2.2) :: kvs bs E2 := by rw [← hx]; rfl
    have e2 : kvs bs ((n, f, x.2.2) :: E2) = (n, ptv bs f, x.2.2) :: kvs bs E2 := rfl
    refine ⟨E1 ++ (n, f, x.2.2) :: E2, ?_, ?_, h.srt.mkwi n f, ?_, ?_⟩
    · rw [kvs_append, kvs_append, e1, e2, putV_mid (kvs_keys h1)]
    · refine List.Perm.trans ?_ (wi_perm S n f).symm
      rw [List.map_append, List.map_cons]
      refine List.perm_middle.trans (List.Perm.cons _ ?_)
      have := wo_perm h.perm n
      rw [List.map_append, List.map_cons] at this
      rw [← hx] at this h1 h2 ⊢
      rw [wo_mid (fun p hp => by obtain ⟨y, hy, rfl⟩ := List.mem_map.1 hp; exact h1 y hy) (fun p hp => by obtain ⟨y, hy, rfl⟩ := List.mem_map.1 hp; exact h2 y hy)] at this
      exact this
    · have := h.st
      simpa using this
    · have e3 : putCk (kvs bs (E1 ++ x :: E2)) ck n = ck := by rw [kvs_append, e1, putCk_mid (kvs_keys h1)]
      rw [e3]
      intro y hy
      simp only [List.mem_append, List.mem_cons] at hy
      rcases hy with hy | rfl | hy
      · exact h.lt y (by simp [hy])
      · exact h.lt x (by simp)
      · exact h.lt y (by simp [hy])
  · refine ⟨E ++ [(n, f, ck)], ?_, ?_, h.srt.mkwi n f, ?_, ?_⟩
    · rw [putV_new (kvs_keys h1), kvs_append]; rfl
    · refine List.Perm.trans ?_ (wi_perm S n f).symm
      rw [wo_none hf, List.map_append]
      exact (List.perm_append_singleton _ _).trans (List.Perm.cons _ h.perm)
    · rw [List.map_append, List.nodup_append]
      refine ⟨h.st, by simp, ?_⟩
      intro a ha b hb hab
      simp at hb; subst hb; subst hab
      obtain ⟨x, hx, hxk⟩ := List.mem_map.1 ha
      have := h.lt x hx
      omega
    · rw [putCk_new (kvs_keys h1)]
      intro y hy
      rw [List.mem_append, List.mem_singleton] at hy
      rcases hy with hy | rfl
      · have := h.lt y hy; omega
      · simp
theorem MapOf.mem (h : MapOf E ck S) {x : Ent'} (hx : x ∈ E) : (x.1, x.2.1) ∈ S := h.perm.mem_iff.1 (List.mem_map.2 ⟨x, hx, rfl⟩)
theorem getD_app {bs : List Nat} {i b : Nat} (h : i < bs.length) : (bs ++ [b]).getD i 0 = bs.getD i 0 := by
  simp [List.getD, List.getElem?_append_left h]
theorem kvs_more {E : List Ent'} {b : Nat} (h : ∀ x ∈ E, x.2.1 < bs.length) : kvs (bs ++ [b]) E = kvs bs E := by
  unfold kvs
  apply List.map_congr_left
  intro x hx
  simp only [ptv, getD_app (h x hx)]
end
end Go.Proofs.Ytoodgenbcfdloaa

/- Walks: which text is a file's name; a row's copy. -/
set_option linter.unusedVariables false
set_option linter.unusedSimpArgs false
namespace Go.Proofs.Ytoodgenbcfdloaa
open Go Go.Sl Go.RowKit
set_option maxRecDepth 100000
attribute [local irreducible] CW LW DW FR DP Calls

theorem okc_iff (c : UInt8) : okc c = true ↔ 33 ≤ (c.toNat : Int) ∧ (c.toNat : Int) ≤ 126 ∧ ¬ (c.toNat : Int) = 47 := by
  unfold okc
  simp only [Bool.and_eq_true, decide_eq_true_eq, Bool.not_eq_true', decide_eq_false_iff_not]
  omega
theorem all_next {n : Nm} {i : Int} (h0 : 0 ≤ i) (h1 : i < n.length) (h : (n.take i.toNat).all okc = true) (hc : okc (rd n i) = true) : (n.take (i + 1).toNat).all okc = true := by
  have e : (i + 1).toNat = i.toNat + 1 := by omega
  rw [e, List.take_add_one, rd_get h0 h1, List.all_append, h]
  simpa using hc
theorem all_no {n : Nm} {i : Int} (h0 : 0 ≤ i) (h1 : i < n.length) (hc : ¬ okc (rd n i) = true) : pathB n = false := by
  unfold pathB
  have : n.all okc = false := by
    rw [List.all_eq_false]
    exact ⟨rd n i, List.mem_of_getElem? (rd_get h0 h1), by simpa using hc⟩
  rw [this, Bool.and_false]
theorem path_call (w : World) (n : Nm) (hn : n.length ≤ 140737488355328) :
    Calls Try.prog 58 [sv n].toArray w (Ret fun v w' => v = .bool (pathB n) ∧ Sat w w' []) := by
  refine Calls_of Try.func58 rfl 31 Try.ntmps58 rfl ?_
  have hs := Sat.start w
  (repeat' (first | refine LW_lenN (a := n) TOK rfl rfl rfl rfl rfl ?_ | refine LW_strEq (a := n) (b := []) rfl rfl rfl rfl (fun hne => ?_) (fun hne => ?_) | (refine isLW ?_; first | refine LW_nil ?_ | (refine isLg ?_; first | refine LW_take rfl ?_ | refine LW_pass rfl rfl ?_) | (refine isLbin ?_; first | (refine LW_cmp rfl (fun _ => ?_) (fun _ => ?_) <;> try (exfalso; omega))) | refine LW_pure TOK rfl ?_) | (with_reducible first | refine then_n ?_ | refine CW_seq ?_ | refine CW_region ?_ | refine CW_block ?_ | refine CW_skip ?_ | refine CW_ret ?_ | refine then_r ?_) | refine CW_true rfl ?_ | refine CW_false rfl ?_ | refine RET1 Try.results58 rfl ?_))
  · exact ⟨by rw [hne]; rfl, hs⟩
  · have h40 : (40 : Int) < n.length := by assumption
    refine ⟨?_, hs⟩
    have : pathB n = false := by unfold pathB; rw [decide_eq_false (p := n.length ≤ 40) (by omega)]; simp
    rw [this]
  have h40 : n.length ≤ 40 := by omega
  refine CW_loop (γ := Int) (fun g => [(0, sv n), (13, .int .i64 (n.length : Int)), (14, .int .i64 g)]) (fun g w' => Sat w w' [] ∧ 0 ≤ g ∧ g ≤ n.length ∧ (n.take g.toNat).all okc = true) (fun g => (n.length - g).toNat) 0 ⟨rfl, rfl, rfl, trivial⟩ ⟨hs, by omega, by omega, rfl⟩ ?_
  clear hs
  rintro i τ w' ⟨hs, h0, h1, h2⟩
  try dsimp only
  by_cases hlt : i < n.length
  · by_cases hc : okc (rd n i) = true
    · have hb := (okc_iff _).1 hc
      (repeat' (first | (refine isLW ?_; first | refine LW_nil ?_ | (refine isLg ?_; first | refine LW_take rfl ?_) | (refine isLbin ?_; first | refine LW_i64 rfl (by omega) (by omega) ?_ | (refine LW_cmp rfl (fun _ => ?_) (fun _ => ?_) <;> try (exfalso; omega))) | refine LW_strIdx (a := n) TOK rfl rfl rfl rfl rfl (by omega) (by omega) ?_ | refine LW_pure TOK rfl ?_) | (with_reducible first | refine then_n ?_ | refine CW_seq ?_ | refine CW_region ?_ | refine CW_block ?_ | refine CW_skip ?_ | refine blk_n ?_) | refine CW_true rfl ?_ | refine CW_false rfl ?_))
      exact ⟨i + 1, _, FR_forget _ ⟨rfl, rfl, rfl, trivial⟩, ⟨hs, by omega, by omega, all_next h0 hlt h2 hc⟩, by omega⟩
    · have hb : ¬ (33 ≤ ((rd n i).toNat : Int) ∧ ((rd n i).toNat : Int) ≤ 126 ∧ ¬ ((rd n i).toNat : Int) = 47) := fun h => hc ((okc_iff _).2 h)
      (repeat' (first | (refine isLW ?_; first | refine LW_nil ?_ | (refine isLg ?_; first | refine LW_take rfl ?_ | refine LW_pass rfl rfl ?_) | (refine isLbin ?_; first | (refine LW_cmp rfl (fun _ => ?_) (fun _ => ?_) <;> try (exfalso; omega))) | refine LW_strIdx (a := n) TOK rfl rfl rfl rfl rfl (by omega) (by omega) ?_ | refine LW_pure TOK rfl ?_) | (with_reducible first | refine then_n ?_ | refine CW_seq ?_ | refine CW_region ?_ | refine CW_block ?_ | refine CW_skip ?_ | refine CW_ret ?_ | refine then_r ?_ | refine blk_r ?_) | refine CW_true rfl ?_ | refine RET1 Try.results58 rfl ?_))
      all_goals exact ⟨by rw [all_no h0 hlt hc], hs⟩
  · (repeat' (first | (refine isLW ?_; first | refine LW_nil ?_ | (refine isLbin ?_; first | (refine LW_cmp rfl (fun _ => ?_) (fun _ => ?_) <;> try (exfalso; omega))) | refine LW_pure TOK rfl ?_) | (with_reducible first | refine then_n ?_ | refine CW_seq ?_ | refine CW_region ?_ | refine CW_exit ?_ | refine CW_ret ?_ | refine then_e ?_ | refine blk_same ?_) | refine CW_false rfl ?_ | refine RET1 Try.results58 rfl ?_))
    refine ⟨?_, hs⟩
    rw [List.take_of_length_le (by omega)] at h2
    have : pathB n = true := by
      unfold pathB
      rw [h2, decide_eq_true h40]
      cases n with
      | nil => contradiction
      | cons a l => rfl
    rw [this]
/-- A copy of bytes; nil stays nil. -/
theorem CloneB_call (w : World) (b : List UInt8) (A : Option Addr) (c : Nat) (rb : Rd eB w A b) (hb : b.length ≤ 140737488355328) :
    Calls Try.prog 59 [Value.slice A b.length c].toArray w (Ret fun v w' => ∃ A' c', v = .slice A' b.length c' ∧ Sat w w' [RowOf eB 5 1 A' c' b]) := by
  refine Calls_of Try.func59 rfl 8 Try.ntmps59 rfl ?_
  have hs := Sat.start w
  (repeat' (first | (refine isLW ?_; first | refine LW_nil ?_ | (refine isLcall ?_; first | (refine LW_append 0 (xs := ([] : List UInt8)) eB_ok.1 hs TOK rfl rfl (rb.of hs) eB_ok.2 rfl rfl rfl rfl rfl rfl rfl (by unfold maxLen; simp; omega) (by simp; omega) ?_; clear hs; intro A1 c1 w hs)) | refine LW_sliceNil rfl TOK rfl rfl rfl rfl (fun hA => ?_) (fun a hA => ?_) | (refine LW_buildSlice TOK hs rfl rfl rfl rfl rfl rfl rfl ?_; clear hs; intro b0 w hs; replace hs := hs.toRow (sz := 1) (n0 := 0) 0 rfl rfl (by unfold maxLen; omega)) | refine LW_pure TOK rfl ?_) | (with_reducible first | refine then_n ?_ | refine CW_seq ?_ | refine CW_region ?_ | refine CW_skip ?_ | refine CW_ret ?_ | refine then_r ?_) | refine CW_true rfl ?_ | refine CW_false rfl ?_ | refine RET1 Try.results59 rfl ?_))
  · rcases rb with rb | ⟨x, o, hx, _⟩
    · subst rb
      exact ⟨none, 0, rfl, hs.nilRow 5 1⟩
    · rw [hA] at hx; cases hx
  · exact ⟨A1, c1, rfl, hs⟩
end Go.Proofs.Ytoodgenbcfdloaa
