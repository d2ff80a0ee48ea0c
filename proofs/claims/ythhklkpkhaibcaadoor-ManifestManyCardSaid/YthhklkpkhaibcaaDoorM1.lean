/- Plain: manifests; what a sweep removes. -/
import Derived.Test.YthhklkpkhaibcaaDoorP8
import Derived.Test.YthhklkpkhaibcaaDoorN1
set_option linter.unusedVariables false
set_option linter.unusedSimpArgs false
namespace Go.Proofs.YthhklkpkhaibcaaDoor
/-- A segment as a manifest names it. -/
structure Sg where
  num : Int
  size : Int
  cnt : Int
  deriving Inhabited, DecidableEq
structure Mn where
  gen : Int
  v : Int
  next : Int
  top : Int
  segs : List Sg
def prevN (l : List Sg) (i : Nat) : Int := if i = 0 then 0 else (l.getD (i - 1) default).num
def okSeg (next : Int) (l : List Sg) (i : Nat) : Prop :=
  prevN l i < (l.getD i default).num ∧ (l.getD i default).num < next ∧
  (if i + 1 = l.length then (l.getD i default).size = 0 ∧ (l.getD i default).cnt = 0 else 1 ≤ (l.getD i default).size ∧ (l.getD i default).size ≤ 524288 ∧ 0 ≤ (l.getD i default).cnt ∧ (l.getD i default).cnt ≤ 524288)
structure OkM (m : Mn) : Prop where
  gen : 1 ≤ m.gen ∧ m.gen ≤ 1099511627776
  v : 1 ≤ m.v ∧ m.v ≤ 3
  next : 1 ≤ m.next ∧ m.next ≤ 1099511627776
  top : 0 ≤ m.top
  len : 1 ≤ m.segs.length ∧ m.segs.length ≤ 128
  seg : ∀ i, i < m.segs.length → okSeg m.next m.segs i
def tmpN : Nm := [77, 65, 78, 73, 70, 69, 83, 84, 46, 116, 109, 112]
def named (l : List Sg) (k : Int) : Bool := l.any fun s => decide (s.num = k)
/-- Does a sweep remove the name? -/
def swp (l : List Sg) (n : Nm) : Bool := decide (n = tmpN) || ((numG n).2 && !named l (numG n).1)
/-- Names removed, one behind the other, till one is refused. -/
def rmv : DS → List Nm → Int × DS × List Nm
  | D, [] => (0, D, [])
  | D, x :: xs => if (D.remove x).1 = 0 then ((rmv (D.remove x).2 xs).1, (rmv (D.remove x).2 xs).2.1, x :: (rmv (D.remove x).2 xs).2.2) else ((D.remove x).1, (D.remove x).2, [])
/-- What a sweep answers (for a manifest that may be), and the disk behind it. -/
def sweepM (D : DS) (l : List Sg) : Int × DS × List Nm :=
  if D.down = true then (60, D, []) else
  let r := rmv D (D.list.filter (swp l))
  if r.1 = 0 then (if r.2.2 = [] then (0, r.2.1, []) else if r.2.1.syncdir.1 = 0 then (0, r.2.1.syncdir.2, r.2.2) else (r.2.1.syncdir.1, r.2.1.syncdir.2, [])) else (r.1, r.2.1, [])
theorem OkM.small {m : Mn} (h : OkM m) {s : Sg} (hs : s ∈ m.segs) : s.num < 1099511627776 := by
  obtain ⟨i, hi, rfl⟩ := List.getElem_of_mem hs
  have h1 := (h.seg i hi).2.1
  have h2 := h.next.2
  have e : m.segs.getD i default = m.segs[i] := by simp [List.getD, hi]
  rw [e] at h1
  omega
def smallM : Mn := ⟨1, 3, 2, 0, [⟨1, 0, 0⟩]⟩
theorem smallM_ok : OkM smallM := ⟨by decide, by decide, by decide, by decide, by decide, fun i hi => by
  have : i = 0 := by simp [smallM] at hi; exact hi
  subst this
  simp [okSeg, smallM, prevN]⟩
/- WHAT A SWEEP LEAVES -/
def keepN (l : Names) (G : List Nm) : Names := l.filter fun p => decide (p.1 ∉ G)
def rmc (n : Nm) : Chg := ⟨n, [], none⟩
theorem keep_nil (l : Names) : keepN l [] = l := by unfold keepN; simp
theorem keep_snoc (l : Names) (G : List Nm) (x : Nm) : keepN l (G ++ [x]) = wo (keepN l G) x := by
  unfold keepN wo
  rw [List.filter_filter]
  congr 1
  funext p
  simp only [List.mem_append, List.mem_singleton, not_or]
  rw [Bool.decide_and, Bool.and_comm]
theorem doC_rm {l : Names} {n : Nm} (h : n ≠ []) : doC l (rmc n) = wo l n := by
  unfold doC rmc
  simp [h]
theorem fold_rm : ∀ {G H : List Nm} {l : Names}, (∀ n ∈ G, n ≠ []) → (G.map rmc).foldl doC (keepN l H) = keepN l (H ++ G)
  | [], H, l, _ => by simp
  | x :: G, H, l, h => by
    rw [List.map_cons, List.foldl_cons, doC_rm (h x List.mem_cons_self), ← keep_snoc, fold_rm (fun n hn => h n (List.mem_cons_of_mem _ hn)), List.append_assoc]; rfl
/-- A disk out of which names were removed, one behind the other. -/
structure SwS (n0 : Names) (fs : List Fl) (D : DS) (G : List Nm) : Prop where
  las : D.las = n0
  fs : D.fs = fs
  chs : D.chs = G.map rmc
  now : D.now = keepN n0 G
theorem turn_cases (D : DS) : (D.turn.1 = 0 ∧ D.turn.2.down = D.down) ∨ (D.turn.1 = 60 ∧ D.turn.2.down = true) := by
  unfold DS.turn
  split
  · exact .inl ⟨rfl, rfl⟩
  · exact .inr ⟨rfl, rfl⟩
  · exact .inl ⟨rfl, rfl⟩
theorem keep_mem {l : Names} {G : List Nm} {p : Nm × Nat} : p ∈ keepN l G ↔ p ∈ l ∧ p.1 ∉ G := by unfold keepN; simp
theorem remove_spec {n0 : Names} {fs : List Fl} {D : DS} {G : List Nm} {x : Nm} (h : SwS n0 fs D G) (hd : D.down = false) (hx : x ∈ n0.map (·.1)) (hp : pathB x = true) (hG : x ∉ G) :
    ((D.remove x).1 = 0 ∧ (D.remove x).2.down = false ∧ SwS n0 fs (D.remove x).2 (G ++ [x])) ∨ ((D.remove x).1 = 60 ∧ (D.remove x).2.down = true ∧ SwS n0 fs (D.remove x).2 G) := by
  obtain ⟨p, hp1, rfl⟩ := List.mem_map.1 hx
  have hf : (D.find p.1).1 = 0 := by
    unfold DS.find
    rw [hd, hp, if_neg (by simp), if_neg (by simp)]
    cases e : fnd D.now p.1 with
    | none =>
      have := fnd_none.1 e p (by rw [h.now]; exact keep_mem.2 ⟨hp1, hG⟩)
      exact absurd rfl this
    | some i => rfl
  obtain ⟨e1, e2, e3, e4, e5⟩ := turn_fields D
  unfold DS.remove
  rw [if_pos hf]
  unfold DS.note
  rcases turn_cases D with ⟨t1, t2⟩ | ⟨t1, t2⟩
  · rw [if_pos t1]
    refine .inl ⟨rfl, by show D.turn.2.down = false; rw [t2, hd], ⟨?_, ?_, ?_, ?_⟩⟩
    · show D.turn.2.las = n0; rw [e3, h.las]
    · show D.turn.2.fs = fs; rw [e1, h.fs]
    · show D.turn.2.chs ++ [_] = _; rw [e4, h.chs, List.map_append]; rfl
    · show doC D.turn.2.now (rmc p.1) = keepN n0 (G ++ [p.1])
      rw [e2, h.now, doC_rm (pathB_ne hp), keep_snoc]
  · rw [if_neg (by rw [t1]; decide)]
    exact .inr ⟨t1, t2, ⟨by rw [e3, h.las], by rw [e1, h.fs], by rw [e4, h.chs], by rw [e2, h.now]⟩⟩
theorem rmv_spec : ∀ {xs : List Nm} {n0 : Names} {fs : List Fl} {D : DS} {G : List Nm}, SwS n0 fs D G → D.down = false → (∀ x ∈ xs, x ∈ n0.map (·.1) ∧ pathB x = true ∧ x ∉ G) → xs.Nodup →
    ((rmv D xs).1 = 0 ∧ (rmv D xs).2.2 = xs ∧ (rmv D xs).2.1.down = false ∧ SwS n0 fs (rmv D xs).2.1 (G ++ xs)) ∨ ((rmv D xs).1 = 60 ∧ (rmv D xs).2.1.down = true ∧ ∃ ys, (∀ y ∈ ys, y ∈ xs) ∧ SwS n0 fs (rmv D xs).2.1 (G ++ ys))
  | [], n0, fs, D, G, h, hd, _, _ => .inl ⟨rfl, rfl, hd, by rw [List.append_nil]; exact h⟩
  | x :: xs, n0, fs, D, G, h, hd, hx, hn => by
    obtain ⟨h1, h2, h3⟩ := hx x List.mem_cons_self
    obtain ⟨n1, n2⟩ := List.nodup_cons.1 hn
    unfold rmv
    rcases remove_spec h hd h1 h2 h3 with ⟨r1, r2, r3⟩ | ⟨r1, r2, r3⟩
    · rw [if_pos r1]
      have := rmv_spec (xs := xs) r3 r2 (fun y hy => ⟨(hx y (List.mem_cons_of_mem _ hy)).1, (hx y (List.mem_cons_of_mem _ hy)).2.1, fun hm => by
        rcases List.mem_append.1 hm with hm | hm
        · exact (hx y (List.mem_cons_of_mem _ hy)).2.2 hm
        · rw [List.mem_singleton.1 hm] at hy; exact n1 hy⟩) n2
      rw [List.append_assoc] at this
      rcases this with ⟨q1, q2, q3, q4⟩ | ⟨q1, q2, ys, q3, q4⟩
      · exact .inl ⟨q1, by dsimp only; rw [q2], q3, q4⟩
      · rw [List.append_assoc] at q4
        exact .inr ⟨q1, q2, x :: ys, fun y hy => by
          rcases List.mem_cons.1 hy with rfl | hy
          · exact List.mem_cons_self
          · exact List.mem_cons_of_mem _ (q3 y hy), q4⟩
    · rw [if_neg (by rw [r1]; decide)]
      exact .inr ⟨r1, r2, [], (fun y hy => by cases hy), by rw [List.append_nil]; exact r3⟩
end Go.Proofs.YthhklkpkhaibcaaDoor
