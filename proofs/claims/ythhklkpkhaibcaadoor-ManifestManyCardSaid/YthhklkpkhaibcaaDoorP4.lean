/- Plain: what a disk is as far as its parts fit; loading. -/
import Derived.Test.YthhklkpkhaibcaaDoorP3
set_option linter.unusedVariables false
set_option linter.unusedSimpArgs false
namespace Go.Proofs.YthhklkpkhaibcaaDoor
structure St (D : DS) : Prop where
  srtL : Srt D.las
  ok : OkC D.las D.chs
  fold : D.now = D.chs.foldl doC D.las
  idN : D.ids.Nodup
  idlt : ∀ i ∈ D.ids, i < D.fs.length
  syn : ∀ f ∈ D.fs, f.syn ≤ f.data.length
  pathL : ∀ p ∈ D.las, pathB p.1 = true
theorem Good.st {D : DS} (h : Good D) : St D := ⟨h.srtL, h.ok, h.fold, h.idN, h.idlt, h.syn, h.pathL⟩
theorem St.kept {D : DS} (h : St D) (k : Nat) : Kept D.las (D.chs.take k) ((D.chs.take k).foldl doC D.las) :=
  fold_kept h.srtL (h.ok.take k) (h.idN.sublist ((List.Sublist.refl _).append (madeL_take _ _))) h.pathL
theorem St.keptNow {D : DS} (h : St D) : Kept D.las D.chs D.now := by
  rw [h.fold]; exact fold_kept h.srtL h.ok h.idN h.pathL
theorem St.ltNow {D : DS} (h : St D) {i : Nat} (hi : i ∈ idsL D.now) : i < D.fs.length := h.idlt i (h.keptNow.sub i hi)
theorem St.ltKept {D : DS} (h : St D) {k i : Nat} (hi : i ∈ idsL ((D.chs.take k).foldl doC D.las)) : i < D.fs.length := by
  refine h.idlt i ?_
  rcases List.mem_append.1 ((h.kept k).sub i hi) with h1 | h1
  · exact List.mem_append_left _ h1
  · exact List.mem_append_right _ ((madeL_take _ _).subset h1)
def sumLen (l : List File) : Nat := (l.map fun f => f.2.length).sum
def loadGo : List Fl → Names → List File → Int ⊕ (List Fl × Names)
  | fs, now, [] => .inr (fs, now)
  | fs, now, f :: l => if pathB f.1 = false then .inl 61 else if (fnd now f.1).isSome = true then .inl 62 else loadGo (fs ++ [⟨f.2, f.2.length⟩]) (wi now f.1 fs.length) l
structure LSt (fs : List Fl) (now : Names) (l : List File) : Prop where
  srt : Srt now
  nd : (idsL now).Nodup
  lt : ∀ i ∈ idsL now, i < fs.length
  fsE : fs = l.map fun f => ⟨f.2, f.2.length⟩
  path : ∀ p ∈ now, pathB p.1 = true
  sum : ((idsL now).map fun i => (fs.getD i default).data.length).sum = sumLen l
  look : ∀ f ∈ l, ∃ i, fnd now f.1 = some i ∧ (fs.getD i default).data = f.2
  keys : (now.map (·.1)).Perm (l.map (·.1))
theorem LSt.nil : LSt [] [] [] := ⟨List.Pairwise.nil, by simp [idsL], by simp [idsL], rfl, by simp, rfl, by simp, List.Perm.refl _⟩
theorem LSt.snoc {fs : List Fl} {now : Names} {l : List File} (h : LSt fs now l) (f : File) (hp : pathB f.1 = true) (hn : fnd now f.1 = none) :
    LSt (fs ++ [⟨f.2, f.2.length⟩]) (wi now f.1 fs.length) (l ++ [f]) := by
  have hperm : (idsL (wi now f.1 fs.length)).Perm (fs.length :: idsL now) := by
    have := ids_wi_perm now f.1 fs.length
    rwa [wo_none hn] at this
  have hsame : ((idsL now).map fun i => ((fs ++ [(⟨f.2, f.2.length⟩ : Fl)]).getD i default).data.length) = (idsL now).map fun i => (fs.getD i default).data.length :=
    List.map_congr_left fun i hi => by rw [getD_app_lt (h.lt i hi)]
  refine ⟨h.srt.mkwi _ _, ?_, ?_, by rw [h.fsE]; simp, ?_, ?_, ?_, ?_⟩
  · refine hperm.nodup_iff.2 (List.nodup_cons.2 ⟨fun hi => absurd (h.lt _ hi) (Nat.lt_irrefl _), h.nd⟩)
  · intro i hi
    rw [List.length_append, List.length_singleton]
    rcases List.mem_cons.1 (hperm.mem_iff.1 hi) with rfl | hi
    · omega
    · have := h.lt i hi; omega
  · intro p hp'
    rcases mem_wi.1 hp' with rfl | hp'
    · exact hp
    · exact h.path p hp'.1
  · rw [(hperm.map _).sum_nat, List.map_cons, List.sum_cons, hsame, h.sum]
    simp [List.getD, sumLen]; omega
  · intro g hg
    rcases List.mem_append.1 hg with hg | hg
    · obtain ⟨i, h1, h2⟩ := h.look g hg
      have hne : ¬ g.1 = f.1 := fun e => by rw [e, hn] at h1; cases h1
      refine ⟨i, by rw [fnd_wi h.srt, if_neg hne]; exact h1, ?_⟩
      rw [getD_app_lt (h.lt i (List.mem_map.2 ⟨_, fnd_mem h1, rfl⟩))]; exact h2
    · simp at hg; subst hg
      exact ⟨fs.length, by rw [fnd_wi h.srt, if_pos rfl], by simp [List.getD]⟩
  · have h1 := (wi_perm now f.1 fs.length).map (·.1)
    rw [wo_none hn] at h1
    rw [List.map_append]
    exact h1.trans ((List.Perm.cons _ h.keys).trans (List.perm_append_singleton _ _).symm)
theorem loadGo_ok : ∀ {l : List File} {fs : List Fl} {now : Names} {l0 : List File} {fs' : List Fl} {now' : Names}, LSt fs now l0 → loadGo fs now l = .inr (fs', now') → LSt fs' now' (l0 ++ l)
  | [], fs, now, l0, fs', now', h, e => by cases e; simpa using h
  | f :: l, fs, now, l0, fs', now', h, e => by
    unfold loadGo at e
    split at e
    · cases e
    split at e
    · cases e
    · rename_i h1 h2
      have := loadGo_ok (h.snoc f (by simpa using h1) (by simpa using h2)) e
      simpa using this
/-- Load, the sum of the bytes told beside. -/
def load (q : Int) (s : Int) (files : List File) : Int × DS :=
  if q < 0 ∨ 4194304 < q then (1, newD 0) else match loadGo [] [] files with
    | .inl e => (e, newD 0)
    | .inr (fs, now) => if q < s then (64, newD 0) else (0, ⟨q.toNat, fs, now, now, [], none, false⟩)
theorem LSt.st {fs : List Fl} {now : Names} {l : List File} (h : LSt fs now l) (q : Nat) : St ⟨q, fs, now, now, [], none, false⟩ :=
  ⟨h.srt, trivial, rfl, by simpa [DS.ids, madeL] using h.nd, by simpa [DS.ids, madeL] using h.lt, by rw [h.fsE]; intro f hf; obtain ⟨g, _, rfl⟩ := List.mem_map.1 hf; exact Nat.le_refl _, h.path⟩
theorem LSt.good {fs : List Fl} {now : Names} {l : List File} (h : LSt fs now l) {q : Nat} (hq : q ≤ 4194304) (hs : sumLen l ≤ q) : Good ⟨q, fs, now, now, [], none, false⟩ := by
  have s := h.st q
  refine ⟨s.srtL, s.ok, s.fold, s.idN, s.idlt, s.syn, s.pathL, ?_, hq⟩
  rw [taken_eq]
  show ((idsL now ++ madeL []).map fun i => (fs.getD i default).data.length).sum ≤ q
  simp only [madeL, List.filterMap_nil, List.append_nil]
  rw [h.sum]; exact hs
theorem load_good {q : Int} {files : List File} (h : (load q (sumLen files) files).1 = 0) : Good (load q (sumLen files) files).2 ∧ ∃ fs now, LSt fs now files ∧ (load q (sumLen files) files).2 = ⟨q.toNat, fs, now, now, [], none, false⟩ := by
  unfold load at h ⊢
  split at h
  · cases h
  rename_i hq
  rw [if_neg hq]
  split at h
  · rename_i e he
    have : ∀ {l : List File} {fs : List Fl} {now : Names} {e : Int}, loadGo fs now l = .inl e → e = 61 ∨ e = 62 := by
      intro l
      induction l with
      | nil => intro fs now e h; cases h
      | cons f l ih =>
        intro fs now e h
        unfold loadGo at h
        split at h
        · cases h; exact .inl rfl
        split at h
        · cases h; exact .inr rfl
        · exact ih h
    rcases this he with h2 | h2 <;> rw [h2] at h <;> cases h
  · rename_i fs now he
    split at h
    · cases h
    · rename_i hs
      simp only [if_neg hs]
      have := loadGo_ok .nil he
      rw [List.nil_append] at this
      exact ⟨this.good (by omega) (by omega), fs, now, this, rfl⟩
end Go.Proofs.YthhklkpkhaibcaaDoor
