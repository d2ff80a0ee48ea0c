/- Plain: what holds of a disk behind every call. -/
import Derived.Test.YthhklkpkhaibcaaDoorP1
set_option linter.unusedVariables false
set_option linter.unusedSimpArgs false
namespace Go.Proofs.YthhklkpkhaibcaaDoor
def okC (l : Names) (c : Chg) : Prop := (c.a = [] ∧ c.made.isSome = true ∧ pathB c.b = true ∧ fnd l c.b = none) ∨ (pathB c.a = true ∧ c.made = none ∧ (fnd l c.a).isSome = true ∧ (c.b = [] ∨ pathB c.b = true))
def OkC : Names → List Chg → Prop
  | _, [] => True
  | l, c :: cs => okC l c ∧ OkC (doC l c) cs
def madeL (cs : List Chg) : List Nat := cs.filterMap (·.made)
def idsL (l : Names) : List Nat := l.map (·.2)
def DS.ids (D : DS) : List Nat := idsL D.las ++ madeL D.chs
structure Good (D : DS) : Prop where
  srtL : Srt D.las
  ok : OkC D.las D.chs
  fold : D.now = D.chs.foldl doC D.las
  idN : D.ids.Nodup
  idlt : ∀ i ∈ D.ids, i < D.fs.length
  syn : ∀ f ∈ D.fs, f.syn ≤ f.data.length
  pathL : ∀ p ∈ D.las, pathB p.1 = true
  room : D.taken ≤ D.quota
  quota : D.quota ≤ 4194304
/-- What a change comes to. -/
theorem doC_cases {l : Names} {c : Chg} (h : okC l c) : (∃ i, c.made = some i ∧ c.a = [] ∧ pathB c.b = true ∧ fnd l c.b = none ∧ doC l c = wi l c.b i) ∨ (∃ i, c.made = none ∧ pathB c.a = true ∧ fnd l c.a = some i ∧ ((c.b = [] ∧ doC l c = wo l c.a) ∨ (pathB c.b = true ∧ doC l c = wi (wo l c.a) c.b i))) := by
  rcases h with ⟨h1, h2, h3, h4⟩ | ⟨h1, h2, h3, h4⟩
  · obtain ⟨i, hi⟩ := Option.isSome_iff_exists.1 h2
    refine .inl ⟨i, hi, h1, h3, h4, ?_⟩
    unfold doC
    simp [h1, hi, pathB_ne h3]
  · obtain ⟨i, hi⟩ := Option.isSome_iff_exists.1 h3
    refine .inr ⟨i, h2, h1, hi, ?_⟩
    rcases h4 with h4 | h4
    · refine .inl ⟨h4, ?_⟩
      unfold doC; simp [h4, pathB_ne h1]
    · refine .inr ⟨h4, ?_⟩
      unfold doC; simp [hi, pathB_ne h1, pathB_ne h4]
theorem Srt.doC {l : Names} (h : Srt l) {c : Chg} (hc : okC l c) : Srt (doC l c) := by
  rcases doC_cases hc with ⟨i, _, _, _, _, e⟩ | ⟨i, _, _, _, ⟨_, e⟩ | ⟨_, e⟩⟩ <;> rw [e]
  · exact h.mkwi _ _
  · exact h.mkwo _
  · exact (h.mkwo _).mkwi _ _
theorem ids_wo_sub {l : Names} {n : Nm} : (idsL (wo l n)).Sublist (idsL l) := (List.filter_sublist).map _
theorem ids_wi_perm (l : Names) (n : Nm) (f : Nat) : (idsL (wi l n f)).Perm (f :: idsL (wo l n)) := (wi_perm l n f).map _
theorem nd_doC {l : Names} {c : Chg} {cs : List Chg} (hl : Srt l) (hc : okC l c) (h : (idsL l ++ madeL (c :: cs)).Nodup) : (idsL (doC l c) ++ madeL cs).Nodup := by
  rcases doC_cases hc with ⟨i, hm, _, _, hn, e⟩ | ⟨i, hm, _, hf, ⟨_, e⟩ | ⟨_, e⟩⟩ <;> rw [e]
  · have h1 : madeL (c :: cs) = i :: madeL cs := by simp [madeL, hm]
    rw [h1] at h
    refine ((ids_wi_perm l c.b i).append_right _).nodup_iff.2 ?_
    rw [wo_none hn]
    exact (List.perm_middle (l₁ := idsL l) (l₂ := madeL cs) (a := i)).nodup_iff.1 h
  · have h1 : madeL (c :: cs) = madeL cs := by simp [madeL, hm]
    rw [h1] at h
    exact h.sublist (ids_wo_sub.append (List.Sublist.refl _))
  · have h1 : madeL (c :: cs) = madeL cs := by simp [madeL, hm]
    rw [h1] at h
    refine ((ids_wi_perm (wo l c.a) c.b i).append_right _).nodup_iff.2 ?_
    refine List.Nodup.sublist (l₂ := i :: idsL (wo l c.a) ++ madeL cs) ((ids_wo_sub.cons_cons i).append (List.Sublist.refl _)) ?_
    have hp : (idsL l).Perm (i :: idsL (wo l c.a)) := by
      have hmem := fnd_mem hf
      obtain ⟨l1, l2, rfl⟩ := List.append_of_mem hmem
      have h2 : wo (l1 ++ (c.a, i) :: l2) c.a = l1 ++ l2 := by
        have hk : ∀ p ∈ l1 ++ (c.a, i) :: l2, p.1 = c.a → p = (c.a, i) := fun p hp he => hl.key hp hmem he
        have hnd : (l1 ++ (c.a, i) :: l2).Nodup := by
          have := List.nodup_append.1 h
          exact List.Pairwise.of_map (·.2) (fun a b hab e => hab (e ▸ rfl)) this.1
        have hn := (List.perm_middle (l₁ := l1) (l₂ := l2) (a := (c.a, i))).nodup_iff.1 hnd
        have hni := (List.nodup_cons.1 hn).1
        unfold wo
        have e1 : l1.filter (fun p => decide (¬ p.1 = c.a)) = l1 := List.filter_eq_self.2 fun p hp => by
          have : ¬ p.1 = c.a := fun e => hni (hk p (by simp [hp]) e ▸ (by simp [hp]))
          simpa using this
        have e2 : l2.filter (fun p => decide (¬ p.1 = c.a)) = l2 := List.filter_eq_self.2 fun p hp => by
          have : ¬ p.1 = c.a := fun e => hni (hk p (by simp [hp]) e ▸ (by simp [hp]))
          simpa using this
        rw [List.filter_append, List.filter_cons_of_neg (by simp), e1, e2]
      rw [h2]
      unfold idsL
      rw [List.map_append, List.map_cons, List.map_append]
      exact List.perm_middle
    exact (hp.append_right _).nodup_iff.1 h
theorem sub_doC {l : Names} {c : Chg} (hc : okC l c) {i : Nat} (h : i ∈ idsL (doC l c)) : i ∈ idsL l ∨ c.made = some i := by
  rcases doC_cases hc with ⟨j, hm, _, _, _, e⟩ | ⟨j, hm, _, hf, ⟨_, e⟩ | ⟨_, e⟩⟩ <;> rw [e] at h
  · rcases List.mem_cons.1 ((ids_wi_perm l c.b j).mem_iff.1 h) with rfl | h
    · exact .inr hm
    · exact .inl (ids_wo_sub.subset h)
  · exact .inl (ids_wo_sub.subset h)
  · rcases List.mem_cons.1 ((ids_wi_perm _ c.b j).mem_iff.1 h) with rfl | h
    · exact .inl (List.mem_map.2 ⟨_, fnd_mem hf, rfl⟩)
    · exact .inl (ids_wo_sub.subset (ids_wo_sub.subset h))
theorem path_doC {l : Names} {c : Chg} (hc : okC l c) (hl : ∀ p ∈ l, pathB p.1 = true) : ∀ p ∈ doC l c, pathB p.1 = true := by
  intro p hp
  rcases doC_cases hc with ⟨j, hm, _, hb, _, e⟩ | ⟨j, hm, _, hf, ⟨_, e⟩ | ⟨hb, e⟩⟩ <;> rw [e] at hp
  · rcases mem_wi.1 hp with rfl | hp
    · exact hb
    · exact hl p hp.1
  · exact hl p (mem_wo.1 hp).1
  · rcases mem_wi.1 hp with rfl | hp
    · exact hb
    · exact hl p (mem_wo.1 hp.1).1
/-- All that holds of the names behind some of the changes. -/
structure Kept (l : Names) (cs : List Chg) (l' : Names) : Prop where
  srt : Srt l'
  nd : (idsL l').Nodup
  sub : ∀ i ∈ idsL l', i ∈ idsL l ++ madeL cs
  path : ∀ p ∈ l', pathB p.1 = true
theorem fold_kept : ∀ {cs : List Chg} {l : Names}, Srt l → OkC l cs → (idsL l ++ madeL cs).Nodup → (∀ p ∈ l, pathB p.1 = true) → Kept l cs (cs.foldl doC l)
  | [], l, h1, _, h3, h4 => ⟨h1, (List.nodup_append.1 h3).1, fun i hi => List.mem_append_left _ hi, h4⟩
  | c :: cs, l, h1, h2, h3, h4 => by
    obtain ⟨hc, hcs⟩ := h2
    have h := fold_kept (cs := cs) (h1.doC hc) hcs (nd_doC h1 hc h3) (path_doC hc h4)
    refine ⟨h.srt, h.nd, fun i hi => ?_, h.path⟩
    rcases List.mem_append.1 (h.sub i hi) with h5 | h5
    · rcases sub_doC hc h5 with h6 | h6
      · exact List.mem_append_left _ h6
      · exact List.mem_append_right _ (by simp [madeL, h6])
    · refine List.mem_append_right _ ?_
      unfold madeL at h5 ⊢
      rw [List.mem_filterMap] at h5 ⊢
      obtain ⟨x, hx, hx2⟩ := h5
      exact ⟨x, List.mem_cons_of_mem _ hx, hx2⟩
theorem OkC.take : ∀ {cs : List Chg} {l : Names}, OkC l cs → ∀ k, OkC l (cs.take k)
  | [], _, _, k => by simp [OkC]
  | c :: cs, l, h, 0 => by simp [OkC]
  | c :: cs, l, h, k + 1 => ⟨h.1, h.2.take k⟩
theorem OkC.snoc : ∀ {cs : List Chg} {l : Names} {c : Chg}, OkC l cs → okC (cs.foldl doC l) c → OkC l (cs ++ [c])
  | [], _, _, _, h => ⟨h, trivial⟩
  | x :: cs, l, c, h, hc => ⟨h.1, h.2.snoc hc⟩
theorem madeL_take (cs : List Chg) (k : Nat) : (madeL (cs.take k)).Sublist (madeL cs) := (List.take_sublist k cs).filterMap _
theorem Good.kept {D : DS} (h : Good D) (k : Nat) : Kept D.las (D.chs.take k) ((D.chs.take k).foldl doC D.las) :=
  fold_kept h.srtL (h.ok.take k) (h.idN.sublist ((List.Sublist.refl _).append (madeL_take _ _))) h.pathL
theorem Good.keptNow {D : DS} (h : Good D) : Kept D.las D.chs D.now := by
  rw [h.fold]; exact fold_kept h.srtL h.ok h.idN h.pathL
theorem Good.subNow {D : DS} (h : Good D) {i : Nat} (hi : i ∈ idsL D.now) : i ∈ D.ids := h.keptNow.sub i hi
theorem Good.ltNow {D : DS} (h : Good D) {i : Nat} (hi : i ∈ idsL D.now) : i < D.fs.length := h.idlt i (h.subNow hi)
theorem Good.ltFnd {D : DS} (h : Good D) {n : Nm} {i : Nat} (hi : fnd D.now n = some i) : i < D.fs.length := h.ltNow (List.mem_map.2 ⟨_, fnd_mem hi, rfl⟩)
/- SUMS -/
theorem sum_sub {f : Nat → Nat} : ∀ {l l' : List Nat}, l.Nodup → (∀ i ∈ l, i ∈ l') → (l.map f).sum ≤ (l'.map f).sum
  | [], l', _, _ => by simp
  | x :: l, l', hn, hs => by
    obtain ⟨h1, h2⟩ := List.nodup_cons.1 hn
    obtain ⟨a, b, rfl⟩ := List.append_of_mem (hs x List.mem_cons_self)
    have := sum_sub (f := f) (l := l) (l' := a ++ b) h2 (fun i hi => by
      have h3 := hs i (List.mem_cons_of_mem _ hi)
      simp only [List.mem_append, List.mem_cons] at h3 ⊢
      rcases h3 with h3 | h3 | h3
      · exact .inl h3
      · subst h3; exact absurd hi h1
      · exact .inr h3)
    simp at this ⊢; omega
theorem sum_one {f g : Nat → Nat} {j : Nat} (hj : ∀ i, i ≠ j → g i = f i) : ∀ {l : List Nat}, l.Nodup → j ∈ l → (l.map g).sum + f j = (l.map f).sum + g j
  | [], _, h => by cases h
  | x :: l, hn, h => by
    obtain ⟨h1, h2⟩ := List.nodup_cons.1 hn
    rcases List.mem_cons.1 h with rfl | h
    · have : l.map g = l.map f := List.map_congr_left fun i hi => hj i (fun e => h1 (e ▸ hi))
      simp [this]; omega
    · have := sum_one hj h2 h
      have hx : g x = f x := hj x (fun e => h1 (e ▸ h))
      simp [hx]; omega
theorem taken_eq (D : DS) : D.taken = (D.ids.map fun i => (D.dat i).length).sum := by
  have h : ∀ cs : List Chg, (cs.map fun c => lenM D.fs c.made).sum = ((madeL cs).map fun i => (D.dat i).length).sum := by
    intro cs
    induction cs with
    | nil => rfl
    | cons c cs ih =>
      cases hm : c.made with
      | none =>
        have e : madeL (c :: cs) = madeL cs := by simp [madeL, hm]
        rw [e, List.map_cons, List.sum_cons, ih, hm]; simp [lenM]
      | some i =>
        have e : madeL (c :: cs) = i :: madeL cs := by simp [madeL, hm]
        rw [e, List.map_cons, List.sum_cons, ih, hm, List.map_cons, List.sum_cons]; rfl
  unfold DS.taken DS.lenL DS.lenC DS.ids
  rw [h, List.map_append, List.sum_append]
  congr 2
  unfold idsL
  rw [List.map_map]; rfl
/- BEHIND A CALL -/
theorem Good.left {D : DS} (h : Good D) (x : Option Nat) (b : Bool) : Good { D with left := x, down := b } := ⟨h.srtL, h.ok, h.fold, h.idN, h.idlt, h.syn, h.pathL, h.room, h.quota⟩
theorem Good.turn {D : DS} (h : Good D) : Good D.turn.2 := by
  unfold DS.turn
  split
  · exact h
  · exact h.left _ true
  · exact h.left _ _
theorem turn_fields (D : DS) : D.turn.2.fs = D.fs ∧ D.turn.2.now = D.now ∧ D.turn.2.las = D.las ∧ D.turn.2.chs = D.chs ∧ D.turn.2.quota = D.quota := by
  unfold DS.turn
  split <;> exact ⟨rfl, rfl, rfl, rfl, rfl⟩
theorem Good.noted {D : DS} (h : Good D) {c : Chg} (hm : c.made = none) (hc : okC D.now c) : Good (D.noted c) := by
  have e : madeL (D.chs ++ [c]) = madeL D.chs := by simp [madeL, hm]
  refine ⟨h.srtL, h.ok.snoc (h.fold ▸ hc), ?_, ?_, ?_, h.syn, h.pathL, ?_, h.quota⟩
  · show doC D.now c = (D.chs ++ [c]).foldl doC D.las
    rw [List.foldl_append, ← h.fold]; rfl
  · show (idsL D.las ++ madeL (D.chs ++ [c])).Nodup
    rw [e]; exact h.idN
  · show ∀ i ∈ idsL D.las ++ madeL (D.chs ++ [c]), _
    rw [e]; exact h.idlt
  · have := h.room
    rw [taken_eq] at this ⊢
    show ((idsL D.las ++ madeL (D.chs ++ [c])).map _).sum ≤ _
    rw [e]; exact this
theorem getD_app_lt {fs : List Fl} {x : Fl} {i : Nat} (h : i < fs.length) : (fs ++ [x]).getD i default = fs.getD i default := by
  simp [List.getD, List.getElem?_append_left h]
theorem Good.made {D : DS} (h : Good D) {n : Nm} (hn : pathB n = true) (hf : fnd D.now n = none) : Good (DS.noted { D with fs := D.fs ++ [⟨[], 0⟩] } ⟨[], n, some D.fs.length⟩) := by
  have e : madeL (D.chs ++ [⟨[], n, some D.fs.length⟩]) = madeL D.chs ++ [D.fs.length] := by simp [madeL]
  have e2 : DS.ids (DS.noted { D with fs := D.fs ++ [⟨[], 0⟩] } ⟨[], n, some D.fs.length⟩) = D.ids ++ [D.fs.length] := by
    show idsL D.las ++ madeL (D.chs ++ [⟨[], n, some D.fs.length⟩]) = _
    rw [e, ← List.append_assoc]; rfl
  refine ⟨h.srtL, h.ok.snoc (h.fold ▸ .inl ⟨rfl, rfl, hn, hf⟩), ?_, ?_, ?_, ?_, h.pathL, ?_, h.quota⟩
  · show doC D.now _ = (D.chs ++ [_]).foldl doC D.las
    rw [List.foldl_append, ← h.fold]; rfl
  · rw [e2, List.nodup_append]
    refine ⟨h.idN, by simp, ?_⟩
    intro a ha b hb hab
    simp at hb; subst hb; subst hab
    exact absurd (h.idlt _ ha) (Nat.lt_irrefl _)
  · rw [e2]
    intro i hi
    show i < (D.fs ++ [_]).length
    rw [List.length_append, List.length_singleton]
    rcases List.mem_append.1 hi with hi | hi
    · have := h.idlt i hi; omega
    · simp at hi; omega
  · intro f hf
    rcases List.mem_append.1 (show f ∈ D.fs ++ [⟨[], 0⟩] from hf) with hf | hf
    · exact h.syn f hf
    · simp at hf; subst hf; simp
  · have := h.room
    rw [taken_eq] at this ⊢
    rw [e2, List.map_append, List.sum_append]
    have h1 : (D.ids.map fun i => ((DS.noted { D with fs := D.fs ++ [⟨[], 0⟩] } ⟨[], n, some D.fs.length⟩ : DS).dat i).length) = D.ids.map fun i => (D.dat i).length :=
      List.map_congr_left fun i hi => by
        show ((D.fs ++ [(⟨[], 0⟩ : Fl)]).getD i default).data.length = _
        rw [getD_app_lt (h.idlt i hi)]; rfl
    rw [h1]
    have h2 : (([D.fs.length]).map fun i => ((DS.noted { D with fs := D.fs ++ [⟨[], 0⟩] } ⟨[], n, some D.fs.length⟩).dat i).length).sum = 0 := by
      show ((D.fs ++ [(⟨[], 0⟩ : Fl)]).getD D.fs.length default).data.length + 0 = 0
      simp [List.getD]
    rw [h2]; exact this
theorem fl_set (D : DS) (i j : Nat) (f : Fl) (hi : i < D.fs.length) : (D.setF i f).fl j = if j = i then f else D.fl j := by
  unfold DS.setF DS.fl
  by_cases e : j = i
  · subst e; simp [List.getD, hi]
  · rw [if_neg e]; simp [List.getD, List.getElem?_set_ne (fun h => e h.symm)]
theorem setF_taken {D : DS} (h : Good D) {i : Nat} (hi : i ∈ D.ids) (f : Fl) : (D.setF i f).taken + (D.dat i).length = D.taken + f.data.length := by
  have hlt := h.idlt i hi
  rw [taken_eq, taken_eq]
  have := sum_one (f := fun i => (D.dat i).length) (g := fun k => ((D.setF i f).dat k).length) (j := i) (fun k hk => by
    show ((D.setF i f).fl k).data.length = _
    rw [fl_set D i k f hlt, if_neg hk]; rfl) h.idN hi
  have e : ((D.setF i f).dat i).length = f.data.length := by
    show ((D.setF i f).fl i).data.length = _
    rw [fl_set D i i f hlt, if_pos rfl]
  rw [e] at this
  exact this
theorem Good.setF {D : DS} (h : Good D) {i : Nat} (hi : i ∈ D.ids) (f : Fl) (hf : f.syn ≤ f.data.length) (hr : D.taken + f.data.length ≤ D.quota + (D.dat i).length) : Good (D.setF i f) := by
  refine ⟨h.srtL, h.ok, h.fold, h.idN, ?_, ?_, h.pathL, ?_, h.quota⟩
  · intro j hj
    show j < (D.fs.set i f).length
    rw [List.length_set]; exact h.idlt j hj
  · intro g hg
    rcases List.mem_or_eq_of_mem_set (show g ∈ D.fs.set i f from hg) with hg | rfl
    · exact h.syn g hg
    · exact hf
  · have := setF_taken h hi f
    show (D.setF i f).taken ≤ D.quota
    omega
theorem find_ok {D : DS} {n : Nm} (h : (D.find n).1 = 0) : D.down = false ∧ pathB n = true ∧ fnd D.now n = some (D.find n).2 := by
  unfold DS.find at h ⊢
  by_cases h1 : D.down = true
  · rw [if_pos h1] at h; cases h
  rw [if_neg h1] at h ⊢
  by_cases h2 : pathB n = false
  · rw [if_pos h2] at h; cases h
  rw [if_neg h2] at h ⊢
  cases e : fnd D.now n with
  | none => rw [e] at h; cases h
  | some i => exact ⟨by simpa using h1, by simpa using h2, rfl⟩
theorem find_63 {D : DS} {n : Nm} (h : (D.find n).1 = 63) : D.down = false ∧ pathB n = true ∧ fnd D.now n = none := by
  unfold DS.find at h
  by_cases h1 : D.down = true
  · rw [if_pos h1] at h; cases h
  rw [if_neg h1] at h
  by_cases h2 : pathB n = false
  · rw [if_pos h2] at h; cases h
  rw [if_neg h2] at h
  cases e : fnd D.now n with
  | none => exact ⟨by simpa using h1, by simpa using h2, rfl⟩
  | some i => rw [e] at h; cases h
theorem fl_mem {D : DS} {i : Nat} (h : i < D.fs.length) : D.fl i ∈ D.fs := by
  unfold DS.fl
  simp [List.getD, h]
theorem Good.fl {D : DS} (h : Good D) (i : Nat) : (D.fl i).syn ≤ (D.fl i).data.length := by
  by_cases hi : i < D.fs.length
  · exact h.syn _ (fl_mem hi)
  · unfold DS.fl; simp [List.getD, List.getElem?_eq_none (Nat.le_of_not_lt hi)]; exact Nat.zero_le _
theorem Good.findId {D : DS} (h : Good D) {n : Nm} (hf : (D.find n).1 = 0) : (D.find n).2 ∈ D.ids := h.subNow (List.mem_map.2 ⟨_, fnd_mem (find_ok hf).2.2, rfl⟩)
theorem dat_le {D : DS} (h : Good D) {i : Nat} (hi : i ∈ D.ids) : (D.dat i).length ≤ D.taken := by
  rw [taken_eq]
  obtain ⟨a, b, e⟩ := List.append_of_mem hi
  rw [e]; simp; omega
theorem Good.note {D : DS} (h : Good D) {c : Chg} (hm : c.made = none) (hc : okC D.now c) : Good (D.note c).2 := by
  unfold DS.note
  split
  · exact (h.turn).noted hm (by rw [(turn_fields D).2.1]; exact hc)
  · exact h.turn
theorem Good.create {D : DS} (h : Good D) (n : Nm) : Good (D.create n).2 := by
  unfold DS.create
  split
  · exact h
  split
  · rename_i h1 h2
    obtain ⟨_, hp, hf⟩ := find_63 h2
    split
    · have := (h.turn).made hp (by rw [(turn_fields D).2.1]; exact hf)
      rw [(turn_fields D).1] at this ⊢; exact this
    · exact h.turn
  · exact h
theorem turn_id {D : DS} {i : Nat} (h : i ∈ D.ids) : i ∈ D.turn.2.ids := by
  have := turn_fields D
  unfold DS.ids at h ⊢
  rw [this.2.2.1, this.2.2.2.1]; exact h
theorem turn_dat (D : DS) (i : Nat) : D.turn.2.dat i = D.dat i ∧ D.turn.2.fl i = D.fl i := by
  unfold DS.dat DS.fl
  rw [(turn_fields D).1]; exact ⟨rfl, rfl⟩
theorem turn_taken (D : DS) : D.turn.2.taken = D.taken := by
  have := turn_fields D
  unfold DS.taken DS.lenL DS.lenC DS.dat DS.fl
  rw [this.1, this.2.2.1, this.2.2.2.1]
theorem Good.append {D : DS} (h : Good D) (n : Nm) (b : List UInt8) : Good (D.append n b).2 := by
  unfold DS.append
  split
  · rename_i hf
    split
    · exact h
    · split
      · rename_i h1 h2
        obtain ⟨hd, _, _⟩ := find_ok hf
        have h3 : D.taken + b.length ≤ D.quota := by
          unfold DS.free at h1
          rw [if_neg (by simp [hd])] at h1
          have := h.room; omega
        refine (h.turn).setF (turn_id (h.findId hf)) _ ?_ ?_
        · have := h.fl (D.find n).2
          show (D.fl _).syn ≤ (D.dat _ ++ b).length
          rw [List.length_append]; unfold DS.dat; omega
        · rw [turn_taken, (turn_dat D _).1, (turn_fields D).2.2.2.2, List.length_append]; omega
      · exact h.turn
  · exact h
theorem Good.sync {D : DS} (h : Good D) (n : Nm) : Good (D.sync n).2 := by
  unfold DS.sync
  split
  · rename_i hf
    split
    · refine (h.turn).setF (turn_id (h.findId hf)) _ (Nat.le_refl _) ?_
      have := h.room
      rw [turn_taken, (turn_dat D _).1, (turn_fields D).2.2.2.2]; dsimp only; omega
    · exact h.turn
  · exact h
theorem Good.trunc {D : DS} (h : Good D) (n : Nm) (k : Int) : Good (D.trunc n k).2 := by
  unfold DS.trunc
  split
  · rename_i hf
    split
    · exact h
    · split
      · rename_i hk _
        refine (h.turn).setF (turn_id (h.findId hf)) _ ?_ ?_
        · have := h.fl (D.find n).2
          dsimp only
          rw [List.length_take]; unfold DS.dat; omega
        · have := h.room
          rw [turn_taken, (turn_dat D _).1, (turn_fields D).2.2.2.2]
          dsimp only
          rw [List.length_take]; omega
      · exact h.turn
  · exact h
theorem Good.rename {D : DS} (h : Good D) (a b : Nm) : Good (D.rename a b).2 := by
  unfold DS.rename
  split
  · exact h
  split
  · exact h
  split
  · exact h
  · rename_i h1 h2 h3
    refine h.note rfl (.inr ⟨?_, rfl, ?_, .inr ?_⟩)
    · cases e : pathB a
      · exact absurd (.inl e) h2
      · rfl
    · exact Option.isSome_iff_ne_none.2 h3
    · cases e : pathB b
      · exact absurd (.inr e) h2
      · rfl
theorem Good.remove {D : DS} (h : Good D) (n : Nm) : Good (D.remove n).2 := by
  unfold DS.remove
  split
  · rename_i hf
    obtain ⟨_, hp, hn⟩ := find_ok hf
    exact h.note rfl (.inr ⟨hp, rfl, by rw [hn]; rfl, .inl rfl⟩)
  · exact h
theorem Good.syncdir {D : DS} (h : Good D) : Good D.syncdir.2 := by
  unfold DS.syncdir
  split
  · exact h
  split
  · obtain ⟨e1, e2, e3, e4, e5⟩ := turn_fields D
    have hk := h.keptNow
    refine ⟨hk.srt, trivial, e2, ?_, ?_, ?_, hk.path, ?_, ?_⟩
    · show (idsL D.now ++ madeL []).Nodup
      simpa [madeL] using hk.nd
    · show ∀ i ∈ idsL D.now ++ madeL [], i < D.turn.2.fs.length
      rw [e1]
      intro i hi
      exact h.ltNow (by simpa [madeL] using hi)
    · show ∀ f ∈ D.turn.2.fs, _
      rw [e1]; exact h.syn
    · rw [taken_eq]
      show ((idsL D.now ++ madeL []).map fun i => (D.turn.2.dat i).length).sum ≤ D.turn.2.quota
      rw [e5]
      have h1 : (fun i => (D.turn.2.dat i).length) = fun i => (D.dat i).length := by funext i; rw [(turn_dat D i).1]
      rw [h1]
      have h2 := sum_sub (f := fun i => (D.dat i).length) (l := idsL D.now ++ madeL []) (l' := D.ids) (by simpa [madeL] using hk.nd) (fun i hi => h.subNow (by simpa [madeL] using hi))
      have h3 := h.room
      rw [taken_eq] at h3
      omega
    · show D.turn.2.quota ≤ _
      rw [e5]; exact h.quota
  · exact h.turn
theorem Good.arm {D : DS} (h : Good D) (n : Int) : Good (D.arm n) := by
  unfold DS.arm
  split
  · exact h
  · exact h.left _ _
theorem Good.act {D : DS} (h : Good D) (k : Int) (a b : Nm) (n : Int) (data : List UInt8) : Good (D.act k a b n data).2 := by
  unfold DS.act
  split; · exact h.create a
  split; · exact h.append a data
  split; · exact h.sync a
  split; · exact h.trunc a n
  split; · exact h.rename a b
  split; · exact h.remove a
  exact h.syncdir
theorem newD_good {q : Nat} (h : q ≤ 4194304) : Good (newD q) :=
  ⟨List.Pairwise.nil, trivial, rfl, by simp [DS.ids, newD, idsL, madeL], by simp [DS.ids, newD, idsL, madeL], by simp [newD], by simp [newD], by simp [newD, DS.taken, DS.lenL, DS.lenC], h⟩
end Go.Proofs.YthhklkpkhaibcaaDoor
