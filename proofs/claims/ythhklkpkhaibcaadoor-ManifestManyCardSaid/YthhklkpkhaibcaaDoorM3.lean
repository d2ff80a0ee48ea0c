/- Plain: what a sweep, and a crash within it, leaves. -/
import Derived.Test.YthhklkpkhaibcaaDoorM1
import Derived.Test.YthhklkpkhaibcaaDoorP2
set_option linter.unusedVariables false
set_option linter.unusedSimpArgs false
namespace Go.Proofs.YthhklkpkhaibcaaDoor
def lk (l : List File) (n : Nm) : Option (List UInt8) := (l.find? fun f => decide (f.1 = n)).map (·.2)
theorem lk_files (fs : List Fl) (l : Names) (n : Nm) : lk (filesOf fs l) n = (fnd l n).map fun i => (fs.getD i default).data := by
  unfold lk filesOf fnd
  rw [List.find?_map, Option.map_map, Option.map_map]
  have e : ((fun f : File => decide (f.1 = n)) ∘ fun p : Nm × Nat => (p.1, (fs.getD p.2 default).data)) = fun p => decide (n = p.1) := by
    funext p
    simp only [Function.comp, eq_comm]
  rw [e]; rfl
theorem keep_srt {l : Names} (h : Srt l) (G : List Nm) : Srt (keepN l G) := h.sublist List.filter_sublist
theorem fnd_keep {l : Names} (h : Srt l) (G : List Nm) (n : Nm) : fnd (keepN l G) n = if n ∈ G then none else fnd l n := by
  by_cases hn : n ∈ G
  · rw [if_pos hn, fnd_none]
    intro p hp e
    subst e
    exact (keep_mem.1 hp).2 hn
  · rw [if_neg hn]
    cases e : fnd l n with
    | none =>
      rw [fnd_none] at e ⊢
      exact fun p hp => e p (keep_mem.1 hp).1
    | some i => exact fnd_of_mem (keep_srt h G) (keep_mem.2 ⟨fnd_mem e, hn⟩)
/-- What a crash leaves of a disk whose names lie as those of n0 without some of G. -/
theorem crash_keep {n0 : Names} {fs : List Fl} {D : DS} {G : List Nm} (h : SwS n0 fs D G) (hG : ∀ n ∈ G, n ≠ []) (hf : ∀ i, (fs.getD i default).syn = (fs.getD i default).data.length) (keep : Int) (cuts : List (Int × Int)) : ∃ k, D.crash keep cuts = filesOf fs (keepN n0 (G.take k)) := by
  refine ⟨(clamp keep 0 D.chs.length).toNat, ?_⟩
  unfold DS.crash keptN
  rw [h.fs, h.las]
  generalize (clamp keep 0 D.chs.length).toNat = k
  rw [h.chs, ← List.map_take]
  have := fold_rm (G := G.take k) (H := []) (l := n0) (fun n hn => hG n (List.mem_of_mem_take hn))
  rw [keep_nil, List.nil_append] at this
  rw [this]
  exact leftL_full (fun p _ => hf p.2)
structure Ldd (n0 : Names) (fs : List Fl) (all : List File) : Prop where
  st : LSt fs n0 all
theorem Ldd.full {n0 : Names} {fs : List Fl} {all : List File} (h : LSt fs n0 all) (i : Nat) : (fs.getD i default).syn = (fs.getD i default).data.length := by
  rw [h.fsE]; exact flsF_syn all i
theorem lk_all {n0 : Names} {fs : List Fl} {all : List File} (h : LSt fs n0 all) {G : List Nm} {f : File} (hf : f ∈ all) (hG : f.1 ∉ G) : lk (filesOf fs (keepN n0 G)) f.1 = some f.2 := by
  obtain ⟨i, h1, h2⟩ := h.look f hf
  rw [lk_files, fnd_keep h.srt, if_neg hG, h1, Option.map_some, h2]
theorem lk_gone {n0 : Names} {fs : List Fl} {all : List File} (h : LSt fs n0 all) {G : List Nm} {n : Nm} (hG : n ∈ G) : lk (filesOf fs (keepN n0 G)) n = none := by
  rw [lk_files, fnd_keep h.srt, if_pos hG]; rfl
/-- What the law asks of a sweep's answer. -/
structure Swept (all : List File) (l : List Sg) (keep : Int) (cuts : List (Int × Int)) (r : Int × DS × List Nm) : Prop where
  stay : ∀ f ∈ all, swp l f.1 = false → lk (r.2.1.crash keep cuts) f.1 = some f.2 ∧ lk r.2.1.files f.1 = some f.2
  bad : r.1 ≠ 0 → r.1 = 60 ∧ r.2.2 = [] ∧ r.2.1.down = true
  gone : r.1 = 0 → ∀ g ∈ r.2.2, lk (r.2.1.crash keep cuts) g = none
  sum : r.1 = 0 → r.2.1.files.length + r.2.2.length = all.length
  some : r.1 = 0 → r.2.2 ≠ []
  again : r.1 = 0 → sweepM r.2.1 l = (0, r.2.1, [])
theorem swept_of {n0 : Names} {fs : List Fl} {all : List File} {l : List Sg} {D : DS} (h : LSt fs n0 all) (hS : SwS n0 fs D []) (hd : D.down = false) (hb : ∃ f ∈ all, swp l f.1 = true) (keep : Int) (cuts : List (Int × Int)) : Swept all l keep cuts (sweepM D l) := by
  have hnow : D.now = n0 := by rw [hS.now, keep_nil]
  have hlist : D.list = n0.map (·.1) := by unfold DS.list; rw [hd, hnow]; rfl
  have hnd : (n0.map (·.1)).Nodup := Srt.nodup h.srt
  obtain ⟨X, hX⟩ : ∃ X, (n0.map (·.1)).filter (swp l) = X := ⟨_, rfl⟩
  have hXm : ∀ x, x ∈ X ↔ x ∈ n0.map (·.1) ∧ swp l x = true := fun x => by rw [← hX, List.mem_filter]
  have hXp : ∀ x ∈ X, pathB x = true := fun x hx => by
    obtain ⟨p, hp, rfl⟩ := List.mem_map.1 ((hXm x).1 hx).1
    exact h.path p hp
  have hXne : X ≠ [] := by
    obtain ⟨f, hf, hs⟩ := hb
    have : f.1 ∈ X := (hXm _).2 ⟨h.keys.mem_iff.2 (List.mem_map.2 ⟨f, hf, rfl⟩), hs⟩
    intro e; rw [e] at this; cases this
  have hno : ∀ {G : List Nm}, (∀ y ∈ G, y ∈ X) → ∀ {n : Nm}, swp l n = false → n ∉ G := fun {G} hG {n} hs hn => by
    have := ((hXm n).1 (hG n hn)).2
    rw [hs] at this; cases this
  have hfull := Ldd.full h
  have hall : all.length = n0.length := by have := h.keys.length_eq; simpa using this.symm
  have hcount : (keepN n0 X).length + X.length = n0.length := by
    have e1 : keepN n0 X = n0.filter (fun p => !swp l p.1) := by
      unfold keepN
      refine List.filter_congr fun p hp => ?_
      have : p.1 ∈ X ↔ swp l p.1 = true := by rw [hXm]; exact ⟨fun h => h.2, fun h => ⟨List.mem_map.2 ⟨p, hp, rfl⟩, h⟩⟩
      rw [Bool.eq_iff_iff, decide_eq_true_eq, Bool.not_eq_true', this, Bool.not_eq_true]
    have e2 : X.length = (n0.filter (fun p => swp l p.1)).length := by
      rw [← hX, List.filter_map, List.length_map]; rfl
    rw [e1, e2]
    have : ∀ (q : Nm × Nat → Bool) (m : Names), (m.filter fun p => !q p).length + (m.filter q).length = m.length := by
      intro q m
      induction m with
      | nil => rfl
      | cons a m ih =>
        rw [List.filter_cons, List.filter_cons]
        cases q a <;> simp <;> omega
    exact this _ _
  have hr := rmv_spec (xs := X) hS hd (fun x hx => ⟨((hXm x).1 hx).1, hXp x hx, fun h => by cases h⟩) (by rw [← hX]; exact hnd.sublist List.filter_sublist)
  rw [List.nil_append] at hr
  have hstay : ∀ {E : DS} {G : List Nm}, SwS n0 fs E G → (∀ y ∈ G, y ∈ X) → ∀ f ∈ all, swp l f.1 = false → lk (E.crash keep cuts) f.1 = some f.2 ∧ lk E.files f.1 = some f.2 := fun {E G} hE hG f hf hs => by
    obtain ⟨k, hk⟩ := crash_keep hE (fun n hn => pathB_ne (hXp n (hG n hn))) hfull keep cuts
    refine ⟨by rw [hk]; exact lk_all h hf (fun hn => hno hG hs (List.mem_of_mem_take hn)), ?_⟩
    unfold DS.files
    rw [hE.fs, hE.now]
    exact lk_all h hf (hno hG hs)
  unfold sweepM
  rw [if_neg (by rw [hd]; decide), hlist, hX]
  dsimp only
  rcases hr with ⟨q1, q2, q3, q4⟩ | ⟨q1, q2, ys, q3, q4⟩
  · rw [if_pos q1, if_neg (by rw [q2]; exact hXne)]
    generalize (rmv D X).2.1 = E at q3 q4
    rw [q2]
    obtain ⟨e1, e2, e3, e4, e5⟩ := turn_fields E
    have hsd : (E.syncdir.1 = 0 ∧ E.syncdir.2.down = false ∧ E.syncdir.2.fs = fs ∧ E.syncdir.2.las = keepN n0 X ∧ E.syncdir.2.now = keepN n0 X ∧ E.syncdir.2.chs = []) ∨ (E.syncdir.1 = 60 ∧ E.syncdir.2.down = true ∧ SwS n0 fs E.syncdir.2 X) := by
      unfold DS.syncdir
      rw [if_neg (by rw [q3]; decide)]
      rcases turn_cases E with ⟨t1, t2⟩ | ⟨t1, t2⟩
      · rw [if_pos t1]
        exact .inl ⟨rfl, by show E.turn.2.down = _; rw [t2, q3], by show E.turn.2.fs = _; rw [e1, q4.fs], q4.now, by show E.turn.2.now = _; rw [e2, q4.now], rfl⟩
      · rw [if_neg (by rw [t1]; decide)]
        exact .inr ⟨t1, t2, ⟨by rw [e3, q4.las], by rw [e1, q4.fs], by rw [e4, q4.chs], by rw [e2, q4.now]⟩⟩
    rcases hsd with ⟨s1, s2, s3, s4, s5, s6⟩ | ⟨s1, s2, s3⟩
    · rw [if_pos s1]
      generalize E.syncdir.2 = F at s2 s3 s4 s5 s6
      have hcr : F.crash keep cuts = filesOf fs (keepN n0 X) := by
        unfold DS.crash keptN
        rw [s3, s4, s6, List.take_nil, List.foldl_nil]
        exact leftL_full (fun p _ => hfull p.2)
      have hfi : F.files = filesOf fs (keepN n0 X) := by unfold DS.files; rw [s3, s5]
      refine ⟨fun f hf hs => ?_, fun hne => absurd rfl hne, fun _ g hg => ?_, fun _ => ?_, fun _ => hXne, fun _ => ?_⟩
      · show lk (F.crash keep cuts) f.1 = some f.2 ∧ lk F.files f.1 = some f.2
        rw [hcr, hfi]
        have := lk_all h (G := X) hf (hno (fun y hy => hy) hs)
        exact ⟨this, this⟩
      · show lk (F.crash keep cuts) g = none
        rw [hcr]; exact lk_gone h hg
      · show F.files.length + X.length = all.length
        rw [hfi, hall, ← hcount]
        unfold filesOf
        rw [List.length_map]
      · show sweepM F l = (0, F, [])
        have hl : F.list = (keepN n0 X).map (·.1) := by unfold DS.list; rw [s2, s5]; rfl
        have hn : F.list.filter (swp l) = [] := by
          rw [hl, List.filter_eq_nil_iff]
          intro x hx hs
          obtain ⟨p, hp, rfl⟩ := List.mem_map.1 hx
          obtain ⟨h1, h2⟩ := keep_mem.1 hp
          exact h2 ((hXm _).2 ⟨List.mem_map.2 ⟨p, h1, rfl⟩, hs⟩)
        unfold sweepM
        rw [if_neg (by rw [s2]; decide), hn]
        rfl
    · rw [if_neg (by rw [s1]; decide)]
      exact ⟨fun f hf hs => hstay s3 (fun y hy => hy) f hf hs, fun _ => ⟨s1, rfl, s2⟩, (fun h0 => by rw [s1] at h0; cases h0), (fun h0 => by rw [s1] at h0; cases h0), (fun h0 => by rw [s1] at h0; cases h0), (fun h0 => by rw [s1] at h0; cases h0)⟩
  · rw [if_neg (by rw [q1]; decide)]
    rw [List.nil_append] at q4
    exact ⟨fun f hf hs => hstay q4 q3 f hf hs, fun _ => ⟨q1, rfl, q2⟩, (fun h0 => by rw [q1] at h0; cases h0), (fun h0 => by rw [q1] at h0; cases h0), (fun h0 => by rw [q1] at h0; cases h0), (fun h0 => by rw [q1] at h0; cases h0)⟩
end Go.Proofs.YthhklkpkhaibcaaDoor
