/- Walks: ManifestSweeps. -/
import Derived.Test.YthhklkpkhaibcaaDoorM4
import Derived.Test.YthhklkpkhaibcaaDoorSlConv
set_option linter.unusedVariables false
set_option linter.unusedSimpArgs false
namespace Go.Proofs.YthhklkpkhaibcaaDoor
open Go Go.Sl Go.RowKit
set_option maxRecDepth 100000
attribute [local irreducible] CW LW DW FR DP Calls
def bigN : Nm := [115, 49, 48, 57, 57, 53, 49, 49, 54, 50, 55, 55, 55, 54]
def maniN : Nm := [77, 65, 78, 73, 70, 69, 83, 84]
def s0N : Nm := [115, 48]
def s1N : Nm := [115, 49]
theorem name_big : nameM big = bigN := by
  rw [nameM_in (by decide) (by decide)]
  show 115 :: Go.Lib.decDigits 1099511627776 = _
  repeat rw [dec_ge (by decide)]
  rw [dec_lt (by decide)]
  rfl
theorem swp_big {l : List Sg} (h : ∀ s ∈ l, s.num < 1099511627776) : swp l bigN = true := by
  have h1 : numG bigN = (big, true) := by rw [← name_big]; exact num_name (by decide) (by decide)
  unfold swp
  rw [h1]
  have h2 : named l big = false := by
    unfold named
    rw [List.any_eq_false]
    intro s hs
    have := h s hs
    simp only [decide_eq_true_eq]
    unfold big
    omega
  rw [h2]
  simp
theorem crash_call (W w : World) (L : List HProp) (d : Nat) (D : DS) (keep : Int) (C : Option Addr) (cc : Nat) (cuts : List (Int × Int)) (hs : Sat W w (HD d D :: L)) (hf : Fit D)
    (hk1 : -9223372036854775808 ≤ keep ∧ keep ≤ 9223372036854775807) (hr : ∀ w', Sat W w' L → Rd eP w' C cuts) (hcl : cuts.length ≤ 140737488355328) :
    Calls Tryd.prog 18 [Value.pointer (some ⟨d, 0, none⟩), .int .i64 keep, .slice C cuts.length cc].toArray w (Ret fun v w' => ∃ A c, v = .slice A (D.crash keep cuts).length c ∧ Sat W w' (HF A c (D.crash keep cuts) :: HD d D :: L)) := by
  have hsub : ∀ i ∈ idsL (keptN D keep), i ∈ D.ids := fun i hi => by
    rcases List.mem_append.1 ((hf.good.st.kept _).sub i hi) with h1 | h1
    · exact List.mem_append_left _ h1
    · exact List.mem_append_right _ ((madeL_take _ _).subset h1)
  refine crash_callG W w L d D keep C cc cuts hs hf.good.st hf.chs hk1 hr hcl ?_ fun i hi => by have := dat_bd hf.good (hsub i hi); omega
  have h1 := (hf.good.st.kept (clamp keep 0 D.chs.length).toNat).nd
  have h2 := len_le_of_nodup h1 (l2 := List.range D.fs.length) (fun x hx => List.mem_range.2 (hf.good.idlt x (hsub x hx)))
  have h3 := hf.fs
  unfold idsL at h2
  rw [List.length_map, List.length_range] at h2
  unfold keptN
  omega
theorem sumLen_le : ∀ {l : List File} {k : Nat}, (∀ f ∈ l, f.2.length ≤ k) → sumLen l ≤ l.length * k
  | [], _, _ => by simp [sumLen]
  | f :: l, k, h => by
    have h1 := sumLen_le (fun g hg => h g (List.mem_cons_of_mem _ hg) : ∀ g ∈ l, g.2.length ≤ k)
    have h2 := h f List.mem_cons_self
    unfold sumLen at h1 ⊢
    rw [List.map_cons, List.sum_cons, List.length_cons, Nat.succ_mul]
    omega
theorem sumW_len {l : List File} (h : sumLen l ≤ 9000000000000000000) : sumW l = sumLen l := by
  have := sumW_go l 0 (by omega) (by omega)
  rw [Int.zero_add] at this
  exact this
theorem rmv_good : ∀ {xs : List Nm} {D : DS}, Good D → Good (rmv D xs).2.1 ∧ (rmv D xs).2.1.fs.length = D.fs.length ∧ (rmv D xs).2.1.chs.length ≤ D.chs.length + xs.length
  | [], D, h => ⟨h, rfl, Nat.le_refl _⟩
  | x :: xs, D, h => by
    have hl := remove_lens D x
    unfold rmv
    split
    · obtain ⟨a, b, c⟩ := rmv_good (xs := xs) (h.remove x)
      exact ⟨a, by dsimp only; rw [b, hl.1], by dsimp only; rw [List.length_cons]; omega⟩
    · exact ⟨h.remove x, hl.1, by dsimp only; rw [List.length_cons]; omega⟩
theorem sync_lens (D : DS) : D.syncdir.2.fs.length = D.fs.length ∧ D.syncdir.2.chs.length ≤ D.chs.length := by
  obtain ⟨e1, e2, e3, e4, e5⟩ := turn_fields D
  unfold DS.syncdir
  split
  · exact ⟨rfl, Nat.le_refl _⟩
  split
  · exact ⟨by show D.turn.2.fs.length = _; rw [e1], Nat.zero_le _⟩
  · exact ⟨by rw [e1], by rw [e4]; exact Nat.le_refl _⟩
theorem sweepM_good {D : DS} {l : List Sg} (h : Good D) : Good (sweepM D l).2.1 ∧ (sweepM D l).2.1.fs.length = D.fs.length ∧ (sweepM D l).2.1.chs.length ≤ D.chs.length + D.list.length ∧ (sweepM D l).2.2.length ≤ D.list.length := by
  obtain ⟨a, b, c⟩ := rmv_good (xs := D.list.filter (swp l)) h
  have hfl : (D.list.filter (swp l)).length ≤ D.list.length := List.length_filter_le _ _
  have hgl : ∀ {xs : List Nm} {E : DS}, (rmv E xs).2.2.length ≤ xs.length := by
    intro xs
    induction xs with
    | nil => intro E; exact Nat.le_refl _
    | cons x xs ih =>
      intro E
      unfold rmv
      split
      · have := @ih (E.remove x).2
        dsimp only; rw [List.length_cons, List.length_cons]; omega
      · exact Nat.zero_le _
  have hg := @hgl (D.list.filter (swp l)) D
  have s := sync_lens (rmv D (D.list.filter (swp l))).2.1
  unfold sweepM
  split
  · exact ⟨h, rfl, Nat.le_add_right _ _, Nat.zero_le _⟩
  dsimp only
  split
  · split
    · exact ⟨a, b, by dsimp only; omega, Nat.zero_le _⟩
    split
    · exact ⟨a.syncdir, by dsimp only; omega, by dsimp only; omega, by dsimp only; omega⟩
    · exact ⟨a.syncdir, by dsimp only; omega, by dsimp only; omega, Nat.zero_le _⟩
  · exact ⟨a, b, by dsimp only; omega, Nat.zero_le _⟩
def fbL (by_ : Nat) : List RF := [⟨bigN, none, 0, []⟩, ⟨tmpN, none, 0, []⟩, ⟨s1N, some ⟨by_, 0, none⟩, 1, [121]⟩]
def fbF : List File := [(bigN, []), (tmpN, []), (s1N, [121])]
theorem fb_load : (load 4194304 (sumW fbF) fbF).1 = 0 := by decide
end Go.Proofs.YthhklkpkhaibcaaDoor
