/- ManifestMany, plain: a disk with many segments' files. -/
import Derived.Test.YthhklkpkhaibcaaDoorM5
set_option linter.unusedVariables false
set_option linter.unusedSimpArgs false
namespace Go.Proofs.YthhklkpkhaibcaaDoor
def forN : Nm := [102, 111, 114, 101, 105, 103, 110]
def segN (i : Nat) : Nm := nameM ((i : Int) + 1)
def manyF (n : Nat) : List File := (forN, []) :: (List.range n).map fun i => (segN i, [])
theorem segN_is {i : Nat} (h : i < 1000) : segN i = 115 :: Go.Lib.decDigits (i + 1) := by
  unfold segN
  rw [nameM_in (by omega) (by unfold big; omega)]
  congr 2
theorem segN_inj {i j : Nat} (hi : i < 1000) (hj : j < 1000) (h : segN i = segN j) : i = j := by
  have h1 := name_val (n := (i : Int) + 1) rfl (by rw [show nameM ((i : Int) + 1) = segN i from rfl, segN_is hi]; simp)
  have h2 := name_val (n := (j : Int) + 1) rfl (by rw [show nameM ((j : Int) + 1) = segN j from rfl, segN_is hj]; simp)
  rw [show nameM ((i : Int) + 1) = segN i from rfl, h, show segN j = nameM ((j : Int) + 1) from rfl, h2] at h1
  omega
theorem seg_for {i : Nat} (hi : i < 1000) : ¬ segN i = forN := fun h => by
  rw [segN_is hi] at h
  unfold forN at h
  have := (List.cons.inj h).1
  exact absurd this (by decide)
theorem seg_path {i : Nat} (hi : i < 1000) : pathB (segN i) = true ∧ (segN i).length ≤ 40 := by
  have h1 := dec_len 12 (i + 1) (by omega)
  have h2 := dec_digit (i + 1)
  have hl : (segN i).length ≤ 40 := by rw [segN_is hi, List.length_cons]; omega
  refine ⟨?_, hl⟩
  unfold pathB
  rw [decide_eq_true hl, segN_is hi]
  simp only [List.isEmpty_cons, Bool.not_false, Bool.true_and, List.all_cons, Bool.and_eq_true]
  refine ⟨by decide, ?_⟩
  rw [List.all_eq_true]
  intro c hc
  have := h2 c hc
  unfold okc
  simp only [Bool.and_eq_true, decide_eq_true_eq, Bool.not_eq_true', decide_eq_false_iff_not]
  omega
theorem for_num : numG forN = (0, false) := num_not fun n h => by
  by_cases hn : n < 1 ∨ big < n
  · rw [nameM_out hn] at h; exact h.symm
  · rw [nameM_in (by omega) (by omega)] at h
    unfold forN at h
    have := (List.cons.inj h).1
    exact absurd this (by decide)
theorem seg_num {i : Nat} (hi : i < 1000) : numG (segN i) = ((i : Int) + 1, true) := num_name (by omega) (by unfold big; omega)
theorem loadGo_nd : ∀ {l : List File} {fs : List Fl} {now : Names} {l0 : List File}, LSt fs now l0 → (∀ f ∈ l, pathB f.1 = true) → ((l0 ++ l).map (·.1)).Nodup → ∃ r, loadGo fs now l = .inr r
  | [], fs, now, l0, h, _, _ => ⟨_, rfl⟩
  | f :: l, fs, now, l0, h, hp, hn => by
    have hpf := hp f List.mem_cons_self
    have hf : fnd now f.1 = none := by
      rw [fnd_none]
      intro p hpn e
      have h1 : f.1 ∈ l0.map (·.1) := h.keys.mem_iff.1 (List.mem_map.2 ⟨p, hpn, e.symm⟩)
      rw [List.map_append, List.map_cons, List.nodup_append] at hn
      exact hn.2.2 _ h1 _ List.mem_cons_self rfl
    unfold loadGo
    rw [if_neg (by rw [hpf]; decide), if_neg (by rw [hf]; decide)]
    refine loadGo_nd (h.snoc f hpf hf) (fun g hg => hp g (List.mem_cons_of_mem _ hg)) ?_
    rwa [List.append_assoc]
theorem many_names (n : Nat) : (manyF n).map (·.1) = forN :: (List.range n).map segN := by
  unfold manyF
  rw [List.map_cons, List.map_map]; rfl
theorem many_nodup {n : Nat} (h : n ≤ 600) : ((manyF n).map (·.1)).Nodup := by
  rw [many_names, List.nodup_cons]
  refine ⟨fun hm => ?_, ?_⟩
  · obtain ⟨i, hi, e⟩ := List.mem_map.1 hm
    exact seg_for (by have := List.mem_range.1 hi; omega) e
  · rw [List.Nodup, List.pairwise_map]
    refine (List.pairwise_lt_range).imp_of_mem fun {a b} ha hb hab e => ?_
    have := segN_inj (by have := List.mem_range.1 ha; omega) (by have := List.mem_range.1 hb; omega) e
    omega
theorem many_len (n : Nat) : (manyF n).length = n + 1 := by unfold manyF; simp
theorem many_mem {n : Nat} {f : File} (h : f ∈ manyF n) : f = (forN, []) ∨ ∃ i, i < n ∧ f = (segN i, []) := by
  rcases List.mem_cons.1 h with h | h
  · exact .inl h
  · obtain ⟨i, hi, rfl⟩ := List.mem_map.1 h
    exact .inr ⟨i, List.mem_range.1 hi, rfl⟩
theorem many_sum (n : Nat) : sumLen (manyF n) = 0 := by
  have := sumLen_le (l := manyF n) (k := 0) (fun f hf => by
    rcases many_mem hf with rfl | ⟨i, _, rfl⟩ <;> exact Nat.le_refl _)
  omega
theorem many_load {n : Nat} (h : n ≤ 600) : ∃ D, load 4194304 (sumW (manyF n)) (manyF n) = (0, D) ∧ D.left = none := by
  obtain ⟨⟨fs, now⟩, hr⟩ := loadGo_nd (l := manyF n) LSt.nil (fun f hf => by
    rcases many_mem hf with rfl | ⟨i, hi, rfl⟩
    · decide
    · exact (seg_path (by omega)).1) (by rw [List.nil_append]; exact many_nodup h)
  refine ⟨⟨4194304, fs, now, now, [], none, false⟩, ?_, rfl⟩
  unfold load
  rw [if_neg (by omega), hr, sumW_eq _ (by rw [many_sum]; omega), many_sum]
  rfl
/- A DISK THAT IS NOT ARMED -/
theorem turn_unarm {D : DS} (h : D.left = none) : D.turn = (0, D) := by unfold DS.turn; rw [h]
theorem remove_unarm {D : DS} (h : D.left = none) (n : Nm) : (D.remove n).2.left = none ∧ (D.remove n).2.down = D.down := by
  unfold DS.remove DS.note
  rw [turn_unarm h]
  split
  · exact ⟨h, rfl⟩
  · exact ⟨h, rfl⟩
theorem rmv_unarm : ∀ {xs : List Nm} {D : DS}, D.left = none → (rmv D xs).2.1.left = none ∧ (rmv D xs).2.1.down = D.down
  | [], D, h => ⟨h, rfl⟩
  | x :: xs, D, h => by
    obtain ⟨h1, h2⟩ := remove_unarm h x
    unfold rmv
    split
    · obtain ⟨a, b⟩ := rmv_unarm (xs := xs) h1
      exact ⟨a, by dsimp only; rw [b, h2]⟩
    · exact ⟨h1, h2⟩
/-- What a sweep does on a disk that is not armed. -/
theorem sweep_free {n0 : Names} {fs : List Fl} {D : DS} {l : List Sg} (hS : SwS n0 fs D []) (hn : Srt n0) (hp : ∀ p ∈ n0, pathB p.1 = true) (hd : D.down = false) (hl : D.left = none) :
    ∃ D2, sweepM D l = (0, D2, (n0.map (·.1)).filter (swp l)) ∧ D2.files = filesOf fs (keepN n0 ((n0.map (·.1)).filter (swp l))) := by
  obtain ⟨X, hX⟩ : ∃ X, (n0.map (·.1)).filter (swp l) = X := ⟨_, rfl⟩
  rw [hX]
  have hnow : D.now = n0 := by rw [hS.now, keep_nil]
  have hlist : D.list = n0.map (·.1) := by unfold DS.list; rw [hd, hnow]; rfl
  have hXm : ∀ x ∈ X, x ∈ n0.map (·.1) := fun x hx => by rw [← hX] at hx; exact (List.mem_filter.1 hx).1
  have hr := rmv_spec (xs := X) hS hd (fun x hx => ⟨hXm x hx, by
    obtain ⟨p, hp1, rfl⟩ := List.mem_map.1 (hXm x hx)
    exact hp p hp1, fun h => by cases h⟩) (by rw [← hX]; exact (Srt.nodup hn).sublist List.filter_sublist)
  obtain ⟨hf1, hf2⟩ := rmv_unarm (xs := X) hl
  rw [List.nil_append] at hr
  rcases hr with ⟨q1, q2, q3, q4⟩ | ⟨q1, q2, _⟩
  · by_cases hne : X = []
    · refine ⟨(rmv D X).2.1, ?_, ?_⟩
      · unfold sweepM
        rw [if_neg (by rw [hd]; decide), hlist, hX]
        dsimp only
        rw [if_pos q1, q2, if_pos hne, hne]
      · show filesOf (rmv D X).2.1.fs (rmv D X).2.1.now = _
        rw [q4.fs, q4.now]
    · refine ⟨(rmv D X).2.1.syncdir.2, ?_, ?_⟩
      · unfold sweepM
        rw [if_neg (by rw [hd]; decide), hlist, hX]
        dsimp only
        rw [if_pos q1, q2, if_neg hne, if_pos (by unfold DS.syncdir; rw [if_neg (by rw [q3]; decide), turn_unarm hf1]; rfl)]
      · unfold DS.syncdir
        rw [if_neg (by rw [q3]; decide), turn_unarm hf1]
        show filesOf (rmv D X).2.1.fs (rmv D X).2.1.now = _
        rw [q4.fs, q4.now]
  · rw [hf2, hd] at q2; cases q2
/-- The one segment that stays. -/
def oneSg (k : Nat) : List Sg := [⟨(k : Int) + 1, 0, 0⟩]
theorem swp_for (k : Nat) : swp (oneSg k) forN = false := by
  unfold swp
  rw [for_num]
  rfl
theorem swp_seg {i k : Nat} (hi : i < 1000) : swp (oneSg k) (segN i) = decide (¬ i = k) := by
  unfold swp
  rw [seg_num hi]
  have h1 : ¬ segN i = tmpN := fun h => by
    rw [segN_is hi] at h
    unfold tmpN at h
    exact absurd (List.cons.inj h).1 (by decide)
  rw [decide_eq_false h1, Bool.false_or, Bool.true_and]
  unfold named oneSg
  rw [List.any_cons, List.any_nil, Bool.or_false]
  by_cases h : i = k
  · subst h; simp
  · rw [decide_eq_false (p := ((k : Int) + 1 = (i : Int) + 1)) (by omega), decide_eq_true h]; rfl
theorem load_out2 {l : List File} {D : DS} (hl : sumLen l ≤ 9000000000000000000) (h : load 4194304 (sumW l) l = (0, D)) : Good D ∧ ∃ fs n0, LSt fs n0 l ∧ D = ⟨4194304, fs, n0, n0, [], none, false⟩ := by
  rw [sumW_eq l (by omega)] at h
  have := load_good (q := 4194304) (files := l) (by rw [h])
  rw [h] at this
  obtain ⟨g, fs, n0, h1, h2⟩ := this
  exact ⟨g, fs, n0, h1, h2⟩
theorem filter_both {α : Type} (q : α → Bool) (m : List α) : (m.filter fun p => !q p).length + (m.filter q).length = m.length := by
  induction m with
  | nil => rfl
  | cons a m ih =>
    rw [List.filter_cons, List.filter_cons]
    cases q a <;> simp <;> omega
/-- What a sweep of many tells and leaves. -/
theorem many_swept {n k : Nat} {D : DS} (h2 : n ≤ 600) (hk : k < n) (hlo : load 4194304 (sumW (manyF n)) (manyF n) = (0, D)) :
    ∃ D2 G x y, sweepM D (oneSg k) = (0, D2, G) ∧ G.length = n - 1 ∧ G.Nodup ∧ (∀ g ∈ G, ∃ i, i < n ∧ ¬ i = k ∧ g = segN i) ∧ D2.files = [(forN, x), (segN k, y)] := by
  obtain ⟨hg, fs, n0, hL, hD⟩ := load_out2 (by rw [many_sum]; omega) hlo
  have hS : SwS n0 fs D [] := by rw [hD]; exact ⟨rfl, rfl, rfl, (keep_nil n0).symm⟩
  obtain ⟨D2, e1, e2⟩ := sweep_free (l := oneSg k) hS hL.srt hL.path (by rw [hD]) (by rw [hD])
  have hmem : ∀ x, x ∈ n0.map (·.1) ↔ x = forN ∨ ∃ i, i < n ∧ x = segN i := fun x => by
    rw [hL.keys.mem_iff, many_names, List.mem_cons, List.mem_map]
    constructor
    · rintro (h | ⟨i, hi, rfl⟩)
      · exact .inl h
      · exact .inr ⟨i, List.mem_range.1 hi, rfl⟩
    · rintro (h | ⟨i, hi, rfl⟩)
      · exact .inl h
      · exact .inr ⟨i, List.mem_range.2 hi, rfl⟩
  have hnd : (n0.map (·.1)).Nodup := Srt.nodup hL.srt
  obtain ⟨X, hX⟩ : ∃ X, (n0.map (·.1)).filter (swp (oneSg k)) = X := ⟨_, rfl⟩
  rw [hX] at e1 e2
  have hl1 : (keepN n0 X).map (·.1) = (n0.map (·.1)).filter (fun x => !swp (oneSg k) x) := by
    unfold keepN
    rw [List.filter_map]
    congr 1
    refine List.filter_congr fun p hp => ?_
    have : p.1 ∈ X ↔ swp (oneSg k) p.1 = true := by rw [← hX, List.mem_filter]; exact ⟨fun h => h.2, fun h => ⟨List.mem_map.2 ⟨p, hp, rfl⟩, h⟩⟩
    simp only [Function.comp]
    rw [Bool.eq_iff_iff, decide_eq_true_eq, Bool.not_eq_true', this, Bool.not_eq_true]
  have hlt : forN < segN k := by
    rw [segN_is (by omega)]
    exact List.cons_lt_cons_iff.2 (.inl (by decide))
  have hperm : ((keepN n0 X).map (·.1)).Perm [forN, segN k] := by
    rw [hl1]
    refine (List.perm_ext_iff_of_nodup (hnd.sublist List.filter_sublist) ?_).2 fun x => ?_
    · rw [List.nodup_cons]
      exact ⟨fun h => seg_for (by omega) (List.mem_singleton.1 h).symm, by simp⟩
    · rw [List.mem_filter, hmem]
      constructor
      · rintro ⟨h | ⟨i, hi, rfl⟩, hs⟩
        · subst h; exact List.mem_cons_self
        · rw [swp_seg (by omega)] at hs
          have : i = k := by
            by_cases h : i = k
            · exact h
            · rw [decide_eq_true h] at hs; cases hs
          subst this
          simp
      · intro h
        simp only [List.mem_cons, List.not_mem_nil, or_false] at h
        rcases h with rfl | rfl
        · exact ⟨.inl rfl, by rw [swp_for]; rfl⟩
        · exact ⟨.inr ⟨k, hk, rfl⟩, by rw [swp_seg (by omega)]; simp⟩
  have hkeys : (keepN n0 X).map (·.1) = [forN, segN k] := by
    refine List.Perm.eq_of_pairwise (le := fun u v : Nm => u ≤ v) (fun a b _ _ h1 h2 => List.le_antisymm h1 h2) ?_ ?_ hperm
    · rw [List.pairwise_map]
      exact (keep_srt hL.srt X).imp fun h => List.le_of_lt h
    · refine List.pairwise_cons.2 ⟨fun y hy => ?_, by simp⟩
      rw [List.mem_singleton.1 hy]; exact List.le_of_lt hlt
  have hsum : ((keepN n0 X).map (·.1)).length + X.length = (n0.map (·.1)).length := by
    rw [hl1, ← hX]
    exact filter_both _ _
  have hn0 : (n0.map (·.1)).length = n + 1 := by rw [hL.keys.length_eq, List.length_map, many_len]
  rw [hkeys, hn0] at hsum
  obtain ⟨a, b, hab⟩ : ∃ a b, keepN n0 X = [(forN, a), (segN k, b)] := by
    generalize keepN n0 X = l at hkeys
    match l, hkeys with
    | [], hkeys => simp at hkeys
    | [_], hkeys => simp at hkeys
    | _ :: _ :: _ :: _, hkeys => simp at hkeys
    | [p, q], hkeys =>
      simp only [List.map_cons, List.map_nil, List.cons.injEq, and_true] at hkeys
      obtain ⟨p1, p2⟩ := p
      obtain ⟨q1, q2⟩ := q
      obtain ⟨rfl, rfl⟩ := hkeys
      exact ⟨_, _, rfl⟩
  refine ⟨D2, X, _, _, e1, by simp only [List.length_cons, List.length_nil] at hsum; omega, by rw [← hX]; exact hnd.sublist List.filter_sublist, fun g hg => ?_, by rw [e2, hab]; rfl⟩
  rw [← hX, List.mem_filter, hmem] at hg
  rcases hg with ⟨h | ⟨i, hi, rfl⟩, hs⟩
  · subst h; rw [swp_for] at hs; cases hs
  · rw [swp_seg (by omega)] at hs
    exact ⟨i, hi, by simpa using hs, rfl⟩
end Go.Proofs.YthhklkpkhaibcaaDoor
