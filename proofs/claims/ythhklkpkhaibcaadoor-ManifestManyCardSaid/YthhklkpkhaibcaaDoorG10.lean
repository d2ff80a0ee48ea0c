/- Walks: the changing calls of names; what is asked of a disk. -/
import Derived.Test.YthhklkpkhaibcaaDoorG9
set_option linter.unusedVariables false
set_option linter.unusedSimpArgs false
namespace Go.Proofs.YthhklkpkhaibcaaDoor
open Go Go.Sl Go.RowKit
set_option maxRecDepth 100000
attribute [local irreducible] CW LW DW FR DP Calls

theorem remove_call (W w : World) (L : List HProp) (d : Nat) (D : DS) (n : Nm) (hs : Sat W w (HD d D :: L)) (hf : Fit D) (hn : n.length ≤ 140737488355328) :
    Calls Tryd.prog 33 [Value.pointer (some ⟨d, 0, none⟩), sv n].toArray w (Ret fun v w' => v = .int .i64 (D.remove n).1 ∧ Sat W w' (HD d (D.remove n).2 :: L)) := by
  refine Calls_of Tryd.func33 rfl 20 Tryd.ntmps33 rfl ?_
  obtain ⟨R, ho, hs⟩ := Sat.openD hs
  obtain ⟨x, hx⟩ : ∃ x, D.find n = x := ⟨_, rfl⟩
  have hok := @find_ok D n
  unfold DS.remove
  rw [hx] at hok ⊢
  by_cases h0 : x.1 = 0
  · rw [if_pos h0]
    obtain ⟨_, hp, hfn⟩ := hok h0
    (repeat' (first | (refine isLW ?_; first | refine LW_nil ?_ | (refine isLcall ?_; first | (refine LW_call (cap := []) rfl rfl ent39 (find_call W _ L R d D n hs ho hn) ?_; clear hs; rintro _ w ⟨rfl, hs⟩; rw [hx, h0]) | (refine LW_call (cap := []) rfl rfl ent40 (note_call W _ L R d D ⟨n, [], none⟩ hs ho (.inr ⟨hp, rfl, by rw [hfn]; rfl, .inl rfl⟩) hf.chs) ?_; clear hs; rintro _ w ⟨rfl, R', _, ho2, hs⟩)) | (refine isLbin ?_; first | (refine LW_cmp rfl (fun _ => ?_) (fun _ => ?_) <;> try (exfalso; omega))) | refine LW_pure TOK rfl ?_ | refine LW_build TOK rfl rfl rfl rfl rfl rfl ?_) | (with_reducible first | refine then_n ?_ | refine CW_seq ?_ | refine CW_region ?_ | refine CW_skip ?_ | refine CW_ret ?_) | refine CW_false rfl ?_ | refine RET1 Tryd.results33 rfl ?_))
    exact ⟨rfl, Sat.closeD ho2 hs⟩
  · rw [if_neg h0]
    (repeat' (first | (refine LW_cmp rfl (fun _ => ?_) (fun hq => absurd h0 hq)) | (refine isLW ?_; first | refine LW_nil ?_ | (refine isLcall ?_; first | (refine LW_call (cap := []) rfl rfl ent39 (find_call W _ L R d D n hs ho hn) ?_; clear hs; rintro _ w ⟨rfl, hs⟩; rw [hx])) | refine LW_pure TOK rfl ?_) | (with_reducible first | refine then_n ?_ | refine CW_seq ?_ | refine CW_region ?_ | refine CW_ret ?_ | refine then_r ?_) | refine CW_true rfl ?_ | refine RET1 Tryd.results33 rfl ?_))
    exact ⟨rfl, Sat.closeD ho hs⟩
theorem syncdir_call (W w : World) (L : List HProp) (d : Nat) (D : DS) (hs : Sat W w (HD d D :: L)) :
    Calls Tryd.prog 34 [Value.pointer (some ⟨d, 0, none⟩)].toArray w (Ret fun v w' => v = .int .i64 D.syncdir.1 ∧ Sat W w' (HD d D.syncdir.2 :: L)) := by
  refine Calls_of Tryd.func34 rfl 24 Tryd.ntmps34 rfl ?_
  obtain ⟨R, ho, hs⟩ := Sat.openD hs
  unfold DS.syncdir
  by_cases hd : D.down = true
  · rw [if_pos hd]
    obtain ⟨q, fs, now, las, chs, left, down⟩ := D
    dsimp only at hd
    subst hd
    (repeat' (first | (refine isLW ?_; first | refine LW_nil ?_ | (refine isLload ?_; first | refine LW_loadC 0 TOK hs rfl rfl rfl rfl rfl ?_) | refine LW_pure TOK rfl ?_) | (with_reducible first | refine then_n ?_ | refine CW_seq ?_ | refine CW_region ?_ | refine CW_ret ?_ | refine then_r ?_) | refine CW_true rfl ?_ | refine RET1 Tryd.results34 rfl ?_))
    exact ⟨rfl, Sat.closeD ho hs⟩
  · rw [if_neg hd]
    have hd' : D.down = false := by simpa using hd
    obtain ⟨D1, hD1⟩ : ∃ D1, D.turn.2 = D1 := ⟨_, rfl⟩
    obtain ⟨e1, e2, e3, e4, e5⟩ := turn_fields D
    rw [hD1] at e1 e2 e3 e4 e5 ⊢
    by_cases h2 : D.turn.1 = 0
    · rw [if_pos h2]
      have hcells : getA (dCells R D) 6 = some (.bool false) := by simp only [getA, dCells, hd']
      (repeat' (first | refine LW_loadC 0 TOK hs rfl rfl rfl rfl hcells ?_ | (refine isLW ?_; first | refine LW_nil ?_ | (refine isLload ?_; first | refine LW_loadC 0 TOK hs rfl rfl rfl rfl rfl ?_) | (refine isLstore ?_; first | (refine LW_storeC 1 TOK hs rfl rfl rfl rfl rfl rfl rfl ?_; clear hs; intro w hs)) | (refine isLcall ?_; first | (refine LW_call (cap := []) rfl rfl ent41 (turn_call W _ L R d D hs ho) ?_; clear hs; rintro _ w ⟨rfl, lf, ho1, hs⟩; rw [h2]; rw [hD1] at ho1 hs) | (refine LW_call (cap := []) rfl rfl ent31 (CloneM_call W _ _ R.bN R.ckN _ 1 hs rfl) ?_; clear hs; rintro _ w ⟨b2, rfl, hs⟩)) | (refine isLbin ?_; first | (refine LW_cmp rfl (fun _ => ?_) (fun _ => ?_) <;> try (exfalso; omega))) | refine LW_pure TOK rfl ?_) | (with_reducible first | refine then_n ?_ | refine CW_seq ?_ | refine CW_region ?_ | refine CW_skip ?_ | refine CW_ret ?_) | refine CW_false rfl ?_ | refine RET1 Tryd.results34 rfl ?_))
      have h8 := ((((hs.picks [3]).drop1.picks [3]).drop1.nilRow 80 3).picks [2, 2, 1, 0])
      refine ⟨rfl, Sat.closeD (R := { R with lf := lf, bL := b2, ckL := R.ckN, EL := R.EN, A := none, c := 0 }) ⟨ho1.mN, by rw [← e2]; exact ho1.mN, ho1.fs, ho1.lf, ho1.lb⟩ ?_⟩
      exact h8
    · rw [if_neg h2]
      have hcells : getA (dCells R D) 6 = some (.bool false) := by simp only [getA, dCells, hd']
      (repeat' (first | refine LW_loadC 0 TOK hs rfl rfl rfl rfl hcells ?_ | (refine isLW ?_; first | refine LW_nil ?_ | (refine isLcall ?_; first | (refine LW_call (cap := []) rfl rfl ent41 (turn_call W _ L R d D hs ho) ?_; clear hs; rintro _ w ⟨rfl, lf, ho1, hs⟩)) | (refine isLbin ?_; first | (refine LW_cmp rfl (fun _ => ?_) (fun _ => ?_) <;> try (exfalso; omega))) | refine LW_pure TOK rfl ?_) | (with_reducible first | refine then_n ?_ | refine CW_seq ?_ | refine CW_region ?_ | refine CW_skip ?_ | refine CW_ret ?_ | refine then_r ?_) | refine CW_true rfl ?_ | refine CW_false rfl ?_ | refine RET1 Tryd.results34 rfl ?_))
      exact ⟨rfl, Sat.closeD ho1 hs⟩
theorem down_call (W w : World) (L : List HProp) (d : Nat) (D : DS) (hs : Sat W w (HD d D :: L)) :
    Calls Tryd.prog 23 [Value.pointer (some ⟨d, 0, none⟩)].toArray w (Ret fun v w' => v = .bool D.down ∧ Sat W w' (HD d D :: L)) := by
  refine Calls_of Tryd.func23 rfl 7 Tryd.ntmps23 rfl ?_
  obtain ⟨R, ho, hs⟩ := Sat.openD hs
  (repeat' (first | (refine isLW ?_; first | refine LW_nil ?_ | (refine isLload ?_; first | refine LW_loadC 0 TOK hs rfl rfl rfl rfl rfl ?_) | refine LW_pure TOK rfl ?_) | (with_reducible first | refine then_n ?_ | refine CW_seq ?_ | refine CW_region ?_ | refine CW_ret ?_) | refine RET1 Tryd.results23 rfl ?_))
  exact ⟨rfl, Sat.closeD ho hs⟩
theorem arm_call (W w : World) (L : List HProp) (d : Nat) (D : DS) (n : Int) (hn : -9223372036854775808 ≤ n ∧ n ≤ 9223372036854775807) (hs : Sat W w (HD d D :: L)) :
    Calls Tryd.prog 16 [Value.pointer (some ⟨d, 0, none⟩), .int .i64 n].toArray w (Ret fun v w' => v = .tuple #[] ∧ Sat W w' (HD d (D.arm n) :: L)) := by
  refine Calls_of Tryd.func16 rfl 18 Tryd.ntmps16 rfl ?_
  obtain ⟨R, ho, hs⟩ := Sat.openD hs
  unfold DS.arm
  obtain ⟨q, fs, now, las, chs, left, down⟩ := D
  cases down with
  | true =>
    (repeat' (first | (refine isLW ?_; first | refine LW_nil ?_ | (refine isLload ?_; first | refine LW_loadC 0 TOK hs rfl rfl rfl rfl rfl ?_) | refine LW_pure TOK rfl ?_) | (with_reducible first | refine then_n ?_ | refine CW_seq ?_ | refine CW_region ?_ | refine CW_skip ?_) | refine CW_false rfl ?_ | refine RET0 Tryd.results16 ?_))
    exact ⟨rfl, Sat.closeD ho hs⟩
  | false =>
    rw [if_neg (by simp)]
    by_cases h0 : 0 ≤ n
    · rw [if_pos h0]
      (repeat' (first | (refine isLW ?_; first | refine LW_nil ?_ | (refine isLload ?_; first | refine LW_loadC 0 TOK hs rfl rfl rfl rfl rfl ?_) | (refine isLstore ?_; first | (refine LW_storeC 0 TOK hs rfl rfl rfl rfl rfl rfl rfl ?_; clear hs; intro w hs)) | (refine isLbin ?_; first | (refine LW_cmp rfl (fun _ => ?_) (fun _ => ?_) <;> try (exfalso; omega))) | refine LW_pure TOK rfl ?_) | (with_reducible first | refine then_n ?_ | refine CW_seq ?_ | refine CW_region ?_) | refine CW_true rfl ?_ | refine RET0 Tryd.results16 ?_))
      refine ⟨rfl, Sat.closeD (R := { R with lf := n }) ⟨ho.mN, ho.mL, ho.fs, fun k hk => ?_, hn⟩ hs⟩
      cases hk
      show n = _
      omega
    · rw [if_neg h0]
      (repeat' (first | (refine isLW ?_; first | refine LW_nil ?_ | (refine isLload ?_; first | refine LW_loadC 0 TOK hs rfl rfl rfl rfl rfl ?_) | (refine isLstore ?_; first | (refine LW_storeC 0 TOK hs rfl rfl rfl rfl rfl rfl rfl ?_; clear hs; intro w hs)) | (refine isLbin ?_; first | (refine LW_cmp rfl (fun _ => ?_) (fun _ => ?_) <;> try (exfalso; omega))) | refine LW_pure TOK rfl ?_) | (with_reducible first | refine then_n ?_ | refine CW_seq ?_ | refine CW_region ?_) | refine CW_true rfl ?_ | refine RET0 Tryd.results16 ?_))
      exact ⟨rfl, Sat.closeD (R := { R with lf := n }) ⟨ho.mN, ho.mL, ho.fs, fun k hk => (by cases hk), hn⟩ hs⟩
theorem now_len {D : DS} (h : Fit D) : D.now.length ≤ 2199023255552 := by
  have h1 := h.good.keptNow.nd
  have h2 : ∀ {l : List Nat} {k : Nat}, l.Nodup → (∀ i ∈ l, i < k) → l.length ≤ k := fun {l} {k} hn hs => by
    have := len_le_of_nodup hn (l2 := List.range k) (fun x hx => List.mem_range.2 (hs x hx))
    simpa using this
  have h3 := h2 h1 (fun i hi => h.good.ltNow hi)
  have h4 := h.fs
  unfold idsL at h3
  rw [List.length_map] at h3
  omega
theorem list_call (W w : World) (L : List HProp) (d : Nat) (D : DS) (hs : Sat W w (HD d D :: L)) (hf : Fit D) :
    Calls Tryd.prog 32 [Value.pointer (some ⟨d, 0, none⟩)].toArray w (Ret fun v w' => ∃ A c, v = .slice A D.list.length c ∧ Sat W w' (RowOf eN 9 1 A c D.list :: HD d D :: L)) := by
  refine Calls_of Tryd.func32 rfl 12 Tryd.ntmps32 rfl ?_
  obtain ⟨R, ho, hs⟩ := Sat.openD hs
  have hnl := now_len hf
  have hel := ho.mN.perm.length_eq
  rw [List.length_map] at hel
  unfold DS.list
  by_cases hd : D.down = true
  · rw [if_pos hd]
    obtain ⟨q, fs, now, las, chs, left, down⟩ := D
    dsimp only at hd
    subst hd
    (repeat' (first | (refine isLW ?_; first | refine LW_nil ?_ | (refine isLload ?_; first | refine LW_loadC 0 TOK hs rfl rfl rfl rfl rfl ?_) | refine LW_pure TOK rfl ?_) | (with_reducible first | refine then_n ?_ | refine CW_seq ?_ | refine CW_region ?_ | refine CW_ret ?_ | refine then_r ?_) | refine CW_true rfl ?_ | refine RET1 Tryd.results32 rfl ?_))
    exact ⟨none, 0, rfl, (Sat.closeD ho hs).nilRow 9 1⟩
  · rw [if_neg hd]
    have hd' : D.down = false := by simpa using hd
    have hcells : getA (dCells R D) 6 = some (.bool false) := by simp only [getA, dCells, hd']
    (repeat' (first | refine LW_loadC 0 TOK hs rfl rfl rfl rfl hcells ?_ | (refine isLW ?_; first | refine LW_nil ?_ | (refine isLload ?_; first | refine LW_loadC 0 TOK hs rfl rfl rfl rfl rfl ?_) | (refine isLcall ?_; first | (refine LW_call (cap := []) rfl rfl ent36 (rising_call W _ _ R.EN R.bs R.ckN D.now R.bN ho.mN (by omega) (hs.picks [1])) ?_; clear hs; rintro _ w ⟨A1, c1, rfl, hs⟩)) | refine LW_pure TOK rfl ?_) | (with_reducible first | refine then_n ?_ | refine CW_seq ?_ | refine CW_region ?_ | refine CW_skip ?_ | refine CW_ret ?_) | refine CW_false rfl ?_ | refine RET1 Tryd.results32 rfl ?_))
    exact ⟨A1, c1, rfl, (Sat.closeD ho (L := _ :: L) (hs.picks [2, 1, 1, 1, 1])).picks [1]⟩
end Go.Proofs.YthhklkpkhaibcaaDoor
