/- Walks: the names of a map as a sorted list. -/
import Derived.Test.YthhklkpkhaibcaaDoorG2
set_option linter.unusedVariables false
set_option linter.unusedSimpArgs false
namespace Go.Proofs.YthhklkpkhaibcaaDoor
open Go Go.Sl Go.RowKit
set_option maxRecDepth 100000
attribute [local irreducible] CW LW DW FR DP Calls RM Yld Begin AfterP

theorem AppendSeq_call (W w : World) (L : List HProp) (E : List Ent') (bs : List Nat) (ck : Nat) (S : Names) (b pm : Nat) (hm : MapOf E ck S) (hl : E.length ≤ 4398046511104)
    (hs : Sat W w (Mp keyN b (kvs bs E) ck :: Cl pm [.map (some b)] 66 :: L)) :
    Calls Tryd.prog 52 [.slice none 0 0, .func (.func 47) #[] #[.pointer (some ⟨pm, 0, none⟩)]].toArray w
      (Ret fun v w' => ∃ A c ks, v = .slice A ks.length c ∧ ks.Perm (S.map (·.1)) ∧ Sat W w' (RowOf eN 9 1 A c ks :: Mp keyN b (kvs bs E) ck :: L)) := by
  refine Calls_ofM Tryd.func52 rfl 13 Tryd.ntmps52 rfl ?_
  (repeat' (first | (refine isLW ?_; first | refine LW_nil ?_ | refine LW_pure TOK rfl ?_ | (refine LW_box hs rfl rfl ?_; clear hs; intro _ w hs)) | (with_reducible first | refine then_n ?_ | refine CW_seq ?_ | refine CW_region ?_ | refine CW_block ?_)))
  rename_i p2
  replace hs := (hs.nilRow 9 1).picks [2, 2, 1]
  refine CWP_range hs rfl ent47 fun fn1 l1 D1 w1 hs1 => ?_
  clear hs
  obtain ⟨X1, hX1, hs1⟩ := hs1.name0
  refine Sl.Calls.ret (Keys1_call W w1 E bs ck S b pm l1 _ hm (fun pre R => ∃ A c, R = X1 :: Bk D1 (.deferred (some [])) :: Cl p2 [.slice A pre.length c] 26 :: RowOf eN 9 1 A c pre :: L) ⟨none, 0, rfl⟩ (hs1.picks [2, 2]) ?_) ?_
  · clear hs1
    rintro pre x own _ w hpl ⟨A1, c1, rfl⟩ hs
    rw [hX1] at hs ⊢
    refine YldP_of 3 hs rfl ?_
    (repeat' (first | (refine isLW ?_; first | refine LW_nil ?_ | (refine isLload ?_; first | refine LW_loadC 5 TOK hs rfl rfl rfl rfl rfl ?_) | (refine isLstore ?_; first | (refine LW_storeC 5 TOK hs rfl rfl rfl rfl rfl rfl rfl ?_; clear hs; intro w hs)) | (refine isLcall ?_; first | (refine LW_append1 6 eN_ok (z := x) hs TOK rfl rfl rfl rfl rfl rfl rfl rfl rfl rfl (by unfold maxLen; omega) (by simp only []; omega) ?_; clear hs; intro A9 c9 w hs)) | refine LW_pure TOK rfl ?_ | (refine LW_buildSlice TOK hs rfl rfl rfl rfl rfl rfl rfl ?_; clear hs; intro _ w hs)) | (with_reducible first | refine then_n ?_ | refine CW_region ?_ | refine CW_block ?_ | refine blk_n ?_) | (refine BeginP_of 3 hs rfl ?_; clear hs; intro w hs) | (refine RPP_n 3 hs rfl ?_; clear hs; intro w hs)))
    exact ⟨rfl, _, hs, A9, c9, rfl⟩
  rintro _ w ⟨_, ks, _, hs, ⟨A1, c1, rfl⟩, hp⟩
  unfold AfterP
  rw [hX1] at hs
  refine ⟨[Bk D1 (.deferred (some [])), Cl p2 [.slice A1 ks.length c1] 26, RowOf eN 9 1 A1 c1 ks, Mp keyN b (kvs bs E) ck, Cl pm [.map (some b)] 66] ++ L, .ready, none, hs.picks [2, 2, 2, 2], by simp, fun w hs => ?_⟩
  clear hX1 hs1
  dsimp only
  (repeat' (first | (refine isLW ?_; first | refine LW_nil ?_ | (refine isLload ?_; first | refine LW_loadC 1 TOK hs rfl rfl rfl rfl rfl ?_) | refine LW_pure TOK rfl ?_) | (with_reducible first | refine then_n ?_ | refine CW_seq ?_ | refine CW_region ?_ | refine CW_ret ?_ | refine blk_n ?_) | (refine M_take 0 hs rfl ?_; clear hs; intro w hs) | refine M_r ?_ | refine M_end1 Tryd.results52 rfl ?_))
  exact ⟨A1, c1, ks, rfl, hp, (hs.drop1.drop1.picks [2]).drop1⟩
theorem Collect_call (W w : World) (L : List HProp) (E : List Ent') (bs : List Nat) (ck : Nat) (S : Names) (b pm : Nat) (hm : MapOf E ck S) (hl : E.length ≤ 4398046511104)
    (hs : Sat W w (Mp keyN b (kvs bs E) ck :: Cl pm [.map (some b)] 66 :: L)) :
    Calls Tryd.prog 45 [.func (.func 47) #[] #[.pointer (some ⟨pm, 0, none⟩)]].toArray w
      (Ret fun v w' => ∃ A c ks, v = .slice A ks.length c ∧ ks.Perm (S.map (·.1)) ∧ Sat W w' (RowOf eN 9 1 A c ks :: Mp keyN b (kvs bs E) ck :: L)) := by
  refine Calls_of Tryd.func45 rfl 5 Tryd.ntmps45 rfl ?_
  (repeat' (first | (refine isLW ?_; first | refine LW_nil ?_ | (refine isLcall ?_; first | (refine LW_call (cap := []) rfl rfl ent52 (AppendSeq_call W w L E bs ck S b pm hm hl hs) ?_; clear hs; rintro _ w ⟨A, c, ks, rfl, hp, hs⟩)) | refine LW_pure TOK rfl ?_) | (with_reducible first | refine then_n ?_ | refine CW_seq ?_ | refine CW_region ?_ | refine CW_ret ?_) | refine RET1 Tryd.results45 rfl ?_))
  exact ⟨A, c, ks, rfl, hp, hs⟩
theorem sortN_srt {ks : List Nm} {S : Names} (hS : Srt S) (h : ks.Perm (S.map (·.1))) : sortN ks = S.map (·.1) := by
  have h1 : (sortN ks).Perm (S.map (·.1)) := (List.mergeSort_perm ks _).trans h
  have h2 : (sortN ks).Pairwise (fun u v => u ≤ v) := by
    have := List.pairwise_mergeSort (le := fun u v : Nm => decide (u ≤ v)) (fun a b c h1 h2 => by
      simp only [decide_eq_true_eq] at *; exact List.le_trans h1 h2) (fun a b => by
      simp only [Bool.or_eq_true, decide_eq_true_eq]; exact List.le_total a b) ks
    exact this.imp fun h => by simpa using h
  have h3 : (S.map (·.1)).Pairwise (fun u v => u ≤ v) := by
    rw [List.pairwise_map]
    exact hS.imp fun h => List.le_of_lt h
  exact List.Perm.eq_of_pairwise (fun a b _ _ h1 h2 => List.le_antisymm h1 h2) h2 h3 h1
theorem Sorted_call (W w : World) (L : List HProp) (E : List Ent') (bs : List Nat) (ck : Nat) (S : Names) (b pm : Nat) (hm : MapOf E ck S) (hl : E.length ≤ 4398046511104)
    (hs : Sat W w (Mp keyN b (kvs bs E) ck :: Cl pm [.map (some b)] 66 :: L)) :
    Calls Tryd.prog 42 [.func (.func 47) #[] #[.pointer (some ⟨pm, 0, none⟩)]].toArray w
      (Ret fun v w' => ∃ A c, v = .slice A (S.map (·.1)).length c ∧ Sat W w' (RowOf eN 9 1 A c (S.map (·.1)) :: Mp keyN b (kvs bs E) ck :: L)) := by
  refine Calls_of Tryd.func42 rfl 9 Tryd.ntmps42 rfl ?_
  (repeat' (first | (refine isLW ?_; first | refine LW_nil ?_ | (refine isLcall ?_; first | (refine LW_call (cap := []) rfl rfl ent45 (Collect_call W w L E bs ck S b pm hm hl hs) ?_; clear hs; rintro _ w ⟨A, c, ks, rfl, hp, hs⟩) | (refine LW_call (cap := []) rfl rfl ent46 (Sort_call W _ _ A c _ hs ?_) ?_; rotate_left; clear hs; rintro _ w ⟨rfl, hs⟩)) | refine LW_pure TOK rfl ?_) | (with_reducible first | refine then_n ?_ | refine CW_seq ?_ | refine CW_region ?_ | refine CW_ret ?_) | refine RET1 Tryd.results42 rfl ?_))
  · have e := sortN_srt hm.srt hp
    have e2 : ks.length = (S.map (·.1)).length := hp.length_eq
    rw [e] at hs
    rw [e2]
    exact ⟨A, c, rfl, hs⟩
  · have e2 : ks.length = (S.map (·.1)).length := hp.length_eq
    have e3 := hm.perm.length_eq
    simp at e2 e3; omega
theorem rising_call (W w : World) (L : List HProp) (E : List Ent') (bs : List Nat) (ck : Nat) (S : Names) (b : Nat) (hm : MapOf E ck S) (hl : E.length ≤ 4398046511104)
    (hs : Sat W w (Mp keyN b (kvs bs E) ck :: L)) :
    Calls Tryd.prog 36 [.map (some b)].toArray w
      (Ret fun v w' => ∃ A c, v = .slice A (S.map (·.1)).length c ∧ Sat W w' (RowOf eN 9 1 A c (S.map (·.1)) :: Mp keyN b (kvs bs E) ck :: L)) := by
  refine Calls_of Tryd.func36 rfl 6 Tryd.ntmps36 rfl ?_
  (repeat' (first | (refine isLW ?_; first | refine LW_nil ?_ | (refine isLcall ?_; first | (refine LW_call (cap := []) rfl rfl ent43 (Keys_call W w _ b hs) ?_; clear hs; rintro _ w ⟨pm, rfl, hs⟩; replace hs := hs.picks [1]) | (refine LW_call (cap := []) rfl rfl ent42 (Sorted_call W w L E bs ck S b pm hm hl hs) ?_; clear hs; rintro _ w ⟨A, c, rfl, hs⟩)) | refine LW_pure TOK rfl ?_) | (with_reducible first | refine then_n ?_ | refine CW_seq ?_ | refine CW_region ?_ | refine CW_ret ?_) | refine RET1 Tryd.results36 rfl ?_))
  exact ⟨A, c, rfl, hs⟩
end Go.Proofs.YthhklkpkhaibcaaDoor
