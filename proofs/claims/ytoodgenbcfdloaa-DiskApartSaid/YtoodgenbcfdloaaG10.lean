/- Walks: the changing calls of names; what is asked of a disk. -/
import Derived.Test.YtoodgenbcfdloaaG9
set_option linter.unusedVariables false
set_option linter.unusedSimpArgs false
namespace Go.Proofs.Ytoodgenbcfdloaa
open Go Go.Sl Go.RowKit
set_option maxRecDepth 100000
attribute [local irreducible] CW LW DW FR DP Calls

theorem remove_call (W w : World) (L : List HProp) (d : Nat) (D : DS) (n : Nm) (hs : Sat W w (HD d D :: L)) (hf : Fit D) (hn : n.length ≤ 140737488355328) :
    Calls Try.prog 37 [Value.pointer (some ⟨d, 0, none⟩), sv n].toArray w (Ret fun v w' => v = .int .i64 (D.remove n).1 ∧ Sat W w' (HD d (D.remove n).2 :: L)) := by
  refine Calls_of Try.func37 rfl 20 Try.ntmps37 rfl ?_
  obtain ⟨R, ho, hs⟩ := Sat.openD hs
  obtain ⟨x, hx⟩ : ∃ x, D.find n = x := ⟨_, rfl⟩
  have hok := @find_ok D n
  unfold DS.remove
  rw [hx] at hok ⊢
  by_cases h0 : x.1 = 0
  · rw [if_pos h0]
    obtain ⟨_, hp, hfn⟩ := hok h0
    (repeat' (first | (refine isLW ?_; first | refine LW_nil ?_ | (refine isLcall ?_; first | (refine LW_call (cap := []) rfl rfl ent69 (find_call W _ L R d D n hs ho hn) ?_; clear hs; rintro _ w ⟨rfl, hs⟩; rw [hx, h0]) | (refine LW_call (cap := []) rfl rfl ent73 (note_call W _ L R d D ⟨n, [], none⟩ hs ho (.inr ⟨hp, rfl, by rw [hfn]; rfl, .inl rfl⟩) hf.chs) ?_; clear hs; rintro _ w ⟨rfl, R', _, ho2, hs⟩)) | (refine isLbin ?_; first | (refine LW_cmp rfl (fun _ => ?_) (fun _ => ?_) <;> try (exfalso; omega))) | refine LW_pure TOK rfl ?_ | refine LW_build TOK rfl rfl rfl rfl rfl rfl ?_) | (with_reducible first | refine then_n ?_ | refine CW_seq ?_ | refine CW_region ?_ | refine CW_skip ?_ | refine CW_ret ?_) | refine CW_false rfl ?_ | refine RET1 Try.results37 rfl ?_))
    exact ⟨rfl, Sat.closeD ho2 hs⟩
  · rw [if_neg h0]
    (repeat' (first | (refine LW_cmp rfl (fun _ => ?_) (fun hq => absurd h0 hq)) | (refine isLW ?_; first | refine LW_nil ?_ | (refine isLcall ?_; first | (refine LW_call (cap := []) rfl rfl ent69 (find_call W _ L R d D n hs ho hn) ?_; clear hs; rintro _ w ⟨rfl, hs⟩; rw [hx])) | refine LW_pure TOK rfl ?_) | (with_reducible first | refine then_n ?_ | refine CW_seq ?_ | refine CW_region ?_ | refine CW_ret ?_ | refine then_r ?_) | refine CW_true rfl ?_ | refine RET1 Try.results37 rfl ?_))
    exact ⟨rfl, Sat.closeD ho hs⟩
theorem rename_call (W w : World) (L : List HProp) (d : Nat) (D : DS) (a b : Nm) (hs : Sat W w (HD d D :: L)) (hf : Fit D) (ha : a.length ≤ 140737488355328) (hb : b.length ≤ 140737488355328) :
    Calls Try.prog 72 [Value.pointer (some ⟨d, 0, none⟩), sv a, sv b].toArray w (Ret fun v w' => v = .int .i64 (D.rename a b).1 ∧ Sat W w' (HD d (D.rename a b).2 :: L)) := by
  refine Calls_of Try.func72 rfl 34 Try.ntmps72 rfl ?_
  obtain ⟨R, ho, hs⟩ := Sat.openD hs
  have hl := hf.chs
  have hv := ho.mN.find R.bs a
  unfold DS.rename
  obtain ⟨q, fs, now, las, chs, left, down⟩ := D
  cases down with
  | true =>
    (repeat' (first | (refine isLW ?_; first | refine LW_nil ?_ | (refine isLload ?_; first | refine LW_loadC 0 TOK hs rfl rfl rfl rfl rfl ?_) | refine LW_pure TOK rfl ?_) | (with_reducible first | refine then_n ?_ | refine CW_seq ?_ | refine CW_region ?_ | refine CW_block ?_ | refine CW_ret ?_ | refine then_r ?_ | refine blk_r ?_) | refine CW_true rfl ?_ | refine RET1 Try.results72 rfl ?_))
    exact ⟨rfl, Sat.closeD ho hs⟩
  | false =>
    rw [if_neg (by simp)]
    cases hpa : pathB a with
    | false =>
      rw [if_pos (.inl rfl)]
      (repeat' (first | (refine isLW ?_; first | refine LW_nil ?_ | (refine isLg ?_; first | refine LW_pass rfl rfl ?_) | (refine isLload ?_; first | refine LW_loadC 0 TOK hs rfl rfl rfl rfl rfl ?_) | (refine isLcall ?_; first | (refine LW_call (cap := []) rfl rfl ent58 (path_call _ a ha) ?_; rintro _ w ⟨rfl, hs2⟩; replace hs := hs.and0 hs2; clear hs2; rw [hpa])) | refine LW_pure TOK rfl ?_) | (with_reducible first | refine then_n ?_ | refine CW_seq ?_ | refine CW_region ?_ | refine CW_block ?_ | refine CW_ret ?_ | refine then_r ?_ | refine blk_r ?_) | refine CW_true rfl ?_ | refine CW_false rfl ?_ | refine RET1 Try.results72 rfl ?_))
      exact ⟨rfl, Sat.closeD ho hs⟩
    | true =>
      cases hpb : pathB b with
      | false =>
        rw [if_pos (.inr rfl)]
        (repeat' (first | (refine isLW ?_; first | refine LW_nil ?_ | (refine isLg ?_; first | refine LW_take rfl ?_) | (refine isLload ?_; first | refine LW_loadC 0 TOK hs rfl rfl rfl rfl rfl ?_) | (refine isLcall ?_; first | (refine LW_call (cap := []) rfl rfl ent58 (path_call _ a ha) ?_; rintro _ w ⟨rfl, hs2⟩; replace hs := hs.and0 hs2; clear hs2; rw [hpa]) | (refine LW_call (cap := []) rfl rfl ent58 (path_call _ b hb) ?_; rintro _ w ⟨rfl, hs2⟩; replace hs := hs.and0 hs2; clear hs2; rw [hpb])) | refine LW_pure TOK rfl ?_) | (with_reducible first | refine then_n ?_ | refine CW_seq ?_ | refine CW_region ?_ | refine CW_block ?_ | refine CW_ret ?_ | refine then_r ?_ | refine blk_r ?_) | refine CW_true rfl ?_ | refine CW_false rfl ?_ | refine RET1 Try.results72 rfl ?_))
        exact ⟨rfl, Sat.closeD ho hs⟩
      | true =>
        rw [if_neg (by simp)]
        dsimp only at hv ⊢
        cases hfa : fnd now a with
        | none =>
          rw [if_pos rfl]
          have hv2 : (findV (kvs R.bs R.EN) a).getD (.pointer none) = .pointer none := by rw [hv, hfa]; rfl
          (repeat' (first | refine LW_lookup keyN 1 (k := a) hs TOK rfl rfl rfl rfl rfl rfl rfl rfl hv2 ?_ | (refine isLW ?_; first | refine LW_nil ?_ | (refine isLg ?_; first | refine LW_take rfl ?_) | (refine isLload ?_; first | refine LW_loadC 0 TOK hs rfl rfl rfl rfl rfl ?_) | (refine isLcall ?_; first | (refine LW_call (cap := []) rfl rfl ent58 (path_call _ a ha) ?_; rintro _ w ⟨rfl, hs2⟩; replace hs := hs.and0 hs2; clear hs2; rw [hpa]) | (refine LW_call (cap := []) rfl rfl ent58 (path_call _ b hb) ?_; rintro _ w ⟨rfl, hs2⟩; replace hs := hs.and0 hs2; clear hs2; rw [hpb])) | (refine isLbin ?_; first | refine LW_nileq TOK rfl ?_) | refine LW_pure TOK rfl ?_) | (with_reducible first | refine then_n ?_ | refine CW_seq ?_ | refine CW_region ?_ | refine CW_block ?_ | refine CW_ret ?_ | refine then_r ?_ | refine blk_r ?_) | refine CW_true rfl ?_ | refine CW_false rfl ?_ | refine RET1 Try.results72 rfl ?_))
          exact ⟨rfl, Sat.closeD ho hs⟩
        | some i =>
          rw [if_neg (by simp)]
          have hv2 : (findV (kvs R.bs R.EN) a).getD (.pointer none) = ptv R.bs i := by rw [hv, hfa]; rfl
          have hok : okC now ⟨a, b, none⟩ := .inr ⟨hpa, rfl, by rw [hfa]; rfl, .inr hpb⟩
          (repeat' (first | refine LW_lookup keyN 1 (k := a) hs TOK rfl rfl rfl rfl rfl rfl rfl rfl hv2 ?_ | (refine isLW ?_; first | refine LW_nil ?_ | (refine isLg ?_; first | refine LW_take rfl ?_) | (refine isLload ?_; first | refine LW_loadC 0 TOK hs rfl rfl rfl rfl rfl ?_) | (refine isLcall ?_; first | (refine LW_call (cap := []) rfl rfl ent58 (path_call _ a ha) ?_; rintro _ w ⟨rfl, hs2⟩; replace hs := hs.and0 hs2; clear hs2; rw [hpa]) | (refine LW_call (cap := []) rfl rfl ent58 (path_call _ b hb) ?_; rintro _ w ⟨rfl, hs2⟩; replace hs := hs.and0 hs2; clear hs2; rw [hpb]) | (refine LW_call (cap := []) rfl rfl ent73 (note_call W _ L R d _ ⟨a, b, none⟩ hs ho hok hl) ?_; clear hs; rintro _ w ⟨rfl, R', _, ho2, hs⟩)) | (refine isLbin ?_; first | refine LW_nileq TOK rfl ?_) | refine LW_pure TOK rfl ?_ | refine LW_build TOK rfl rfl rfl rfl rfl rfl ?_) | (with_reducible first | refine then_n ?_ | refine CW_seq ?_ | refine CW_region ?_ | refine CW_block ?_ | refine CW_skip ?_ | refine CW_ret ?_ | refine blk_n ?_) | refine CW_false rfl ?_ | refine RET1 Try.results72 rfl ?_))
          exact ⟨rfl, Sat.closeD ho2 hs⟩
theorem syncdir_call (W w : World) (L : List HProp) (d : Nat) (D : DS) (hs : Sat W w (HD d D :: L)) :
    Calls Try.prog 49 [Value.pointer (some ⟨d, 0, none⟩)].toArray w (Ret fun v w' => v = .int .i64 D.syncdir.1 ∧ Sat W w' (HD d D.syncdir.2 :: L)) := by
  refine Calls_of Try.func49 rfl 24 Try.ntmps49 rfl ?_
  obtain ⟨R, ho, hs⟩ := Sat.openD hs
  unfold DS.syncdir
  by_cases hd : D.down = true
  · rw [if_pos hd]
    obtain ⟨q, fs, now, las, chs, left, down⟩ := D
    dsimp only at hd
    subst hd
    (repeat' (first | (refine isLW ?_; first | refine LW_nil ?_ | (refine isLload ?_; first | refine LW_loadC 0 TOK hs rfl rfl rfl rfl rfl ?_) | refine LW_pure TOK rfl ?_) | (with_reducible first | refine then_n ?_ | refine CW_seq ?_ | refine CW_region ?_ | refine CW_ret ?_ | refine then_r ?_) | refine CW_true rfl ?_ | refine RET1 Try.results49 rfl ?_))
    exact ⟨rfl, Sat.closeD ho hs⟩
  · rw [if_neg hd]
    have hd' : D.down = false := by simpa using hd
    obtain ⟨D1, hD1⟩ : ∃ D1, D.turn.2 = D1 := ⟨_, rfl⟩
    obtain ⟨e1, e2, e3, e4, e5⟩ := turn_fields D
    rw [hD1] at e1 e2 e3 e4 e5 ⊢
    by_cases h2 : D.turn.1 = 0
    · rw [if_pos h2]
      have hcells : getA (dCells R D) 6 = some (.bool false) := by simp only [getA, dCells, hd']
      (repeat' (first | refine LW_loadC 0 TOK hs rfl rfl rfl rfl hcells ?_ | (refine isLW ?_; first | refine LW_nil ?_ | (refine isLload ?_; first | refine LW_loadC 0 TOK hs rfl rfl rfl rfl rfl ?_) | (refine isLstore ?_; first | (refine LW_storeC 1 TOK hs rfl rfl rfl rfl rfl rfl rfl ?_; clear hs; intro w hs)) | (refine isLcall ?_; first | (refine LW_call (cap := []) rfl rfl ent70 (turn_call W _ L R d D hs ho) ?_; clear hs; rintro _ w ⟨rfl, lf, ho1, hs⟩; rw [h2]; rw [hD1] at ho1 hs) | (refine LW_call (cap := []) rfl rfl ent60 (CloneM_call W _ _ R.bN R.ckN _ 1 hs rfl) ?_; clear hs; rintro _ w ⟨b2, rfl, hs⟩)) | (refine isLbin ?_; first | (refine LW_cmp rfl (fun _ => ?_) (fun _ => ?_) <;> try (exfalso; omega))) | refine LW_pure TOK rfl ?_) | (with_reducible first | refine then_n ?_ | refine CW_seq ?_ | refine CW_region ?_ | refine CW_skip ?_ | refine CW_ret ?_) | refine CW_false rfl ?_ | refine RET1 Try.results49 rfl ?_))
      have h8 := ((((hs.picks [3]).drop1.picks [3]).drop1.nilRow 116 3).picks [2, 2, 1, 0])
      refine ⟨rfl, Sat.closeD (R := { R with lf := lf, bL := b2, ckL := R.ckN, EL := R.EN, A := none, c := 0 }) ⟨ho1.mN, by rw [← e2]; exact ho1.mN, ho1.fs, ho1.lf, ho1.lb⟩ ?_⟩
      exact h8
    · rw [if_neg h2]
      have hcells : getA (dCells R D) 6 = some (.bool false) := by simp only [getA, dCells, hd']
      (repeat' (first | refine LW_loadC 0 TOK hs rfl rfl rfl rfl hcells ?_ | (refine isLW ?_; first | refine LW_nil ?_ | (refine isLcall ?_; first | (refine LW_call (cap := []) rfl rfl ent70 (turn_call W _ L R d D hs ho) ?_; clear hs; rintro _ w ⟨rfl, lf, ho1, hs⟩)) | (refine isLbin ?_; first | (refine LW_cmp rfl (fun _ => ?_) (fun _ => ?_) <;> try (exfalso; omega))) | refine LW_pure TOK rfl ?_) | (with_reducible first | refine then_n ?_ | refine CW_seq ?_ | refine CW_region ?_ | refine CW_skip ?_ | refine CW_ret ?_ | refine then_r ?_) | refine CW_true rfl ?_ | refine CW_false rfl ?_ | refine RET1 Try.results49 rfl ?_))
      exact ⟨rfl, Sat.closeD ho1 hs⟩
theorem down_call (W w : World) (L : List HProp) (d : Nat) (D : DS) (hs : Sat W w (HD d D :: L)) :
    Calls Try.prog 47 [Value.pointer (some ⟨d, 0, none⟩)].toArray w (Ret fun v w' => v = .bool D.down ∧ Sat W w' (HD d D :: L)) := by
  refine Calls_of Try.func47 rfl 7 Try.ntmps47 rfl ?_
  obtain ⟨R, ho, hs⟩ := Sat.openD hs
  (repeat' (first | (refine isLW ?_; first | refine LW_nil ?_ | (refine isLload ?_; first | refine LW_loadC 0 TOK hs rfl rfl rfl rfl rfl ?_) | refine LW_pure TOK rfl ?_) | (with_reducible first | refine then_n ?_ | refine CW_seq ?_ | refine CW_region ?_ | refine CW_ret ?_) | refine RET1 Try.results47 rfl ?_))
  exact ⟨rfl, Sat.closeD ho hs⟩
theorem arm_call (W w : World) (L : List HProp) (d : Nat) (D : DS) (n : Int) (hn : -9223372036854775808 ≤ n ∧ n ≤ 9223372036854775807) (hs : Sat W w (HD d D :: L)) :
    Calls Try.prog 48 [Value.pointer (some ⟨d, 0, none⟩), .int .i64 n].toArray w (Ret fun v w' => v = .tuple #[] ∧ Sat W w' (HD d (D.arm n) :: L)) := by
  refine Calls_of Try.func48 rfl 18 Try.ntmps48 rfl ?_
  obtain ⟨R, ho, hs⟩ := Sat.openD hs
  unfold DS.arm
  obtain ⟨q, fs, now, las, chs, left, down⟩ := D
  cases down with
  | true =>
    (repeat' (first | (refine isLW ?_; first | refine LW_nil ?_ | (refine isLload ?_; first | refine LW_loadC 0 TOK hs rfl rfl rfl rfl rfl ?_) | refine LW_pure TOK rfl ?_) | (with_reducible first | refine then_n ?_ | refine CW_seq ?_ | refine CW_region ?_ | refine CW_skip ?_) | refine CW_false rfl ?_ | refine RET0 Try.results48 ?_))
    exact ⟨rfl, Sat.closeD ho hs⟩
  | false =>
    rw [if_neg (by simp)]
    by_cases h0 : 0 ≤ n
    · rw [if_pos h0]
      (repeat' (first | (refine isLW ?_; first | refine LW_nil ?_ | (refine isLload ?_; first | refine LW_loadC 0 TOK hs rfl rfl rfl rfl rfl ?_) | (refine isLstore ?_; first | (refine LW_storeC 0 TOK hs rfl rfl rfl rfl rfl rfl rfl ?_; clear hs; intro w hs)) | (refine isLbin ?_; first | (refine LW_cmp rfl (fun _ => ?_) (fun _ => ?_) <;> try (exfalso; omega))) | refine LW_pure TOK rfl ?_) | (with_reducible first | refine then_n ?_ | refine CW_seq ?_ | refine CW_region ?_) | refine CW_true rfl ?_ | refine RET0 Try.results48 ?_))
      refine ⟨rfl, Sat.closeD (R := { R with lf := n }) ⟨ho.mN, ho.mL, ho.fs, fun k hk => ?_, hn⟩ hs⟩
      cases hk
      show n = _
      omega
    · rw [if_neg h0]
      (repeat' (first | (refine isLW ?_; first | refine LW_nil ?_ | (refine isLload ?_; first | refine LW_loadC 0 TOK hs rfl rfl rfl rfl rfl ?_) | (refine isLstore ?_; first | (refine LW_storeC 0 TOK hs rfl rfl rfl rfl rfl rfl rfl ?_; clear hs; intro w hs)) | (refine isLbin ?_; first | (refine LW_cmp rfl (fun _ => ?_) (fun _ => ?_) <;> try (exfalso; omega))) | refine LW_pure TOK rfl ?_) | (with_reducible first | refine then_n ?_ | refine CW_seq ?_ | refine CW_region ?_) | refine CW_true rfl ?_ | refine RET0 Try.results48 ?_))
      exact ⟨rfl, Sat.closeD (R := { R with lf := n }) ⟨ho.mN, ho.mL, ho.fs, fun k hk => (by cases hk), hn⟩ hs⟩
theorem read_call (W w : World) (L : List HProp) (d : Nat) (D : DS) (n : Nm) (hs : Sat W w (HD d D :: L)) (hf : Fit D) (hn : n.length ≤ 140737488355328) :
    Calls Try.prog 26 [Value.pointer (some ⟨d, 0, none⟩), sv n].toArray w (Ret fun v w' => ∃ A c, v = .tuple #[.slice A (D.read n).length c, .int .i64 (D.find n).1] ∧ Sat W w' (RowOf eB 5 1 A c (D.read n) :: HD d D :: L)) := by
  refine Calls_of Try.func26 rfl 22 Try.ntmps26 rfl ?_
  obtain ⟨R, ho, hs⟩ := Sat.openD hs
  obtain ⟨x, hx⟩ : ∃ x, D.find n = x := ⟨_, rfl⟩
  have hid := @Good.findId D hf.good n
  unfold DS.read
  rw [hx] at hid ⊢
  have hq := hf.good.quota
  have hrm := hf.good.room
  by_cases h0 : x.1 = 0
  · rw [if_pos h0]
    have hid := hid h0
    have hlt : x.2 < D.fs.length := hf.good.idlt _ hid
    have hdl := dat_le hf.good hid
    (repeat' (first | (refine isLW ?_; first | refine LW_nil ?_ | (refine isLcall ?_; first | (refine LW_call (cap := []) rfl rfl ent69 (find_call W _ L R d D n hs ho hn) ?_; clear hs; rintro _ w ⟨rfl, hs⟩; rw [hx, fptr_0 h0, h0])) | (refine isLbin ?_; first | (refine LW_cmp rfl (fun _ => ?_) (fun _ => ?_) <;> try (exfalso; omega))) | refine LW_pure TOK rfl ?_) | (with_reducible first | refine then_n ?_ | refine CW_seq ?_ | refine CW_region ?_ | refine CW_skip ?_) | refine CW_false rfl ?_))
    obtain ⟨f, l1, l2, hF, hl1, hff, hg, hs⟩ := Sat.openF hs ho hlt
    have hfl : D.dat x.2 = f.f.data := by rw [hff]; rfl
    rw [hfl] at hdl ⊢
    simp only [ptv, hg]
    (repeat' (first | (refine isLW ?_; first | refine LW_nil ?_ | (refine isLload ?_; first | refine LW_loadC 0 TOK hs rfl rfl rfl rfl rfl ?_) | (refine isLcall ?_; first | (refine LW_call (cap := []) rfl rfl ent59 (CloneB_call w f.f.data f.A f.c (hs.rd 1 rfl) (by omega)) ?_; rintro _ w ⟨A1, c1, rfl, hs2⟩; replace hs := hs.and1 hs2; clear hs2)) | refine LW_pure TOK rfl ?_) | (with_reducible first | refine then_n ?_ | refine CW_ret ?_) | refine RET2 Try.results26 rfl rfl ?_))
    refine ⟨A1, c1, rfl, ?_⟩
    have h5 := Sat.shutF hF (L := _ :: L) (hs.picks [1, 1, 1, 1, 1, 1, 1])
    exact (Sat.closeD ho h5).picks [1]
  · rw [if_neg h0]
    (repeat' (first | (refine LW_cmp rfl (fun _ => ?_) (fun hq => absurd h0 hq)) | (refine isLW ?_; first | refine LW_nil ?_ | (refine isLcall ?_; first | (refine LW_call (cap := []) rfl rfl ent69 (find_call W _ L R d D n hs ho hn) ?_; clear hs; rintro _ w ⟨rfl, hs⟩; rw [hx])) | refine LW_pure TOK rfl ?_) | (with_reducible first | refine then_n ?_ | refine CW_seq ?_ | refine CW_region ?_ | refine CW_ret ?_ | refine then_r ?_) | refine CW_true rfl ?_ | refine RET2 Try.results26 rfl rfl ?_))
    exact ⟨none, 0, rfl, (Sat.closeD ho hs).nilRow 5 1⟩
theorem now_len {D : DS} (h : Fit D) : D.now.length ≤ 2199023255552 := by
  have h1 := h.good.keptNow.nd
  have h2 : ∀ {l : List Nat} {k : Nat}, l.Nodup → (∀ i ∈ l, i < k) → l.length ≤ k := fun {l} {k} hn hs => by
    have := len_le_of_nodup hn (l2 := List.range k) (fun x hx => List.mem_range.2 (hs x hx))
    simpa using this
  have h3 := h2 h1 (fun i hi => h.good.ltNow hi)
  have h4 := h.fs
  unfold idsL at h3
  rw [List.length_map] at h3
  omega
theorem list_call (W w : World) (L : List HProp) (d : Nat) (D : DS) (hs : Sat W w (HD d D :: L)) (hf : Fit D) :
    Calls Try.prog 38 [Value.pointer (some ⟨d, 0, none⟩)].toArray w (Ret fun v w' => ∃ A c, v = .slice A D.list.length c ∧ Sat W w' (RowOf eN 9 1 A c D.list :: HD d D :: L)) := by
  refine Calls_of Try.func38 rfl 12 Try.ntmps38 rfl ?_
  obtain ⟨R, ho, hs⟩ := Sat.openD hs
  have hnl := now_len hf
  have hel := ho.mN.perm.length_eq
  rw [List.length_map] at hel
  unfold DS.list
  by_cases hd : D.down = true
  · rw [if_pos hd]
    obtain ⟨q, fs, now, las, chs, left, down⟩ := D
    dsimp only at hd
    subst hd
    (repeat' (first | (refine isLW ?_; first | refine LW_nil ?_ | (refine isLload ?_; first | refine LW_loadC 0 TOK hs rfl rfl rfl rfl rfl ?_) | refine LW_pure TOK rfl ?_) | (with_reducible first | refine then_n ?_ | refine CW_seq ?_ | refine CW_region ?_ | refine CW_ret ?_ | refine then_r ?_) | refine CW_true rfl ?_ | refine RET1 Try.results38 rfl ?_))
    exact ⟨none, 0, rfl, (Sat.closeD ho hs).nilRow 9 1⟩
  · rw [if_neg hd]
    have hd' : D.down = false := by simpa using hd
    have hcells : getA (dCells R D) 6 = some (.bool false) := by simp only [getA, dCells, hd']
    (repeat' (first | refine LW_loadC 0 TOK hs rfl rfl rfl rfl hcells ?_ | (refine isLW ?_; first | refine LW_nil ?_ | (refine isLload ?_; first | refine LW_loadC 0 TOK hs rfl rfl rfl rfl rfl ?_) | (refine isLcall ?_; first | (refine LW_call (cap := []) rfl rfl ent65 (rising_call W _ _ R.EN R.bs R.ckN D.now R.bN ho.mN (by omega) (hs.picks [1])) ?_; clear hs; rintro _ w ⟨A1, c1, rfl, hs⟩)) | refine LW_pure TOK rfl ?_) | (with_reducible first | refine then_n ?_ | refine CW_seq ?_ | refine CW_region ?_ | refine CW_skip ?_ | refine CW_ret ?_) | refine CW_false rfl ?_ | refine RET1 Try.results38 rfl ?_))
    exact ⟨A1, c1, rfl, (Sat.closeD ho (L := _ :: L) (hs.picks [2, 1, 1, 1, 1])).picks [1]⟩
end Go.Proofs.Ytoodgenbcfdloaa
