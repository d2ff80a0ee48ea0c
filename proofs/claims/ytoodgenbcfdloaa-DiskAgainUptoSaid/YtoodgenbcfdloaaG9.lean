/- Walks: the other changing calls of a disk. -/
import Derived.Test.YtoodgenbcfdloaaG8
set_option linter.unusedVariables false
set_option linter.unusedSimpArgs false
namespace Go.Proofs.Ytoodgenbcfdloaa
open Go Go.Sl Go.RowKit
set_option maxRecDepth 100000
attribute [local irreducible] CW LW DW FR DP Calls

theorem nn {p : Prop} (h : ¬ ¬ p) : p := Classical.byContradiction h
theorem min_k (a : Nat) (k : Int) (h : 0 ≤ k) : (if k < (a : Int) then k else (a : Int)) = ((min a k.toNat : Nat) : Int) := by
  split <;> omega
theorem sync_call (W w : World) (L : List HProp) (d : Nat) (D : DS) (n : Nm) (hs : Sat W w (HD d D :: L)) (hf : Fit D) (hn : n.length ≤ 140737488355328) :
    Calls Try.prog 57 [Value.pointer (some ⟨d, 0, none⟩), sv n].toArray w (Ret fun v w' => v = .int .i64 (D.sync n).1 ∧ Sat W w' (HD d (D.sync n).2 :: L)) := by
  refine Calls_of Try.func57 rfl 28 Try.ntmps57 rfl ?_
  obtain ⟨R, ho, hs⟩ := Sat.openD hs
  obtain ⟨x, hx⟩ : ∃ x, D.find n = x := ⟨_, rfl⟩
  have hid := @Good.findId D hf.good n
  unfold DS.sync
  rw [hx] at hid ⊢
  by_cases h0 : x.1 = 0
  · rw [if_pos h0]
    by_cases h2 : D.turn.1 = 0
    · rw [if_pos h2]
      (repeat' (first | (refine isLW ?_; first | refine LW_nil ?_ | (refine isLcall ?_; first | (refine LW_call (cap := []) rfl rfl ent69 (find_call W _ L R d D n hs ho hn) ?_; clear hs; rintro _ w ⟨rfl, hs⟩; rw [hx, fptr_0 h0, h0]) | (refine LW_call (cap := []) rfl rfl ent70 (turn_call W _ L R d D hs ho) ?_; clear hs; rintro _ w ⟨rfl, lf, ho1, hs⟩; rw [h2])) | (refine isLbin ?_; first | (refine LW_cmp rfl (fun _ => ?_) (fun _ => ?_) <;> try (exfalso; omega))) | refine LW_pure TOK rfl ?_) | (with_reducible first | refine then_n ?_ | refine CW_seq ?_ | refine CW_region ?_) | refine CW_true rfl ?_))
      have hid := hid h0
      have hlt : x.2 < D.turn.2.fs.length := by rw [(turn_fields D).1]; exact hf.good.idlt _ hid
      obtain ⟨f, l1, l2, hF, hl1, hff, hg, hs⟩ := Sat.openF hs ho1 hlt
      have hfd : f.f = D.fl x.2 := by rw [hff, (turn_dat D _).2]
      have hg' : R.bs.getD x.2 0 = f.b := hg
      simp only [ptv, hg']
      (repeat' (first | (refine isLW ?_; first | refine LW_nil ?_ | (refine isLload ?_; first | refine LW_loadC 0 TOK hs rfl rfl rfl rfl rfl ?_) | (refine isLstore ?_; first | (refine LW_storeC 0 TOK hs rfl rfl rfl rfl rfl rfl rfl ?_; clear hs; intro w hs)) | (refine isLcall ?_; first | refine LW_pure TOK rfl ?_) | refine LW_pure TOK rfl ?_) | (with_reducible first | refine then_n ?_ | refine CW_seq ?_ | refine CW_region ?_ | refine CW_ret ?_) | refine RET1 Try.results57 rfl ?_))
      obtain ⟨ho2, hs2⟩ := Sat.closeF (x' := ⟨f.b, f.A, f.c, ⟨f.f.data, f.f.data.length⟩⟩) ho1 hF rfl hs
      rw [hl1] at ho2 hs2
      have e : D.dat x.2 = f.f.data := by rw [hfd]; rfl
      rw [e]
      exact ⟨rfl, Sat.closeD ho2 hs2⟩
    · rw [if_neg h2]
      (repeat' (first | (refine LW_cmp rfl (fun hq => absurd hq h2) (fun _ => ?_)) | (refine isLW ?_; first | refine LW_nil ?_ | (refine isLcall ?_; first | (refine LW_call (cap := []) rfl rfl ent69 (find_call W _ L R d D n hs ho hn) ?_; clear hs; rintro _ w ⟨rfl, hs⟩; rw [hx, fptr_0 h0, h0]) | (refine LW_call (cap := []) rfl rfl ent70 (turn_call W _ L R d D hs ho) ?_; clear hs; rintro _ w ⟨rfl, lf, ho1, hs⟩)) | (refine isLbin ?_; first | (refine LW_cmp rfl (fun _ => ?_) (fun _ => ?_) <;> try (exfalso; omega))) | refine LW_pure TOK rfl ?_) | (with_reducible first | refine then_n ?_ | refine CW_seq ?_ | refine CW_region ?_ | refine CW_skip ?_ | refine CW_ret ?_) | refine CW_true rfl ?_ | refine CW_false rfl ?_ | refine RET1 Try.results57 rfl ?_))
      exact ⟨rfl, Sat.closeD ho1 hs⟩
  · rw [if_neg h0]
    (repeat' (first | (refine LW_cmp rfl (fun hq => absurd hq h0) (fun _ => ?_)) | (refine isLW ?_; first | refine LW_nil ?_ | (refine isLcall ?_; first | (refine LW_call (cap := []) rfl rfl ent69 (find_call W _ L R d D n hs ho hn) ?_; clear hs; rintro _ w ⟨rfl, hs⟩; rw [hx])) | refine LW_pure TOK rfl ?_) | (with_reducible first | refine then_n ?_ | refine CW_seq ?_ | refine CW_region ?_ | refine CW_skip ?_ | refine CW_ret ?_) | refine CW_false rfl ?_ | refine RET1 Try.results57 rfl ?_))
    exact ⟨rfl, Sat.closeD ho hs⟩
theorem trunc_call (W w : World) (L : List HProp) (d : Nat) (D : DS) (n : Nm) (k : Int) (hs : Sat W w (HD d D :: L)) (hf : Fit D) (hn : n.length ≤ 140737488355328) :
    Calls Try.prog 71 [Value.pointer (some ⟨d, 0, none⟩), sv n, .int .i64 k].toArray w (Ret fun v w' => v = .int .i64 (D.trunc n k).1 ∧ Sat W w' (HD d (D.trunc n k).2 :: L)) := by
  refine Calls_of Try.func71 rfl 53 Try.ntmps71 rfl ?_
  obtain ⟨R, ho, hs⟩ := Sat.openD hs
  obtain ⟨x, hx⟩ : ∃ x, D.find n = x := ⟨_, rfl⟩
  have hid := @Good.findId D hf.good n
  unfold DS.trunc
  rw [hx] at hid ⊢
  by_cases h0 : x.1 = 0
  · rw [if_pos h0]
    have hid := hid h0
    have hlt0 : x.2 < D.fs.length := hf.good.idlt _ hid
    have hlt : x.2 < D.turn.2.fs.length := by rw [(turn_fields D).1]; exact hlt0
    by_cases hkn : k < 0
    · rw [if_pos (.inl hkn)]
      (repeat' (first | (refine isLW ?_; first | refine LW_nil ?_ | (refine isLg ?_; first | refine LW_pass rfl rfl ?_) | (refine isLcall ?_; first | (refine LW_call (cap := []) rfl rfl ent69 (find_call W _ L R d D n hs ho hn) ?_; clear hs; rintro _ w ⟨rfl, hs⟩; rw [hx, fptr_0 h0, h0])) | (refine isLbin ?_; first | (refine LW_cmp rfl (fun _ => ?_) (fun _ => ?_) <;> try (exfalso; omega))) | refine LW_pure TOK rfl ?_) | (with_reducible first | refine then_n ?_ | refine CW_seq ?_ | refine CW_region ?_ | refine CW_skip ?_ | refine CW_ret ?_ | refine then_r ?_) | refine CW_true rfl ?_ | refine CW_false rfl ?_ | refine RET1 Try.results71 rfl ?_))
      exact ⟨rfl, Sat.closeD ho hs⟩
    by_cases hk : ((D.dat x.2).length : Int) < k
    · rw [if_pos (.inr hk)]
      (repeat' (first | (refine isLW ?_; first | refine LW_nil ?_ | (refine isLg ?_; first | refine LW_take rfl ?_) | (refine isLcall ?_; first | (refine LW_call (cap := []) rfl rfl ent69 (find_call W _ L R d D n hs ho hn) ?_; clear hs; rintro _ w ⟨rfl, hs⟩; rw [hx, fptr_0 h0, h0])) | (refine isLbin ?_; first | (refine LW_cmp rfl (fun _ => ?_) (fun _ => ?_) <;> try (exfalso; omega))) | refine LW_pure TOK rfl ?_) | (with_reducible first | refine then_n ?_ | refine CW_seq ?_ | refine CW_region ?_ | refine CW_skip ?_) | refine CW_false rfl ?_))
      obtain ⟨f, l1, l2, hF, hl1, hff, hg, hs⟩ := Sat.openF hs ho hlt0
      have hfl : f.f.data.length = (D.dat x.2).length := by rw [hff]; rfl
      simp only [ptv, hg]
      (repeat' (first | (refine isLW ?_; first | refine LW_nil ?_ | (refine isLg ?_; first | refine LW_take rfl ?_) | (refine isLload ?_; first | refine LW_loadC 0 TOK hs rfl rfl rfl rfl rfl ?_) | (refine isLcall ?_; first | refine LW_pure TOK rfl ?_) | (refine isLbin ?_; first | (refine LW_cmp rfl (fun _ => ?_) (fun _ => ?_) <;> try (exfalso; omega))) | refine LW_pure TOK rfl ?_) | (with_reducible first | refine then_n ?_ | refine CW_seq ?_ | refine CW_region ?_ | refine CW_ret ?_ | refine then_r ?_) | refine CW_true rfl ?_ | refine RET1 Try.results71 rfl ?_))
      exact ⟨rfl, Sat.closeD ho (Sat.shutF hF hs)⟩
    rw [if_neg (fun h => h.elim hkn hk)]
    by_cases h2 : D.turn.1 = 0
    · rw [if_pos h2]
      (repeat' (first | (refine isLW ?_; first | refine LW_nil ?_ | (refine isLg ?_; first | refine LW_take rfl ?_) | (refine isLcall ?_; first | (refine LW_call (cap := []) rfl rfl ent69 (find_call W _ L R d D n hs ho hn) ?_; clear hs; rintro _ w ⟨rfl, hs⟩; rw [hx, fptr_0 h0, h0])) | (refine isLbin ?_; first | (refine LW_cmp rfl (fun _ => ?_) (fun _ => ?_) <;> try (exfalso; omega))) | refine LW_pure TOK rfl ?_) | (with_reducible first | refine then_n ?_ | refine CW_seq ?_ | refine CW_region ?_ | refine CW_skip ?_) | refine CW_false rfl ?_))
      obtain ⟨f, l1, l2, hF, hl1, hff, hg, hs⟩ := Sat.openF hs ho hlt0
      have hfl : f.f.data.length = (D.dat x.2).length := by rw [hff]; rfl
      simp only [ptv, hg]
      (repeat' (first | (refine isLW ?_; first | refine LW_nil ?_ | (refine isLg ?_; first | refine LW_take rfl ?_) | (refine isLload ?_; first | refine LW_loadC 0 TOK hs rfl rfl rfl rfl rfl ?_) | (refine isLcall ?_; first | (refine LW_call (cap := []) rfl rfl ent70 (turn_call W _ L R d D (Sat.shutF hF hs) ho) ?_; clear hs hF hff hl1 hfl; rintro _ w ⟨rfl, lf, ho1, hs⟩; rw [h2]) | refine LW_pure TOK rfl ?_) | (refine isLbin ?_; first | (refine LW_cmp rfl (fun _ => ?_) (fun _ => ?_) <;> try (exfalso; omega))) | refine LW_pure TOK rfl ?_) | (with_reducible first | refine then_n ?_ | refine CW_seq ?_ | refine CW_region ?_ | refine CW_skip ?_) | refine CW_false rfl ?_))
      obtain ⟨f1, l1, l2, hF, hl1, hff, hg', hs⟩ := Sat.openF hs ho1 hlt
      have hfb : f.b = f1.b := by rw [← hg, ← hg']; rfl
      have hfd : f1.f = D.fl x.2 := by rw [hff, (turn_dat D _).2]
      have hfl : f1.f.data.length = (D.dat x.2).length := by rw [hfd]; rfl
      have hrow := (hs.picks [1]).rowLe
      rw [hfb]
      (repeat' (first | (refine isLW ?_; first | refine LW_nil ?_ | (refine isLload ?_; first | refine LW_loadC 0 TOK hs rfl rfl rfl rfl rfl ?_) | (refine isLstore ?_; first | (refine LW_storeC 0 TOK hs rfl rfl rfl rfl rfl rfl rfl ?_; clear hs; intro w hs)) | refine LW_sliceH TOK rfl rfl rfl rfl rfl (by omega) (by omega) ?_ | refine LW_min2 _ rfl rfl (min_k f1.f.syn k (by omega)) ?_ | refine LW_pure TOK rfl ?_) | (with_reducible first | refine then_n ?_ | refine CW_seq ?_ | refine CW_region ?_ | refine CW_ret ?_) | refine RET1 Try.results71 rfl ?_))
      have hs3 := (((hs.picks [1]).cutFront (n := k.toNat) (by omega) (by omega)).picks [1])
      have ecut : (f1.f.data.flatMap eB).take (k.toNat * 1) = (f1.f.data.take k.toNat).flatMap eB := by
        rw [Nat.mul_one]
        have h7 : f1.f.data.flatMap eB = (f1.f.data.take k.toNat).flatMap eB ++ (f1.f.data.drop k.toNat).flatMap eB := by rw [← List.flatMap_append, List.take_append_drop]
        have h8 : ((f1.f.data.take k.toNat).flatMap eB).length = k.toNat := by rw [flat_len eB_ok.1, List.length_take]; omega
        rw [h7, ← h8]
        simp only [h8]
        rw [List.take_left' h8]
      have elen : (f1.f.data.take k.toNat).length = k.toNat := by rw [List.length_take]; omega
      obtain ⟨ho2, hs2⟩ := Sat.closeF (x' := ⟨f1.b, f1.A, f1.c, ⟨f1.f.data.take k.toNat, min f1.f.syn k.toNat⟩⟩) ho1 hF rfl (by
        dsimp only [RowOf]
        rw [elen, ← ecut]
        exact hs3)
      rw [hl1] at ho2 hs2
      have e : (D.dat x.2).take k.toNat = f1.f.data.take k.toNat := by rw [hfd]; rfl
      rw [e, ← hfd]
      exact ⟨rfl, Sat.closeD ho2 hs2⟩
    · rw [if_neg h2]
      (repeat' (first | (refine isLW ?_; first | refine LW_nil ?_ | (refine isLg ?_; first | refine LW_take rfl ?_) | (refine isLcall ?_; first | (refine LW_call (cap := []) rfl rfl ent69 (find_call W _ L R d D n hs ho hn) ?_; clear hs; rintro _ w ⟨rfl, hs⟩; rw [hx, fptr_0 h0, h0])) | (refine isLbin ?_; first | (refine LW_cmp rfl (fun _ => ?_) (fun _ => ?_) <;> try (exfalso; omega))) | refine LW_pure TOK rfl ?_) | (with_reducible first | refine then_n ?_ | refine CW_seq ?_ | refine CW_region ?_ | refine CW_skip ?_) | refine CW_false rfl ?_))
      obtain ⟨f, l1, l2, hF, hl1, hff, hg, hs⟩ := Sat.openF hs ho hlt0
      have hfl : f.f.data.length = (D.dat x.2).length := by rw [hff]; rfl
      simp only [ptv, hg]
      (repeat' (first | (refine isLW ?_; first | refine LW_nil ?_ | (refine isLg ?_; first | refine LW_take rfl ?_) | (refine isLload ?_; first | refine LW_loadC 0 TOK hs rfl rfl rfl rfl rfl ?_) | (refine isLcall ?_; first | (refine LW_call (cap := []) rfl rfl ent70 (turn_call W _ L R d D (Sat.shutF hF hs) ho) ?_; clear hs hF hff hl1 hfl; rintro _ w ⟨rfl, lf, ho1, hs⟩) | refine LW_pure TOK rfl ?_) | (refine isLbin ?_; first | (refine LW_cmp rfl (fun _ => ?_) (fun _ => ?_) <;> try (exfalso; omega))) | refine LW_pure TOK rfl ?_) | (with_reducible first | refine then_n ?_ | refine CW_seq ?_ | refine CW_region ?_ | refine CW_skip ?_ | refine CW_ret ?_ | refine then_r ?_) | refine CW_true rfl ?_ | refine CW_false rfl ?_ | refine RET1 Try.results71 rfl ?_))
      exact ⟨rfl, Sat.closeD ho1 hs⟩
  · rw [if_neg h0]
    (repeat' (first | (refine LW_cmp rfl (fun _ => ?_) (fun hq => absurd h0 hq)) | (refine isLW ?_; first | refine LW_nil ?_ | (refine isLcall ?_; first | (refine LW_call (cap := []) rfl rfl ent69 (find_call W _ L R d D n hs ho hn) ?_; clear hs; rintro _ w ⟨rfl, hs⟩; rw [hx])) | refine LW_pure TOK rfl ?_) | (with_reducible first | refine then_n ?_ | refine CW_seq ?_ | refine CW_region ?_ | refine CW_ret ?_ | refine then_r ?_) | refine CW_true rfl ?_ | refine RET1 Try.results71 rfl ?_))
    exact ⟨rfl, Sat.closeD ho hs⟩
end Go.Proofs.Ytoodgenbcfdloaa
