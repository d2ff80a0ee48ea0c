/- Walks: the changing calls of a disk. -/
import Derived.Test.YtoodgenbcfdloaaG7
set_option linter.unusedVariables false
set_option linter.unusedSimpArgs false
namespace Go.Proofs.Ytoodgenbcfdloaa
open Go Go.Sl Go.RowKit
set_option maxRecDepth 100000
attribute [local irreducible] CW LW DW FR DP Calls

/-- What a call asks of the disk: its parts fit, and it is no greater than a machine. -/
structure Fit (D : DS) : Prop where
  good : Good D
  chs : D.chs.length ≤ 2199023255552
  fs : D.fs.length ≤ 2199023255552
theorem Fit.bd {D : DS} (h : Fit D) : Bd D := h.good.st.bd
theorem turn_bd {D : DS} (h : Bd D) : Bd D.turn.2 := by
  obtain ⟨e1, e2, e3, e4, e5⟩ := turn_fields D
  exact ⟨by rw [e2, e1]; exact h.now, by rw [e3, e1]; exact h.las, by rw [e4, e1]; exact h.chs⟩
theorem create_call (W w : World) (L : List HProp) (d : Nat) (D : DS) (n : Nm) (hs : Sat W w (HD d D :: L)) (hf : Fit D) (hn : n.length ≤ 140737488355328) :
    Calls Try.prog 36 [Value.pointer (some ⟨d, 0, none⟩), sv n].toArray w (Ret fun v w' => v = .int .i64 (D.create n).1 ∧ Sat W w' (HD d (D.create n).2 :: L)) := by
  refine Calls_of Try.func36 rfl 25 Try.ntmps36 rfl ?_
  obtain ⟨R, ho, hs⟩ := Sat.openD hs
  obtain ⟨x, hx⟩ : ∃ x, D.find n = x := ⟨_, rfl⟩
  have h63 := @find_63 D n
  unfold DS.create
  rw [hx] at h63 ⊢
  obtain ⟨D1, hD1⟩ : ∃ D1 : DS, D1 = { D with fs := D.fs ++ [⟨[], 0⟩] } := ⟨_, rfl⟩
  have hb := hf.bd
  have hl := hf.chs
  (repeat' (first | (refine isLW ?_; first | refine LW_nil ?_ | (refine isLcall ?_; first | (refine LW_call (cap := []) rfl rfl ent69 (find_call W _ L R d D n hs ho hn) ?_; clear hs; rintro _ w ⟨rfl, hs⟩; rw [hx])) | (refine isLbin ?_; first | (refine LW_cmp rfl (fun _ => ?_) (fun _ => ?_) <;> try (exfalso; omega))) | refine LW_pure TOK rfl ?_ | (refine LW_box hs rfl rfl ?_; clear hs; intro _ w hs) | refine LW_build TOK rfl rfl rfl rfl rfl rfl ?_) | (with_reducible first | refine then_n ?_ | refine CW_seq ?_ | refine CW_region ?_ | refine CW_block ?_ | refine CW_skip ?_ | refine CW_ret ?_ | refine then_r ?_ | refine blk_n ?_ | refine blk_r ?_) | refine CW_true rfl ?_ | refine CW_false rfl ?_ | refine RET1 Try.results36 rfl ?_))
  · have h0 : x.1 = 0 := by assumption
    rw [if_pos h0]
    exact ⟨rfl, Sat.closeD ho hs⟩
  · rename_i b
    have h0 : ¬ x.1 = 0 := by assumption
    have h3 : x.1 = 63 := by assumption
    obtain ⟨_, hp, hfn⟩ := h63 h3
    have hs1 : Sat W w (Fm.L ⟨b, none, 0, ⟨[], 0⟩⟩ :: (R.L d D ++ L)) := Sat.mkBig (l := [_, _]) ((hs.nilRow 5 1).picks [1])
    obtain ⟨ho1, hs1⟩ := Sat.addF ho hb hs1
    rw [← hD1] at ho1 hs1
    have hc1 := note_call W w L _ d D1 ⟨[], n, some D.fs.length⟩ hs1 ho1 (by rw [hD1]; exact .inl ⟨rfl, rfl, hp, hfn⟩) (by rw [hD1]; exact hl)
    have hbs : Rp.bs { R with F := R.F ++ [⟨b, none, 0, ⟨[], 0⟩⟩] } = R.bs ++ [b] := by simp [Rp.bs]
    have hv : eC (R.bs ++ [b]) ⟨[], n, some D.fs.length⟩ = [sv [], sv n, .pointer (some ⟨b, 0, none⟩)] := by
      have e : (R.bs ++ [b]).getD D.fs.length 0 = b := by
        have : D.fs.length = R.bs.length := by rw [R.bsLen, ho.len]
        simp [List.getD, this]
      simp only [eC, ptm, ptv, e]
    rw [hbs, hv] at hc1
    rw [if_neg h0, if_pos h3]
    have ht : D1.turn = (D.turn.1, { D.turn.2 with fs := D.turn.2.fs ++ [⟨[], 0⟩] }) := by
      rw [hD1]; unfold DS.turn
      dsimp only
      split <;> rfl
    have hnt : D1.note ⟨[], n, some D.fs.length⟩ = if D.turn.1 = 0 then (0, DS.noted { D.turn.2 with fs := D.turn.2.fs ++ [⟨[], 0⟩] } ⟨[], n, some D.fs.length⟩) else (D.turn.1, { D.turn.2 with fs := D.turn.2.fs ++ [⟨[], 0⟩] }) := by
      unfold DS.note; rw [ht]
    rw [hnt] at hc1
    clear hs hs1 hnt
    by_cases htt : D.turn.1 = 0
    · rw [if_pos htt] at hc1 ⊢
      (repeat' (first | (refine isLW ?_; first | refine LW_nil ?_ | (refine isLcall ?_; first | (refine LW_call (cap := []) rfl rfl ent73 hc1 ?_; rintro _ w ⟨rfl, R', _, ho2, hs⟩)) | refine LW_pure TOK rfl ?_) | (with_reducible first | refine then_n ?_ | refine CW_ret ?_ | refine then_r ?_ | refine blk_r ?_) | refine RET1 Try.results36 rfl ?_))
      exact ⟨rfl, Sat.closeD ho2 hs⟩
    · rw [if_neg htt] at hc1 ⊢
      (repeat' (first | (refine isLW ?_; first | refine LW_nil ?_ | (refine isLcall ?_; first | (refine LW_call (cap := []) rfl rfl ent73 hc1 ?_; rintro _ w ⟨rfl, R', hF', ho2, hs⟩)) | refine LW_pure TOK rfl ?_) | (with_reducible first | refine then_n ?_ | refine CW_ret ?_ | refine then_r ?_ | refine blk_r ?_) | refine RET1 Try.results36 rfl ?_))
      refine ⟨rfl, ?_⟩
      obtain ⟨bN, ckN, EN, bL, ckL, EL, A, c, F, lf⟩ := R'
      dsimp only at hF'
      subst hF'
      have ho3 : Rp.Of ⟨bN, ckN, EN, bL, ckL, EL, A, c, R.F, lf⟩ D.turn.2 := ⟨ho2.mN, ho2.mL, by rw [(turn_fields D).1]; exact ho.fs, ho2.lf, ho2.lb⟩
      exact Sat.closeD ho3 (Sat.dropF ho3 (turn_bd hb) hs)
  · have h0 : ¬ x.1 = 0 := by assumption
    have h3 : ¬ x.1 = 63 := by assumption
    rw [if_neg h0, if_neg h3]
    exact ⟨rfl, Sat.closeD ho hs⟩
theorem Sat.tail5 {W w : World} {L : List HProp} {R : Rp} {d : Nat} {D : DS} (hs : Sat W w (R.L d D ++ L)) : Sat W w L := hs.drop1.drop1.drop1.drop1.drop1
theorem fptr_0 {bs : List Nat} {x : Int × Nat} (h : x.1 = 0) : fptr bs x = ptv bs x.2 := if_pos h
theorem Fit.free {D : DS} (h : Fit D) : D.free ≤ 4194304 := by
  unfold DS.free
  have := h.good.quota
  split <;> omega
theorem append_call (W w : World) (L : List HProp) (d : Nat) (D : DS) (n : Nm) (B : Option Addr) (cb : Nat) (ys : List UInt8) (hs : Sat W w (HD d D :: L)) (hf : Fit D) (hn : n.length ≤ 140737488355328) (hy : ys.length ≤ 140737488355328) (hr : ∀ w', Sat W w' L → Rd eB w' B ys) :
    Calls Try.prog 25 [Value.pointer (some ⟨d, 0, none⟩), sv n, .slice B ys.length cb].toArray w (Ret fun v w' => v = .int .i64 (D.append n ys).1 ∧ Sat W w' (HD d (D.append n ys).2 :: L)) := by
  refine Calls_of Try.func25 rfl 38 Try.ntmps25 rfl ?_
  obtain ⟨R, ho, hs⟩ := Sat.openD hs
  obtain ⟨x, hx⟩ : ∃ x, D.find n = x := ⟨_, rfl⟩
  have hok := @find_ok D n
  have hid := @Good.findId D hf.good n
  unfold DS.append
  rw [hx] at hok hid ⊢
  have hb := hf.bd
  have hl := hf.chs
  have hfr := hf.free
  have hq := hf.good.quota
  have hrm := hf.good.room
  obtain ⟨fr, hfre⟩ : ∃ fr, D.free = fr := ⟨_, rfl⟩
  rw [hfre] at hfr ⊢
  (repeat' (first | (refine isLW ?_; first | refine LW_nil ?_ | (refine isLcall ?_; first | (refine LW_call (cap := []) rfl rfl ent69 (find_call W _ L R d D n hs ho hn) ?_; clear hs; rintro _ w ⟨rfl, hs⟩; rw [hx]) | (refine LW_call (cap := []) rfl rfl ent32 (free_call W _ L R d D hs ho hb (by omega) hq (by omega)) ?_; clear hs; rintro _ w ⟨rfl, hs⟩; rw [hfre]) | (refine LW_call (cap := []) rfl rfl ent70 (turn_call W _ L R d D hs ho) ?_; clear hs; rintro _ w ⟨rfl, lf, ho1, hs⟩) | refine LW_pure TOK rfl ?_) | (refine isLbin ?_; first | (refine LW_cmp rfl (fun _ => ?_) (fun _ => ?_) <;> try (exfalso; omega))) | refine LW_pure TOK rfl ?_) | (with_reducible first | refine then_n ?_ | refine CW_seq ?_ | refine CW_region ?_ | refine CW_skip ?_ | refine CW_ret ?_ | refine then_r ?_) | refine CW_true rfl ?_ | refine CW_false rfl ?_ | refine RET1 Try.results25 rfl ?_))
  · have h0 : ¬ x.1 = 0 := by simpa using (by assumption : ¬ x.1 = 0)
    rw [if_neg h0]
    exact ⟨rfl, Sat.closeD ho hs⟩
  · have h0 : x.1 = 0 := Decidable.not_not.1 (by assumption)
    have h1 : fr < (ys.length : Int) := by assumption
    rw [if_pos h0, if_pos h1]
    exact ⟨rfl, Sat.closeD ho hs⟩
  · have h0 : x.1 = 0 := Decidable.not_not.1 (by assumption)
    have h1 : ¬ fr < (ys.length : Int) := by assumption
    have h2 : ¬ D.turn.1 = 0 := by assumption
    rw [if_pos h0, if_neg h1, if_neg h2]
    exact ⟨rfl, Sat.closeD ho1 hs⟩
  · have h0 : x.1 = 0 := Decidable.not_not.1 (by assumption)
    have h1 : ¬ fr < (ys.length : Int) := by assumption
    have h2 : D.turn.1 = 0 := Decidable.not_not.1 (by assumption)
    rw [if_pos h0, if_neg h1, if_pos h2]
    have hid := hid h0
    have hlt : x.2 < D.turn.2.fs.length := by rw [(turn_fields D).1]; exact hf.good.idlt _ hid
    have hdl := dat_le hf.good hid
    obtain ⟨f, l1, l2, hF, hl1, hff, hg, hs⟩ := Sat.openF hs ho1 hlt
    have hfd : f.f = D.fl x.2 := by rw [hff, (turn_dat D _).2]
    have hfl : f.f.data.length = (D.dat x.2).length := by rw [hfd]; rfl
    rw [fptr_0 h0]
    have hg' : R.bs.getD x.2 0 = f.b := hg
    simp only [ptv, hg']
    (repeat' (first | (refine isLW ?_; first | refine LW_nil ?_ | (refine isLload ?_; first | refine LW_loadC 0 TOK hs rfl rfl rfl rfl rfl ?_) | (refine isLstore ?_; first | (refine LW_storeC 0 TOK hs rfl rfl rfl rfl rfl rfl rfl ?_; clear hs; intro w hs)) | (refine isLcall ?_; first | (refine LW_append 1 (xs := f.f.data) (ys := ys) eB_ok.1 hs TOK rfl rfl (hr _ (hs.drop1.drop1.drop1.drop1.drop1.drop1.drop1)) eB_ok.2 rfl rfl rfl rfl rfl rfl rfl (by unfold maxLen; omega) (by simp only []; omega) ?_; clear hs; intro A1 c1 w hs)) | refine LW_pure TOK rfl ?_) | (with_reducible first | refine then_n ?_ | refine CW_seq ?_ | refine CW_region ?_ | refine CW_ret ?_) | refine RET1 Try.results25 rfl ?_))
    obtain ⟨ho2, hs2⟩ := Sat.closeF (x' := ⟨f.b, A1, c1, ⟨f.f.data ++ ys, f.f.syn⟩⟩) ho1 hF rfl hs
    rw [hl1] at ho2 hs2
    have e : D.dat x.2 ++ ys = f.f.data ++ ys := by rw [hfd]; rfl
    rw [e, ← hfd]
    exact ⟨rfl, Sat.closeD ho2 hs2⟩
end Go.Proofs.Ytoodgenbcfdloaa

/- Walks: the other changing calls of a disk. -/
set_option linter.unusedVariables false
set_option linter.unusedSimpArgs false
namespace Go.Proofs.Ytoodgenbcfdloaa
open Go Go.Sl Go.RowKit
set_option maxRecDepth 100000
attribute [local irreducible] CW LW DW FR DP Calls

theorem nn {p : Prop} (h : ¬ ¬ p) : p := Classical.byContradiction h
theorem min_k (a : Nat) (k : Int) (h : 0 ≤ k) : (if k < (a : Int) then k else (a : Int)) = ((min a k.toNat : Nat) : Int) := by
  split <;> omega
theorem sync_call (W w : World) (L : List HProp) (d : Nat) (D : DS) (n : Nm) (hs : Sat W w (HD d D :: L)) (hf : Fit D) (hn : n.length ≤ 140737488355328) :
    Calls Try.prog 57 [Value.pointer (some ⟨d, 0, none⟩), sv n].toArray w (Ret fun v w' => v = .int .i64 (D.sync n).1 ∧ Sat W w' (HD d (D.sync n).2 :: L)) := by
  refine Calls_of Try.func57 rfl 28 Try.ntmps57 rfl ?_
  obtain ⟨R, ho, hs⟩ := Sat.openD hs
  obtain ⟨x, hx⟩ : ∃ x, D.find n = x := ⟨_, rfl⟩
  have hid := @Good.findId D hf.good n
  unfold DS.sync
  rw [hx] at hid ⊢
  by_cases h0 : x.1 = 0
  · rw [if_pos h0]
    by_cases h2 : D.turn.1 = 0
    · rw [if_pos h2]
      (repeat' (first | (refine isLW ?_; first | refine LW_nil ?_ | (refine isLcall ?_; first | (refine LW_call (cap := []) rfl rfl ent69 (find_call W _ L R d D n hs ho hn) ?_; clear hs; rintro _ w ⟨rfl, hs⟩; rw [hx, fptr_0 h0, h0]) | (refine LW_call (cap := []) rfl rfl ent70 (turn_call W _ L R d D hs ho) ?_; clear hs; rintro _ w ⟨rfl, lf, ho1, hs⟩; rw [h2])) | (refine isLbin ?_; first | (refine LW_cmp rfl (fun _ => ?_) (fun _ => ?_) <;> try (exfalso; omega))) | refine LW_pure TOK rfl ?_) | (with_reducible first | refine then_n ?_ | refine CW_seq ?_ | refine CW_region ?_) | refine CW_true rfl ?_))
      have hid := hid h0
      have hlt : x.2 < D.turn.2.fs.length := by rw [(turn_fields D).1]; exact hf.good.idlt _ hid
      obtain ⟨f, l1, l2, hF, hl1, hff, hg, hs⟩ := Sat.openF hs ho1 hlt
      have hfd : f.f = D.fl x.2 := by rw [hff, (turn_dat D _).2]
      have hg' : R.bs.getD x.2 0 = f.b := hg
      simp only [ptv, hg']
      (repeat' (first | (refine isLW ?_; first | refine LW_nil ?_ | (refine isLload ?_; first | refine LW_loadC 0 TOK hs rfl rfl rfl rfl rfl ?_) | (refine isLstore ?_; first | (refine LW_storeC 0 TOK hs rfl rfl rfl rfl rfl rfl rfl ?_; clear hs; intro w hs)) | (refine isLcall ?_; first | refine LW_pure TOK rfl ?_) | refine LW_pure TOK rfl ?_) | (with_reducible first | refine then_n ?_ | refine CW_seq ?_ | refine CW_region ?_ | refine CW_ret ?_) | refine RET1 Try.results57 rfl ?_))
      obtain ⟨ho2, hs2⟩ := Sat.closeF (x' := ⟨f.b, f.A, f.c, ⟨f.f.data, f.f.data.length⟩⟩) ho1 hF rfl hs
      rw [hl1] at ho2 hs2
      have e : D.dat x.2 = f.f.data := by rw [hfd]; rfl
      rw [e]
      exact ⟨rfl, Sat.closeD ho2 hs2⟩
    · rw [if_neg h2]
      (repeat' (first | (refine LW_cmp rfl (fun hq => absurd hq h2) (fun _ => ?_)) | (refine isLW ?_; first | refine LW_nil ?_ | (refine isLcall ?_; first | (refine LW_call (cap := []) rfl rfl ent69 (find_call W _ L R d D n hs ho hn) ?_; clear hs; rintro _ w ⟨rfl, hs⟩; rw [hx, fptr_0 h0, h0]) | (refine LW_call (cap := []) rfl rfl ent70 (turn_call W _ L R d D hs ho) ?_; clear hs; rintro _ w ⟨rfl, lf, ho1, hs⟩)) | (refine isLbin ?_; first | (refine LW_cmp rfl (fun _ => ?_) (fun _ => ?_) <;> try (exfalso; omega))) | refine LW_pure TOK rfl ?_) | (with_reducible first | refine then_n ?_ | refine CW_seq ?_ | refine CW_region ?_ | refine CW_skip ?_ | refine CW_ret ?_) | refine CW_true rfl ?_ | refine CW_false rfl ?_ | refine RET1 Try.results57 rfl ?_))
      exact ⟨rfl, Sat.closeD ho1 hs⟩
  · rw [if_neg h0]
    (repeat' (first | (refine LW_cmp rfl (fun hq => absurd hq h0) (fun _ => ?_)) | (refine isLW ?_; first | refine LW_nil ?_ | (refine isLcall ?_; first | (refine LW_call (cap := []) rfl rfl ent69 (find_call W _ L R d D n hs ho hn) ?_; clear hs; rintro _ w ⟨rfl, hs⟩; rw [hx])) | refine LW_pure TOK rfl ?_) | (with_reducible first | refine then_n ?_ | refine CW_seq ?_ | refine CW_region ?_ | refine CW_skip ?_ | refine CW_ret ?_) | refine CW_false rfl ?_ | refine RET1 Try.results57 rfl ?_))
    exact ⟨rfl, Sat.closeD ho hs⟩
theorem trunc_call (W w : World) (L : List HProp) (d : Nat) (D : DS) (n : Nm) (k : Int) (hs : Sat W w (HD d D :: L)) (hf : Fit D) (hn : n.length ≤ 140737488355328) :
    Calls Try.prog 71 [Value.pointer (some ⟨d, 0, none⟩), sv n, .int .i64 k].toArray w (Ret fun v w' => v = .int .i64 (D.trunc n k).1 ∧ Sat W w' (HD d (D.trunc n k).2 :: L)) := by
  refine Calls_of Try.func71 rfl 53 Try.ntmps71 rfl ?_
  obtain ⟨R, ho, hs⟩ := Sat.openD hs
  obtain ⟨x, hx⟩ : ∃ x, D.find n = x := ⟨_, rfl⟩
  have hid := @Good.findId D hf.good n
  unfold DS.trunc
  rw [hx] at hid ⊢
  by_cases h0 : x.1 = 0
  · rw [if_pos h0]
    have hid := hid h0
    have hlt0 : x.2 < D.fs.length := hf.good.idlt _ hid
    have hlt : x.2 < D.turn.2.fs.length := by rw [(turn_fields D).1]; exact hlt0
    by_cases hkn : k < 0
    · rw [if_pos (.inl hkn)]
      (repeat' (first | (refine isLW ?_; first | refine LW_nil ?_ | (refine isLg ?_; first | refine LW_pass rfl rfl ?_) | (refine isLcall ?_; first | (refine LW_call (cap := []) rfl rfl ent69 (find_call W _ L R d D n hs ho hn) ?_; clear hs; rintro _ w ⟨rfl, hs⟩; rw [hx, fptr_0 h0, h0])) | (refine isLbin ?_; first | (refine LW_cmp rfl (fun _ => ?_) (fun _ => ?_) <;> try (exfalso; omega))) | refine LW_pure TOK rfl ?_) | (with_reducible first | refine then_n ?_ | refine CW_seq ?_ | refine CW_region ?_ | refine CW_skip ?_ | refine CW_ret ?_ | refine then_r ?_) | refine CW_true rfl ?_ | refine CW_false rfl ?_ | refine RET1 Try.results71 rfl ?_))
      exact ⟨rfl, Sat.closeD ho hs⟩
    by_cases hk : ((D.dat x.2).length : Int) < k
    · rw [if_pos (.inr hk)]
      (repeat' (first | (refine isLW ?_; first | refine LW_nil ?_ | (refine isLg ?_; first | refine LW_take rfl ?_) | (refine isLcall ?_; first | (refine LW_call (cap := []) rfl rfl ent69 (find_call W _ L R d D n hs ho hn) ?_; clear hs; rintro _ w ⟨rfl, hs⟩; rw [hx, fptr_0 h0, h0])) | (refine isLbin ?_; first | (refine LW_cmp rfl (fun _ => ?_) (fun _ => ?_) <;> try (exfalso; omega))) | refine LW_pure TOK rfl ?_) | (with_reducible first | refine then_n ?_ | refine CW_seq ?_ | refine CW_region ?_ | refine CW_skip ?_) | refine CW_false rfl ?_))
      obtain ⟨f, l1, l2, hF, hl1, hff, hg, hs⟩ := Sat.openF hs ho hlt0
      have hfl : f.f.data.length = (D.dat x.2).length := by rw [hff]; rfl
      simp only [ptv, hg]
      (repeat' (first | (refine isLW ?_; first | refine LW_nil ?_ | (refine isLg ?_; first | refine LW_take rfl ?_) | (refine isLload ?_; first | refine LW_loadC 0 TOK hs rfl rfl rfl rfl rfl ?_) | (refine isLcall ?_; first | refine LW_pure TOK rfl ?_) | (refine isLbin ?_; first | (refine LW_cmp rfl (fun _ => ?_) (fun _ => ?_) <;> try (exfalso; omega))) | refine LW_pure TOK rfl ?_) | (with_reducible first | refine then_n ?_ | refine CW_seq ?_ | refine CW_region ?_ | refine CW_ret ?_ | refine then_r ?_) | refine CW_true rfl ?_ | refine RET1 Try.results71 rfl ?_))
      exact ⟨rfl, Sat.closeD ho (Sat.shutF hF hs)⟩
    rw [if_neg (fun h => h.elim hkn hk)]
    by_cases h2 : D.turn.1 = 0
    · rw [if_pos h2]
      (repeat' (first | (refine isLW ?_; first | refine LW_nil ?_ | (refine isLg ?_; first | refine LW_take rfl ?_) | (refine isLcall ?_; first | (refine LW_call (cap := []) rfl rfl ent69 (find_call W _ L R d D n hs ho hn) ?_; clear hs; rintro _ w ⟨rfl, hs⟩; rw [hx, fptr_0 h0, h0])) | (refine isLbin ?_; first | (refine LW_cmp rfl (fun _ => ?_) (fun _ => ?_) <;> try (exfalso; omega))) | refine LW_pure TOK rfl ?_) | (with_reducible first | refine then_n ?_ | refine CW_seq ?_ | refine CW_region ?_ | refine CW_skip ?_) | refine CW_false rfl ?_))
      obtain ⟨f, l1, l2, hF, hl1, hff, hg, hs⟩ := Sat.openF hs ho hlt0
      have hfl : f.f.data.length = (D.dat x.2).length := by rw [hff]; rfl
      simp only [ptv, hg]
      (repeat' (first | (refine isLW ?_; first | refine LW_nil ?_ | (refine isLg ?_; first | refine LW_take rfl ?_) | (refine isLload ?_; first | refine LW_loadC 0 TOK hs rfl rfl rfl rfl rfl ?_) | (refine isLcall ?_; first | (refine LW_call (cap := []) rfl rfl ent70 (turn_call W _ L R d D (Sat.shutF hF hs) ho) ?_; clear hs hF hff hl1 hfl; rintro _ w ⟨rfl, lf, ho1, hs⟩; rw [h2]) | refine LW_pure TOK rfl ?_) | (refine isLbin ?_; first | (refine LW_cmp rfl (fun _ => ?_) (fun _ => ?_) <;> try (exfalso; omega))) | refine LW_pure TOK rfl ?_) | (with_reducible first | refine then_n ?_ | refine CW_seq ?_ | refine CW_region ?_ | refine CW_skip ?_) | refine CW_false rfl ?_))
      obtain ⟨f1, l1, l2, hF, hl1, hff, hg', hs⟩ := Sat.openF hs ho1 hlt
      have hfb : f.b = f1.b := by rw [← hg, ← hg']; rfl
      have hfd : f1.f = D.fl x.2 := by rw [hff, (turn_dat D _).2]
      have hfl : f1.f.data.length = (D.dat x.2).length := by rw [hfd]; rfl
      have hrow := (hs.picks [1]).rowLe
      rw [hfb]
      (repeat' (first | (refine isLW ?_; first | refine LW_nil ?_ | (refine isLload ?_; first | refine LW_loadC 0 TOK hs rfl rfl rfl rfl rfl ?_) | (refine isLstore ?_; first | (refine LW_storeC 0 TOK hs rfl rfl rfl rfl rfl rfl rfl ?_; clear hs; intro w hs)) | refine LW_sliceH TOK rfl rfl rfl rfl rfl (by omega) (by omega) ?_ | refine LW_min2 _ rfl rfl (min_k f1.f.syn k (by omega)) ?_ | refine LW_pure TOK rfl ?_) | (with_reducible first | refine then_n ?_ | refine CW_seq ?_ | refine CW_region ?_ | refine CW_ret ?_) | refine RET1 Try.results71 rfl ?_))
      have hs3 := (((hs.picks [1]).cutFront (n := k.toNat) (by omega) (by omega)).picks [1])
      have ecut : (f1.f.data.flatMap eB).take (k.toNat * 1) = (f1.f.data.take k.toNat).flatMap eB := by
        rw [Nat.mul_one]
        have h7 : f1.f.data.flatMap eB = (f1.f.data.take k.toNat).flatMap eB ++ (f1.f.data.drop k.toNat).flatMap eB := by rw [← List.flatMap_append, List.take_append_drop]
        have h8 : ((f1.f.data.take k.toNat).flatMap eB).length = k.toNat := by rw [flat_len eB_ok.1, List.length_take]; omega
        rw [h7, ← h8]
        simp only [h8]
        rw [List.take_left' h8]
      have elen : (f1.f.data.take k.toNat).length = k.toNat := by rw [List.length_take]; omega
      obtain ⟨ho2, hs2⟩ := Sat.closeF (x' := ⟨f1.b, f1.A, f1.c, ⟨f1.f.data.take k.toNat, min f1.f.syn k.toNat⟩⟩) ho1 hF rfl (by
        dsimp only [RowOf]
        rw [elen, ← ecut]
        exact hs3)
      rw [hl1] at ho2 hs2
      have e : (D.dat x.2).take k.toNat = f1.f.data.take k.toNat := by rw [hfd]; rfl
      rw [e, ← hfd]
      exact ⟨rfl, Sat.closeD ho2 hs2⟩
    · rw [if_neg h2]
      (repeat' (first | (refine isLW ?_; first | refine LW_nil ?_ | (refine isLg ?_; first | refine LW_take rfl ?_) | (refine isLcall ?_; first | (refine LW_call (cap := []) rfl rfl ent69 (find_call W _ L R d D n hs ho hn) ?_; clear hs; rintro _ w ⟨rfl, hs⟩; rw [hx, fptr_0 h0, h0])) | (refine isLbin ?_; first | (refine LW_cmp rfl (fun _ => ?_) (fun _ => ?_) <;> try (exfalso; omega))) | refine LW_pure TOK rfl ?_) | (with_reducible first | refine then_n ?_ | refine CW_seq ?_ | refine CW_region ?_ | refine CW_skip ?_) | refine CW_false rfl ?_))
      obtain ⟨f, l1, l2, hF, hl1, hff, hg, hs⟩ := Sat.openF hs ho hlt0
      have hfl : f.f.data.length = (D.dat x.2).length := by rw [hff]; rfl
      simp only [ptv, hg]
      (repeat' (first | (refine isLW ?_; first | refine LW_nil ?_ | (refine isLg ?_; first | refine LW_take rfl ?_) | (refine isLload ?_; first | refine LW_loadC 0 TOK hs rfl rfl rfl rfl rfl ?_) | (refine isLcall ?_; first | (refine LW_call (cap := []) rfl rfl ent70 (turn_call W _ L R d D (Sat.shutF hF hs) ho) ?_; clear hs hF hff hl1 hfl; rintro _ w ⟨rfl, lf, ho1, hs⟩) | refine LW_pure TOK rfl ?_) | (refine isLbin ?_; first | (refine LW_cmp rfl (fun _ => ?_) (fun _ => ?_) <;> try (exfalso; omega))) | refine LW_pure TOK rfl ?_) | (with_reducible first | refine then_n ?_ | refine CW_seq ?_ | refine CW_region ?_ | refine CW_skip ?_ | refine CW_ret ?_ | refine then_r ?_) | refine CW_true rfl ?_ | refine CW_false rfl ?_ | refine RET1 Try.results71 rfl ?_))
      exact ⟨rfl, Sat.closeD ho1 hs⟩
  · rw [if_neg h0]
    (repeat' (first | (refine LW_cmp rfl (fun _ => ?_) (fun hq => absurd h0 hq)) | (refine isLW ?_; first | refine LW_nil ?_ | (refine isLcall ?_; first | (refine LW_call (cap := []) rfl rfl ent69 (find_call W _ L R d D n hs ho hn) ?_; clear hs; rintro _ w ⟨rfl, hs⟩; rw [hx])) | refine LW_pure TOK rfl ?_) | (with_reducible first | refine then_n ?_ | refine CW_seq ?_ | refine CW_region ?_ | refine CW_ret ?_ | refine then_r ?_) | refine CW_true rfl ?_ | refine RET1 Try.results71 rfl ?_))
    exact ⟨rfl, Sat.closeD ho hs⟩
end Go.Proofs.Ytoodgenbcfdloaa
