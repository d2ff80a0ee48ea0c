/- Walks: a file found; the changing calls. -/
import Derived.Test.YthhklkpkhaibcaaDoorG5
set_option linter.unusedVariables false
set_option linter.unusedSimpArgs false
namespace Go.Proofs.YthhklkpkhaibcaaDoor
open Go Go.Sl Go.RowKit
set_option maxRecDepth 100000
attribute [local irreducible] CW LW DW FR DP Calls

def fptr (bs : List Nat) (x : Int × Nat) : Value := if x.1 = 0 then ptv bs x.2 else .pointer none
theorem find_call (W w : World) (L : List HProp) (R : Rp) (d : Nat) (D : DS) (n : Nm) (hs : Sat W w (R.L d D ++ L)) (ho : R.Of D) (hn : n.length ≤ 140737488355328) :
    Calls Tryd.prog 39 [Value.pointer (some ⟨d, 0, none⟩), sv n].toArray w (Ret fun v w' => v = .tuple #[fptr R.bs (D.find n), .int .i64 (D.find n).1] ∧ Sat W w' (R.L d D ++ L)) := by
  refine Calls_of Tryd.func39 rfl 29 Tryd.ntmps39 rfl ?_
  unfold DS.find
  obtain ⟨q, fs, now, las, chs, left, down⟩ := D
  have hv := ho.mN.find R.bs n
  cases down with
  | true =>
    (repeat' (first | (refine isLW ?_; first | refine LW_nil ?_ | (refine isLload ?_; first | refine LW_loadC 0 TOK hs rfl rfl rfl rfl rfl ?_) | refine LW_pure TOK rfl ?_) | (with_reducible first | refine then_n ?_ | refine CW_seq ?_ | refine CW_region ?_ | refine CW_block ?_ | refine CW_ret ?_ | refine then_r ?_ | refine blk_r ?_) | refine CW_true rfl ?_ | refine RET2 Tryd.results39 rfl rfl ?_))
    exact ⟨rfl, hs⟩
  | false =>
    rw [if_neg (by simp)]
    cases hp : pathB n with
    | false =>
      rw [if_pos rfl]
      (repeat' (first | (refine isLW ?_; first | refine LW_nil ?_ | (refine isLload ?_; first | refine LW_loadC 0 TOK hs rfl rfl rfl rfl rfl ?_) | (refine isLcall ?_; first | (refine LW_call (cap := []) rfl rfl ent29 (path_call _ n hn) ?_; rintro _ w ⟨rfl, hs2⟩; replace hs := hs.and0 hs2; clear hs2; rw [hp])) | refine LW_pure TOK rfl ?_) | (with_reducible first | refine then_n ?_ | refine CW_seq ?_ | refine CW_region ?_ | refine CW_block ?_ | refine CW_ret ?_ | refine then_r ?_ | refine blk_r ?_) | refine CW_true rfl ?_ | refine CW_false rfl ?_ | refine RET2 Tryd.results39 rfl rfl ?_))
      exact ⟨rfl, hs⟩
    | true =>
      rw [if_neg (by simp)]
      dsimp only at hv ⊢
      cases hf : fnd now n with
      | none =>
        have hv2 : (findV (kvs R.bs R.EN) n).getD (.pointer none) = .pointer none := by rw [hv, hf]; rfl
        (repeat' (first | refine LW_lookup keyN 1 (k := n) hs TOK rfl rfl rfl rfl rfl rfl rfl rfl hv2 ?_ | (refine isLW ?_; first | refine LW_nil ?_ | (refine isLload ?_; first | refine LW_loadC 0 TOK hs rfl rfl rfl rfl rfl ?_) | (refine isLcall ?_; first | (refine LW_call (cap := []) rfl rfl ent29 (path_call _ n hn) ?_; rintro _ w ⟨rfl, hs2⟩; replace hs := hs.and0 hs2; clear hs2; rw [hp])) | (refine isLbin ?_; first | refine LW_nileq TOK rfl ?_) | refine LW_pure TOK rfl ?_) | (with_reducible first | refine then_n ?_ | refine CW_seq ?_ | refine CW_region ?_ | refine CW_block ?_ | refine CW_ret ?_ | refine then_r ?_ | refine blk_r ?_) | refine CW_true rfl ?_ | refine CW_false rfl ?_ | refine RET2 Tryd.results39 rfl rfl ?_))
        exact ⟨rfl, hs⟩
      | some i =>
        have hv2 : (findV (kvs R.bs R.EN) n).getD (.pointer none) = ptv R.bs i := by rw [hv, hf]; rfl
        (repeat' (first | refine LW_lookup keyN 1 (k := n) hs TOK rfl rfl rfl rfl rfl rfl rfl rfl hv2 ?_ | (refine isLW ?_; first | refine LW_nil ?_ | (refine isLload ?_; first | refine LW_loadC 0 TOK hs rfl rfl rfl rfl rfl ?_) | (refine isLcall ?_; first | (refine LW_call (cap := []) rfl rfl ent29 (path_call _ n hn) ?_; rintro _ w ⟨rfl, hs2⟩; replace hs := hs.and0 hs2; clear hs2; rw [hp])) | (refine isLbin ?_; first | refine LW_nileq TOK rfl ?_) | refine LW_pure TOK rfl ?_) | (with_reducible first | refine then_n ?_ | refine CW_seq ?_ | refine CW_region ?_ | refine CW_block ?_ | refine CW_skip ?_ | refine CW_ret ?_ | refine blk_n ?_) | refine CW_false rfl ?_ | refine RET2 Tryd.results39 rfl rfl ?_))
        exact ⟨rfl, hs⟩
end Go.Proofs.YthhklkpkhaibcaaDoor
