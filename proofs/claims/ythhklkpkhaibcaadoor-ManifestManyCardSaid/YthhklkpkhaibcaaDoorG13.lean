/- Walks: a new disk; a disk loaded. -/
import Derived.Test.YthhklkpkhaibcaaDoorG12
set_option linter.unusedVariables false
set_option linter.unusedSimpArgs false
namespace Go.Proofs.YthhklkpkhaibcaaDoor
open Go Go.Sl Go.RowKit
set_option maxRecDepth 100000
attribute [local irreducible] CW LW DW FR DP Calls

/-- A disk that is being loaded. -/
abbrev ld0 (d bN bL ck : Nat) (E : List Ent') (F : List Fm) (q : Int) : List HProp := [Cl d [.int .i64 q, .map (some bN), .map (some bL), .slice none 0 0, .bool false, .int .i64 0, .bool false] 69, Mp keyN bN (kvs (F.map (·.b)) E) ck, Mp keyN bL [] 0, Big (F.map Fm.L)]
theorem new_callR (W w : World) (L : List HProp) (q : Int) (hs : Sat W w L) :
    Calls Tryd.prog 28 [Value.int .i64 q].toArray w (Ret fun v w' => ((q < 0 ∨ 4194304 < q) ∧ v = .tuple #[.pointer none, .int .i64 1] ∧ Sat W w' L) ∨ (¬ (q < 0 ∨ 4194304 < q) ∧ ∃ d bN bL, v = .tuple #[.pointer (some ⟨d, 0, none⟩), .int .i64 0] ∧ Sat W w' (ld0 d bN bL 0 [] [] q ++ L))) := by
  refine Calls_of Tryd.func28 rfl 15 Tryd.ntmps28 rfl ?_
  (repeat' (first | (refine isLW ?_; first | refine LW_nil ?_ | (refine isLg ?_; first | refine LW_take rfl ?_ | refine LW_pass rfl rfl ?_) | (refine isLbin ?_; first | (refine LW_cmp rfl (fun _ => ?_) (fun _ => ?_) <;> try (exfalso; omega))) | refine LW_pure TOK rfl ?_ | (refine LW_box hs rfl rfl ?_; clear hs; intro _ w hs) | (refine LW_makeMap hs ?_; clear hs; intro _ w hs) | refine LW_build TOK rfl rfl rfl rfl rfl rfl ?_) | (with_reducible first | refine then_n ?_ | refine CW_seq ?_ | refine CW_region ?_ | refine CW_skip ?_ | refine CW_ret ?_ | refine then_r ?_) | refine CW_true rfl ?_ | refine CW_false rfl ?_ | refine RET2 Tryd.results28 rfl rfl ?_))
  · exact .inl ⟨.inl (by assumption), rfl, hs⟩
  · exact .inl ⟨.inr (by assumption), rfl, hs⟩
  · rename_i b1 _ b2 _ b3
    refine .inr ⟨by omega, b3, b1, b2, rfl, ?_⟩
    have h3 : Sat W w (Big (([] : List Fm).map Fm.L) :: _) := Sat.mkBig (l := []) hs
    exact h3.picks [1, 2, 1]
theorem new_call (W w : World) (L : List HProp) (q : Int) (hs : Sat W w L) :
    Calls Tryd.prog 28 [Value.int .i64 q].toArray w (Ret fun v w' => ((q < 0 ∨ 4194304 < q) ∧ v = .tuple #[.pointer none, .int .i64 1] ∧ Sat W w' L) ∨ (¬ (q < 0 ∨ 4194304 < q) ∧ ∃ d, v = .tuple #[.pointer (some ⟨d, 0, none⟩), .int .i64 0] ∧ Sat W w' (HD d (newD q.toNat) :: L))) := by
  refine Sl.Calls.ret (new_callR W w L q hs) ?_
  rintro v w' (h | ⟨hq, d, bN, bL, rfl, hs⟩)
  · exact .inl h
  · refine .inr ⟨hq, d, rfl, Sat.closeD (R := ⟨bN, 0, [], bL, 0, [], none, 0, [], 0⟩) ⟨⟨List.Perm.refl _, List.Pairwise.nil, by simp, by simp⟩, ⟨List.Perm.refl _, List.Pairwise.nil, by simp, by simp⟩, rfl, fun k hk => (by cases hk), by show _ ≤ (0 : Int) ∧ (0 : Int) ≤ _; omega⟩ ?_⟩
    have h4 := (hs.nilRow 80 3).picks [1, 1, 1, 0]
    have hqq : ((q.toNat : Nat) : Int) = q := by omega
    unfold Rp.L dCells newD
    dsimp only
    rw [hqq]
    exact h4
def sumW (l : List File) : Int := l.foldl (fun s f => IntKind.i64.wrap (s + f.2.length)) 0
theorem sumW_snoc (l : List File) (f : File) : sumW (l ++ [f]) = IntKind.i64.wrap (sumW l + f.2.length) := by unfold sumW; rw [List.foldl_append]; rfl
theorem sumW_go : ∀ (l : List File) (s : Int), 0 ≤ s → s + sumLen l ≤ 9223372036854775807 → l.foldl (fun s f => IntKind.i64.wrap (s + f.2.length)) s = s + sumLen l
  | [], s, _, _ => by simp [sumLen]
  | f :: l, s, h0, h => by
    have e : sumLen (f :: l) = f.2.length + sumLen l := by simp [sumLen]
    rw [e] at h ⊢
    rw [List.foldl_cons, wrap_i64 (by omega) (by omega), sumW_go l _ (by omega) (by push_cast at h; omega)]
    push_cast; omega
theorem sumW_eq (l : List File) (h : sumLen l ≤ 9223372036854775807) : sumW l = sumLen l := by
  have := sumW_go l 0 (by omega) (by omega)
  unfold sumW
  omega
end Go.Proofs.YthhklkpkhaibcaaDoor
