/- Drawn regions: texts compared, one more way. -/
import Derived.Test.YtoodgenbcfdloaaSlText2
import Derived.Test.YtoodgenbcfdloaaG18
import Derived.Test.YtoodgenbcfdloaaP8
import Derived.Test.YtoodgenbcfdloaaQ1
set_option linter.unusedVariables false
set_option linter.unusedSimpArgs false
namespace Go.Sl
open Go.RowKit
section
variable {r : Option Nat} {P : Program} {T : List (Nat × TI)} {l : List Oper} {eff : List Nat} {K : Act → World → Prop} {Cs : List (Nat × (World → Prop))} {plan : List Nat} {listed : Array Bool} {w : World} {n : Nat} {s : List (Nat × Value)} {τ : Nat → Value} {ds : List Deferred}
  {ty : TypeId} {ps : String} {af : Array Edge} {d i : Nat} {gd : Option (Nat × Bool)} {t yt : TypeId} {x y : Operand} {p q : ByteArray} {a b : List UInt8}
theorem DP_strGe (heff : eff.contains i = false) (hi : getA l i = some ⟨some d, .binOp .geq t x y yt, ty, ps, af, gd⟩) (hg : gdOK s n l gd) (hx : EVO n s x = some (.string p)) (hy : EVO n s y = some (.string q)) (hp : p.data.toList = a) (hq : q.data.toList = b) (ht : ¬ a < b → DP r P l eff K Cs plan (listed.setIfInBounds i true) (FR n ((d, .bool true) :: s) τ ds) w)
    (hf : a < b → DP r P l eff K Cs plan (listed.setIfInBounds i true) (FR n ((d, .bool false) :: s) τ ds) w) : DP r P l eff K Cs (i :: plan) listed (FR n s τ ds) w := by
  refine DP_plain (v := .bool (decide (¬ a < b))) heff hi (YC.mkD hg fun w _ => ?_) ?_
  · have e1 : (FR n s τ ds).eval x = .string p := eval_of hx
    have e2 : (FR n s τ ds).eval y = .string q := eval_of hy
    have e3 : (!Op.bytesLess p.toList q.toList) = decide (¬ a < b) := by
      rw [bytesLess_eq, ByteArray.toList_eq, ByteArray.toList_eq, hp, hq, decide_not]
    rw [← e3]
    generalize (FR n s τ ds).eval = ρ at e1 e2
    simp [execOp, e1, e2, binOp, Op.stringOp, eqGuard, go_sem]
  · rw [put_FR]
    by_cases hp : a < b
    · simp only [hp, not_true_eq_false, decide_false]; exact hf hp
    · simp only [hp, not_false_eq_true, decide_true]; exact ht hp
end
end Go.Sl

/- Walks: many cuts, rising names, a list of files of one's own loaded. -/
set_option linter.unusedVariables false
set_option linter.unusedSimpArgs false
namespace Go.Proofs.Ytoodgenbcfdloaa
open Go Go.Sl Go.RowKit
set_option maxRecDepth 100000
attribute [local irreducible] CW LW DW FR DP Calls

theorem most_call (W w : World) (L : List HProp) (n : Nat) (hn : n ≤ 4398046511104) (hs : Sat W w L) :
    Calls Try.prog 53 [Value.int .i64 (n : Int)].toArray w (Ret fun v w' => ∃ A c, v = .slice A (mostL n).length c ∧ Sat W w' (RowOf eP 32 2 A c (mostL n) :: L)) := by
  refine Calls_of Try.func53 rfl 15 Try.ntmps53 rfl ?_
  have hml : ∀ k, (mostL k).length = k := fun k => by simp [mostL]
  (repeat' (first | (refine isLW ?_; first | refine LW_nil ?_ | refine LW_pure TOK rfl ?_) | (with_reducible first | refine then_n ?_ | refine CW_seq ?_ | refine CW_region ?_ | refine CW_block ?_)))
  refine CW_loop (γ := Nat × Option Addr × Nat) (fun g => [(0, .int .i64 (n : Int)), (3, .slice g.2.1 (mostL g.1).length g.2.2), (4, .int .i64 (g.1 : Int))]) (fun g w' => Sat W w' (RowOf eP 32 2 g.2.1 g.2.2 (mostL g.1) :: L) ∧ g.1 ≤ n) (fun g => n - g.1) (0, none, 0) ⟨rfl, rfl, rfl, trivial⟩ ⟨hs.nilRow 32 2, Nat.zero_le _⟩ ?_
  clear hs
  rintro ⟨i, A, c⟩ τ w ⟨hs, hi⟩
  dsimp only at hs hi ⊢
  by_cases hlt : i < n
  · have hm := hml i
    have hsn : mostL (i + 1) = mostL i ++ [(4194304, 0)] := by unfold mostL; rw [List.replicate_succ']
    (repeat' (first | (refine isLW ?_; first | refine LW_nil ?_ | (refine isLcall ?_; first | (refine LW_append1 0 eP_ok (z := ((4194304, 0) : Int × Int)) hs TOK rfl rfl rfl rfl rfl rfl rfl rfl rfl rfl (by unfold maxLen; omega) (by simp only []; omega) ?_; clear hs; intro A3 c3 w hs)) | (refine isLbin ?_; first | refine LW_i64 rfl (by omega) (by omega) ?_ | (refine LW_cmp rfl (fun _ => ?_) (fun _ => ?_) <;> try (exfalso; omega))) | refine LW_pure TOK rfl ?_ | (refine LW_buildSlice TOK hs rfl rfl rfl rfl rfl rfl rfl ?_; clear hs; intro _ w hs) | refine LW_build TOK rfl rfl rfl rfl rfl rfl ?_) | (with_reducible first | refine then_n ?_ | refine CW_seq ?_ | refine CW_region ?_ | refine CW_block ?_ | refine CW_skip ?_ | refine blk_n ?_) | refine CW_true rfl ?_))
    exact ⟨(i + 1, A3, c3), _, FR_forget _ ⟨rfl, by dsimp only; rw [hsn]; rfl, rfl, trivial⟩, ⟨by dsimp only; rw [hsn]; exact hs, hlt⟩, by dsimp only; omega⟩
  · (repeat' (first | (refine isLW ?_; first | refine LW_nil ?_ | (refine isLbin ?_; first | (refine LW_cmp rfl (fun _ => ?_) (fun _ => ?_) <;> try (exfalso; omega))) | refine LW_pure TOK rfl ?_) | (with_reducible first | refine then_n ?_ | refine CW_seq ?_ | refine CW_region ?_ | refine CW_exit ?_ | refine CW_ret ?_ | refine then_e ?_ | refine blk_same ?_) | refine CW_false rfl ?_ | refine RET1 Try.results53 rfl ?_))
    have : i = n := by omega
    subst this
    exact ⟨A, c, rfl, hs⟩
theorem rising_call54 (w : World) (xs : List File) (A : Option Addr) (c : Nat) (ra : RdF w A xs) (hx : xs.length ≤ 4611686018427387904) (hf : Fine xs) :
    Calls Try.prog 54 [Value.slice A xs.length c].toArray w (Ret fun v w' => v = .bool true ∧ Sat w w' []) := by
  obtain ⟨us, hu, ra, _⟩ := ra
  have hul := len_of_map hu
  rw [← hul]
  rw [← hul] at hx
  refine Calls_of Try.func54 rfl 22 Try.ntmps54 rfl ?_
  have hs := Sat.start w
  (repeat' (first | (refine isLW ?_; first | refine LW_nil ?_ | refine LW_pure TOK rfl ?_) | (with_reducible first | refine then_n ?_ | refine CW_seq ?_ | refine CW_region ?_ | refine CW_block ?_)))
  refine CW_loop (γ := Nat) (fun g => [(0, .slice A us.length c), (3, .int .i64 ((g : Int) + 1))]) (fun g w' => Sat w w' [] ∧ g ≤ us.length) (fun g => us.length - g) 0 ⟨rfl, rfl, trivial⟩ ⟨hs, by omega⟩ ?_
  clear hs
  rintro i τ w' ⟨hs, h1⟩
  try dsimp only at h1 ⊢
  by_cases hlt : i + 1 < us.length
  · have hru := rd_at (xs := us) (i := i) (by omega)
    have hrv := rd_at hlt
    have hlt2 : us[i].n < us[i + 1].n := by
      have h2 := List.pairwise_iff_getElem.1 hf.srt i (i + 1) (by omega) (by omega) (by omega)
      subst hu
      simpa [RF.f] using h2
    rw [← hru, ← hrv] at hlt2
    have e1 : ((i : Int) + 1 - 1) = i := by omega
    have e2 : ((i + 1 : Nat) : Int) = (i : Int) + 1 := by omega
    rw [e2] at hlt2
    (repeat' (first | (refine DP_strGe (a := (rd us (i : Int)).n) (b := (rd us ((i : Int) + 1)).n) rfl rfl trivial (by rw [e1]; rfl) rfl rfl rfl (fun hq => ?_) (fun hq => ?_)) | (refine isLW ?_; first | refine LW_nil ?_ | (refine isLcall ?_; first | refine LW_pure TOK rfl ?_) | (refine isLbin ?_; first | refine LW_i64 rfl (by omega) (by omega) ?_ | (refine LW_cmp rfl (fun _ => ?_) (fun _ => ?_) <;> try (exfalso; omega))) | refine LW_pure TOK rfl ?_) | (refine isDP ?_; first | (refine isDnil ?_; first | refine DP_end ?_ ?_) | (refine isDload rfl ?_; first | refine DP_loadRd ra (fun _ => rfl) hs TOK rfl rfl (by first | exact trivial | rfl) rfl (by assumption) rfl rfl (by omega) (by omega) rfl ?_ ?_) | (refine isDidx rfl ?_; first | (refine DP_indexRd (ra.of hs) TOK rfl rfl (by first | exact trivial | rfl) rfl rfl rfl rfl rfl (by omega) (by omega) ?_; intro _ _ _)) | (refine isDbin rfl ?_; first | refine DP_i64 rfl rfl (by first | exact trivial | rfl) rfl (by omega) (by omega) ?_) | refine DP_pure TOK rfl rfl (by first | exact trivial | rfl) rfl ?_) | (refine isI0 ?_; exact Inv.nil) | (refine isI1 ?_; first | refine Inv.keepB hs ?_) | (with_reducible first | refine then_n ?_ | refine CW_seq ?_ | refine CW_region ?_ | refine CW_block ?_ | refine CW_skip ?_ | refine CW_ret ?_ | refine then_r ?_ | refine blk_n ?_ | refine blk_r ?_) | refine CW_true rfl ?_ | refine CW_false rfl ?_ | (refine CW_drawP (id := 4) [] [0, 1, 2, 3, 4, 5, 6, 7, 8, 9, 10, 11] mixed (by kernel_rfl) hs ?_; clear hs; intro hs) | refine RET1 Try.results54 rfl ?_))
    · exact absurd hlt2 hq
    · exact ⟨i + 1, _, FR_forget _ ⟨rfl, rfl, trivial⟩, ⟨hs, by omega⟩, by omega⟩
  · (repeat' (first | (refine isLW ?_; first | refine LW_nil ?_ | (refine isLcall ?_; first | refine LW_pure TOK rfl ?_) | (refine isLbin ?_; first | (refine LW_cmp rfl (fun _ => ?_) (fun _ => ?_) <;> try (exfalso; omega))) | refine LW_pure TOK rfl ?_) | (with_reducible first | refine then_n ?_ | refine CW_seq ?_ | refine CW_region ?_ | refine CW_exit ?_ | refine CW_ret ?_ | refine then_e ?_ | refine blk_same ?_) | refine CW_false rfl ?_ | refine RET1 Try.results54 rfl ?_))
    exact ⟨rfl, hs⟩
theorem loadH_call (W w : World) (L : List HProp) (q : Nat) (A : Option Addr) (c : Nat) (l : List File) (hs : Sat W w (HF A c l :: L)) (hq : q ≤ 4194304) (hf : Fine l) (hsum : sumLen l ≤ q) (hl : l.length ≤ 2199023255552) (hd : ∀ f ∈ l, f.2.length ≤ 4194304) :
    Calls Try.prog 18 [Value.int .i64 (q : Int), .slice A l.length c].toArray w (Ret fun v w' => ∃ d, v = .tuple #[.pointer (some ⟨d, 0, none⟩), .int .i64 0] ∧ Sat W w' (HD d (loadedD q l) :: HF A c l :: L)) := by
  obtain ⟨rs, hr, hs⟩ := Sat.openHF hs
  have hll := len_of_map hr
  have hbig : sumW (rs.map RF.f) = (sumLen l : Int) := by rw [hr]; exact sumW_eq _ (by omega)
  have hlo := load_fine hq hf hsum
  have hnm : ∀ r ∈ rs, r.n.length ≤ 140737488355328 ∧ r.data.length ≤ 140737488355328 := fun r hr' => by
    have hm : r.f ∈ l := hr ▸ List.mem_map.2 ⟨r, hr', rfl⟩
    have h1 : r.f.1.length ≤ 40 := by
      have := hf.path _ hm
      unfold pathB at this
      simp only [Bool.and_eq_true, decide_eq_true_eq] at this
      exact this.1.2
    have h2 := hd _ hm
    unfold RF.f at h1 h2
    dsimp only at h1 h2
    omega
  have := load_call W w _ (q : Int) A c rs hs (fun w' h => h.rd 0 rfl) (fun w' h => bigRd (h.picks [1])) hnm (by omega) (by omega)
  rw [hbig, hr, hlo, hll] at this
  refine Sl.Calls.ret this ?_
  rintro v w' (⟨h, _⟩ | ⟨_, d, rfl, hs⟩)
  · exact absurd rfl h
  · exact ⟨d, rfl, (Sat.closeHF hr (hs.picks [1, 1])).picks [1]⟩
end Go.Proofs.Ytoodgenbcfdloaa
