/- The books of lists that were handed out; Encode of no container. -/
import Derived.Test.YtaofhbjlbdpjhaaF30
import Derived.Test.YtaofhbjlbdpjhaaF31
set_option linter.unusedVariables false
set_option linter.unusedSimpArgs false
namespace Go.Proofs.Ytaofhbjlbdpjhaa
open Go Go.Sl Go.RowKit
set_option maxRecDepth 100000
attribute [local irreducible] CW LW DW FR DP Calls RM

structure BookOK {α : Type} [Inhabited α] (enc : α → List Value) (W : World) (Y : List HProp) (ls : List (Option Addr × Nat × Nat)) (ms : List α) : Prop where
  len : ls.length = ms.length
  rd : ∀ w', Sat W w' Y → ∀ i : Nat, i < ls.length → Rd enc w' (rd ls (i : Int)).1 (List.replicate (rd ls (i : Int)).2.1 (rd ms (i : Int)))
  sz : ∀ x ∈ ls, x.2.1 ≤ 1000000000
theorem BookOK.nil {α : Type} [Inhabited α] (enc : α → List Value) (W : World) : BookOK enc W [] [] ([] : List α) := ⟨rfl, fun _ _ i hi => by simp at hi, fun x hx => by cases hx⟩
theorem BookOK.take {α : Type} [Inhabited α] {enc : α → List Value} {W : World} {Y Y' : List HProp} {ls h4 : List (Option Addr × Nat × Nat)} {ms : List α} {m : α} {n : Nat} (h : BookOK enc W Y ls ms) (h1 : h4.length = 4) (h2 : ∀ x ∈ h4, x.2.1 ≤ n + 3) (hn : n ≤ 100000000)
    (h3 : ∀ w'', Sat W w'' Y' → ∀ x ∈ h4, Rd enc w'' x.1 (List.replicate x.2.1 m)) : BookOK enc W (Y' ++ Y) (ls ++ h4) (ms ++ [m, m, m, m]) := by
  have hl := h.len
  refine ⟨by simp only [List.length_append, List.length_cons, List.length_nil]; omega, fun w' hs i hi => ?_, fun x hx => ?_⟩
  · by_cases hil : i < ls.length
    · have e1 : Sl.rd (ls ++ h4) (i : Int) = Sl.rd ls (i : Int) := by rw [rdN hi, rdN hil, List.getElem_append_left hil]
      have e2 : Sl.rd (ms ++ [m, m, m, m]) (i : Int) = Sl.rd ms (i : Int) := by
        rw [rdN (by rw [List.length_append]; omega), rdN (by omega), List.getElem_append_left (by omega)]
      rw [e1, e2]
      exact h.rd w' (Sat.fst hs.rot) i hil
    · rw [List.length_append] at hi
      have e1 : Sl.rd (ls ++ h4) (i : Int) ∈ h4 := by
        rw [rdN (by rw [List.length_append]; omega), List.getElem_append_right (by omega)]; exact List.getElem_mem _
      have e2 : Sl.rd (ms ++ [m, m, m, m]) (i : Int) = m := by
        rw [rdN (by simp only [List.length_append, List.length_cons, List.length_nil]; omega), List.getElem_append_right (by omega)]
        have : [m, m, m, m] = List.replicate 4 m := rfl
        simp only [this, List.getElem_replicate]
      rw [e2]
      exact h3 w' (Sat.fst hs) _ e1
  · rcases List.mem_append.1 hx with h4 | h4
    · exact h.sz x h4
    · have := h2 x h4; omega
abbrev bookB (bb : Nat) (LA : Option Addr) (lc : Nat) (ls : List (Option Addr × Nat × Nat)) (MA : Option Addr) (mc : Nat) (ms : List UInt8) : List HProp := [Cl bb [.slice LA ls.length lc, .slice MA ms.length mc] 91, RowOf eH 81 1 LA lc ls, RowOf eB 5 1 MA mc ms]
theorem takeB (W w : World) (X Y : List HProp) (bb : Nat) (ls : List (Option Addr × Nat × Nat)) (ms b : List UInt8) (LA MA A : Option Addr) (lc mc c : Nat) (hs : Sat W w (bookB bb LA lc ls MA mc ms ++ (RowOf eB 5 1 A c b :: (Y ++ X)))) (hB : BookOK eB W Y ls ms) (hl : ls.length ≤ 1000000) (hb : b.length ≤ 100000000) :
    Calls Try.prog 49 [Value.pointer (some ⟨bb, 0, none⟩), .slice A b.length c].toArray w (Ret fun v w' => v = .tuple #[] ∧ ∃ (ls' : List (Option Addr × Nat × Nat)) (ms' : List UInt8) (LA' MA' : Option Addr) (lc' mc' : Nat) (Y' : List HProp),
      Sat W w' (bookB bb LA' lc' ls' MA' mc' ms' ++ (Y' ++ X)) ∧ BookOK eB W Y' ls' ms' ∧ ls'.length = ls.length + 4) := by
  refine Sl.Calls.ret (take_call W w (Y ++ X) bb ls ms b LA MA A lc mc c hs hl (by have := hB.len; omega) hb) ?_
  rintro _ w' ⟨rfl, m, h4, LA', MA', lc', mc', Y', hs, h1, h2, h3⟩
  exact ⟨rfl, ls ++ h4, ms ++ [m, m, m, m], LA', MA', lc', mc', Y' ++ Y, by rw [List.append_assoc]; exact hs, hB.take h1 h2 hb h3, by rw [List.length_append, h1]⟩
theorem wholeB (W w : World) (X Y : List HProp) (bb : Nat) (ls : List (Option Addr × Nat × Nat)) (ms : List UInt8) (LA MA : Option Addr) (lc mc : Nat) (hs : Sat W w (bookB bb LA lc ls MA mc ms ++ (Y ++ X))) (hB : BookOK eB W Y ls ms) (hl : ls.length ≤ 1000000) :
    Calls Try.prog 50 [Value.pointer (some ⟨bb, 0, none⟩)].toArray w (Ret fun v w' => v = .bool true ∧ Sat W w' (bookB bb LA lc ls MA mc ms ++ (Y ++ X))) :=
  whole_call W w (Y ++ X) bb ls ms LA MA lc mc hs hB.len hl hB.sz (fun w' h i hi => hB.rd w' (Sat.fst h) i hi)
theorem Encode_none (w : World) : Calls Try.prog 46 [Value.pointer none].toArray w (Ret fun v w' => v = .tuple #[.slice none 0 0, .int .i64 1] ∧ Sat w w' []) := by
  refine Calls_ofM Try.func46 rfl 60 Try.ntmps46 rfl ?_
  have hs := Sat.start w
  (repeat' (first | (refine isLW ?_; first | refine LW_nil ?_ | (refine isLg ?_; first | refine LW_take rfl ?_ | refine LW_pass rfl rfl ?_ | refine LW_pass0 rfl rfl ?_ | refine LW_passV rfl rfl rfl ?_) | (refine isLload ?_; first | refine LW_loadC 0 TOK hs rfl rfl rfl rfl rfl ?_ | refine LW_loadC 1 TOK hs rfl rfl rfl rfl rfl ?_ | refine LW_loadC 2 TOK hs rfl rfl rfl rfl rfl ?_ | refine LW_loadC 3 TOK hs rfl rfl rfl rfl rfl ?_ | refine LW_loadC 4 TOK hs rfl rfl rfl rfl rfl ?_ | refine LW_loadC 5 TOK hs rfl rfl rfl rfl rfl ?_ | refine LW_loadC 6 TOK hs rfl rfl rfl rfl rfl ?_ | refine LW_loadC 7 TOK hs rfl rfl rfl rfl rfl ?_) | (refine isLstore ?_; first | (refine LW_storeC 0 TOK hs rfl rfl rfl rfl rfl rfl rfl ?_; clear hs; intro w hs) | (refine LW_storeC 1 TOK hs rfl rfl rfl rfl rfl rfl rfl ?_; clear hs; intro w hs) | (refine LW_storeC 2 TOK hs rfl rfl rfl rfl rfl rfl rfl ?_; clear hs; intro w hs) | (refine LW_storeC 3 TOK hs rfl rfl rfl rfl rfl rfl rfl ?_; clear hs; intro w hs) | (refine LW_storeC 4 TOK hs rfl rfl rfl rfl rfl rfl rfl ?_; clear hs; intro w hs) | (refine LW_storeC 5 TOK hs rfl rfl rfl rfl rfl rfl rfl ?_; clear hs; intro w hs) | (refine LW_storeC 6 TOK hs rfl rfl rfl rfl rfl rfl rfl ?_; clear hs; intro w hs) | (refine LW_storeC 7 TOK hs rfl rfl rfl rfl rfl rfl rfl ?_; clear hs; intro w hs)) | (refine isLcall ?_; first | refine LW_pure TOK rfl ?_ | refine LW_pure0 TOK rfl ?_) | (refine isLidx ?_; first | refine LW_indexAddr TOK rfl rfl rfl rfl rfl (by omega) (by omega) ?_) | (refine isLbin ?_; first | refine LW_pure TOK rfl ?_ | refine LW_i64 rfl (by omega) (by omega) ?_ | (refine LW_cmp rfl (fun _ => ?_) (fun _ => ?_) <;> try (exfalso; omega)) | refine LW_nileq TOK rfl ?_ | refine LW_cmpB rfl ?_) | refine LW_pure TOK rfl ?_ | refine LW_pure0 TOK rfl ?_ | refine LW_i64 rfl (by omega) (by omega) ?_ | (refine LW_box hs rfl rfl ?_; clear hs; intro _ w hs) | (refine LW_alloc TOK hs rfl rfl ?_; clear hs; intro _ w hs) | (refine LW_makeMap hs ?_; clear hs; intro _ w hs) | (refine LW_buildSlice TOK hs rfl rfl rfl rfl rfl rfl rfl ?_; clear hs; intro _ w hs) | refine LW_build TOK rfl rfl rfl rfl rfl rfl ?_) | (refine isDP ?_; first | (refine isDnil ?_; refine DP_end ?_ ?_) | (refine isDe rfl ?_; refine DP_eff rfl rfl ?_ ?_) | (refine isDg rfl ?_; first | refine DP_pass rfl rfl rfl rfl ?_ | refine DP_passU (j' := 0) rfl rfl rfl rfl rfl ?_) | (refine isDload rfl ?_; first | refine DP_loadC 0 hs TOK rfl rfl (by first | exact trivial | rfl) rfl rfl rfl rfl rfl ?_ ?_ | refine DP_loadC 1 hs TOK rfl rfl (by first | exact trivial | rfl) rfl rfl rfl rfl rfl ?_ ?_ | refine DP_loadC 2 hs TOK rfl rfl (by first | exact trivial | rfl) rfl rfl rfl rfl rfl ?_ ?_ | refine DP_loadC 3 hs TOK rfl rfl (by first | exact trivial | rfl) rfl rfl rfl rfl rfl ?_ ?_ | refine DP_loadC 4 hs TOK rfl rfl (by first | exact trivial | rfl) rfl rfl rfl rfl rfl ?_ ?_ | refine DP_loadC 5 hs TOK rfl rfl (by first | exact trivial | rfl) rfl rfl rfl rfl rfl ?_ ?_ | refine DP_loadC 6 hs TOK rfl rfl (by first | exact trivial | rfl) rfl rfl rfl rfl rfl ?_ ?_ | refine DP_loadC 7 hs TOK rfl rfl (by first | exact trivial | rfl) rfl rfl rfl rfl rfl ?_ ?_) | (refine isDbin rfl ?_; first | refine DP_pure TOK rfl rfl (by first | exact trivial | rfl) rfl ?_ | (refine DP_cmp rfl rfl (by first | exact trivial | rfl) rfl (fun _ => ?_) (fun _ => ?_) <;> try (exfalso; omega)) | refine DP_i64 rfl rfl (by first | exact trivial | rfl) rfl (by omega) (by omega) ?_ | refine DP_cmpB rfl rfl (by first | exact trivial | rfl) rfl ?_ | refine DP_nileq TOK rfl rfl (by first | exact trivial | rfl) rfl ?_) | refine DP_pure TOK rfl rfl (by first | exact trivial | rfl) rfl ?_) | (refine isI0 ?_; exact Inv.nil) | (refine isI1 ?_; first | refine Inv.keepB hs ?_ | refine Inv.keepB (Sat.start _) ?_ | refine Inv.keepC 0 hs rfl rfl ?_ | refine Inv.keepC 1 hs rfl rfl ?_ | refine Inv.keepC 2 hs rfl rfl ?_ | refine Inv.keepC 3 hs rfl rfl ?_ | refine Inv.keepC 4 hs rfl rfl ?_ | refine Inv.keepC 5 hs rfl rfl ?_ | refine Inv.keepC 6 hs rfl rfl ?_ | refine Inv.keepC 7 hs rfl rfl ?_ | refine Inv.gone (by kernel_rfl) ?_) | (with_reducible first | refine LW_nil ?_ | refine then_n ?_ | refine CW_seq ?_ | refine CW_region ?_ | refine CW_block ?_ | refine CW_skip ?_ | refine CW_label ?_ | refine CW_exit ?_ | refine CW_ret ?_ | refine then_e ?_ | refine then_r ?_ | refine blk_n ?_ | refine blk_r ?_ | refine blk_same ?_ | refine QN_n ?_) | refine blk_other rfl ?_ | refine CW_true rfl ?_ | refine CW_false rfl ?_ | (refine CW_drawP (id := 13) [5, 6, 7] [0, 1, 2, 3, 4, 5, 6, 7] mixed (by kernel_rfl) hs ?_; clear hs; intro hs) | (refine CW_drawP (id := 14) [9, 10, 11] [0, 1, 2, 3, 4, 5, 6, 7, 8, 9, 10, 11] mixed (by kernel_rfl) hs ?_; clear hs; intro hs) | (refine CW_drawP (id := 18) [5, 6, 7] [0, 1, 2, 3, 4, 5, 6, 7] mixed (by kernel_rfl) hs ?_; clear hs; intro hs) | refine RET1 Try.results46 rfl ?_ | refine RET2 Try.results46 rfl rfl ?_ | refine RET3 Try.results46 rfl rfl rfl ?_ | refine RET0 Try.results46 ?_ | refine RET0n Try.results46 ?_))
  refine M_r ?_
  refine M_endC2 1 0 hs TOK rfl rfl rfl rfl rfl rfl rfl rfl rfl ?_
  exact ⟨rfl, hs.below, trivial⟩
end Go.Proofs.Ytaofhbjlbdpjhaa
