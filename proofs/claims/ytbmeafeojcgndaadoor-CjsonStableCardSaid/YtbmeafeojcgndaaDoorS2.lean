/- Walks of the library's stable sort: the sort of a short stretch. -/
import Derived.Test.YtbmeafeojcgndaaDoorV10
set_option linter.unusedVariables false
set_option linter.unusedSimpArgs false
namespace Go.Proofs.YtbmeafeojcgndaaDoor
open Go Go.Sl Go.RowKit
set_option maxRecDepth 100000
attribute [local irreducible] CW LW DW FR DP Calls Res Ret
/-- Not above. -/
def leN (ns : List (List UInt8)) (x y : Int) : Prop := ¬ nmA ns y < nmA ns x
theorem leN_trans {ns : List (List UInt8)} {x y z : Int} (h : leN ns x y) (k : leN ns y z) : leN ns x z := by
  unfold leN at *
  exact List.not_lt.2 (List.le_trans (List.not_lt.1 h) (List.not_lt.1 k))
theorem leN_of_lt {ns : List (List UInt8)} {x y : Int} (h : nmA ns x < nmA ns y) : leN ns x y := fun k => List.lt_asymm h k
theorem cmpN_neg {ns : List (List UInt8)} {a b : Int} : cmpN ns a b < 0 ↔ nmA ns a < nmA ns b := by
  unfold cmpN
  split
  · rename_i h; simp [h]
  · rename_i h
    split <;> simp [h]
def Srtd (ns : List (List UInt8)) (X : List Int) : Prop := X.Pairwise (leN ns)
theorem swapD (A C : List Int) (x y : Int) {k : Nat} (hk : k = A.length) : ((A ++ y :: x :: C).set (k + 1) y).set k x = A ++ x :: y :: C := by
  subst hk
  rw [List.set_append_right _ _ (by omega)]
  have : A.length + 1 - A.length = 1 := by omega
  rw [this]
  show (A ++ y :: y :: C).set A.length x = _
  rw [List.set_append_right _ _ (Nat.le_refl _)]
  simp
theorem rd_mid (A C : List Int) (x : Int) {i : Int} (hi : i = A.length) : Go.Sl.rd (A ++ x :: C) i = x := by
  subst hi
  show (A ++ x :: C).getD (A.length : Int).toNat default = x
  have : (A.length : Int).toNat = A.length := by omega
  rw [this]
  simp [List.getD]
/-- An element put in where it belongs. -/
theorem srtd_in {ns : List (List UInt8)} {S1 S2 : List Int} {x : Int} (h : Srtd ns (S1 ++ S2)) (h1 : ∀ y ∈ S1, leN ns y x) (h2 : ∀ y ∈ S2, leN ns x y) : Srtd ns (S1 ++ x :: S2) := by
  unfold Srtd at *
  rw [List.pairwise_append] at h ⊢
  refine ⟨h.1, List.pairwise_cons.2 ⟨h2, h.2.1⟩, fun a ha b hb => ?_⟩
  rcases List.mem_cons.1 hb with rfl | hb
  · exact h1 a ha
  · exact h.2.2 a ha b hb
section
variable {W : World} {ns : List (List UInt8)} {NA : Option Addr} {nc bx : Nat} {L : List HProp}
set_option maxHeartbeats 2000000 in
theorem insSort_call (w : World) (P X Q : List Int) (A : Option Addr) (c n : Nat) (a b : Int) (hn : n = P.length + (X.length + Q.length)) (ha : a = P.length) (hb : b = (P.length : Int) + X.length) (hs : Sat W w (RowOf eI 3 1 A c (P ++ (X ++ Q)) :: Cl bx [.slice NA ns.length nc] 28 :: L)) (rn : Rd eN W NA ns) (hp : PlOK ns (P ++ (X ++ Q))) (hl : n ≤ 140737488355328) (hnl : ns.length ≤ 140737488355328) :
    Calls Tryd.prog 96 [Value.slice A n c, .int .i64 a, .int .i64 b, .func (.func 68) #[] #[.pointer (some ⟨bx, 0, none⟩)]].toArray w (Ret fun v w' => v = .tuple #[] ∧ ∃ X', X'.Perm X ∧ Srtd ns X' ∧ Sat W w' (RowOf eI 3 1 A c (P ++ (X' ++ Q)) :: Cl bx [.slice NA ns.length nc] 28 :: L)) := by
  refine Calls_of Tryd.func96 rfl 53 Tryd.ntmps96 rfl ?_
  obtain ⟨f, hf⟩ : ∃ f : Value, .func (.func 68) #[] #[.pointer (some ⟨bx, 0, none⟩)] = f := ⟨_, rfl⟩
  rw [hf]
  (repeat' (first | (refine isLW ?_; first | refine LW_nil ?_ | (refine isLbin ?_; first | refine LW_i64 rfl (by omega) (by omega) ?_) | refine LW_pure TOK rfl ?_) | (with_reducible first | refine then_n ?_ | refine CW_seq ?_ | refine CW_region ?_ | refine CW_block ?_)))
  refine CW_loop (γ := (Int × List Int × List Int)) (fun g => [(0, .slice A n c), (1, .int .i64 a), (2, .int .i64 b), (3, f), (8, .int .i64 g.1)]) (fun g w' => Sat W w' (RowOf eI 3 1 A c (P ++ ((g.2.1 ++ g.2.2) ++ Q)) :: Cl bx [.slice NA ns.length nc] 28 :: L) ∧ (g.2.1 ++ g.2.2).Perm X ∧ Srtd ns g.2.1 ∧ a < g.1 ∧ (X = [] ∨ g.1 = a + g.2.1.length)) (fun g => g.2.2.length) (a + 1, X.take 1, X.drop 1) ⟨rfl, rfl, rfl, rfl, rfl, trivial⟩ ⟨by dsimp only; rw [List.take_append_drop]; exact hs, by dsimp only; rw [List.take_append_drop], by dsimp only; cases X with | nil => exact List.Pairwise.nil | cons x l => exact List.pairwise_singleton _ _, by dsimp only; omega, by cases X with | nil => exact .inl rfl | cons x l => exact .inr rfl⟩ ?_
  clear hs
  rintro ⟨i, Sd, R⟩ τ w1 ⟨hs, h1, h2, h3, h4⟩
  dsimp only at hs h1 h2 h3 h4 ⊢
  have hlen := h1.length_eq
  rw [List.length_append] at hlen
  rcases R with _ | ⟨x, R⟩
  · have hi : b ≤ i := by
      rcases h4 with h4 | h4
      · rw [h4] at hb; simp at hb; omega
      · simp at hlen; omega
    (repeat' (first | (refine isLW ?_; first | refine LW_nil ?_ | (refine isLbin ?_; first | (refine LW_cmp rfl (fun _ => ?_) (fun _ => ?_) <;> try (exfalso; omega))) | refine LW_pure TOK rfl ?_) | (with_reducible first | refine then_n ?_ | refine CW_seq ?_ | refine CW_region ?_ | refine CW_exit ?_ | refine then_e ?_ | refine blk_same ?_) | refine CW_false rfl ?_ | refine RET0 Tryd.results96 ?_))
    rw [List.append_nil] at hs h1
    exact ⟨rfl, Sd, h1, h2, hs⟩
  · rw [List.length_cons] at hlen
    have h5 : i = a + Sd.length := h4.resolve_left (fun h => by rw [h] at hlen; simp at hlen)
    have hpp : PlOK ns (P ++ ((Sd ++ x :: R) ++ Q)) := fun z hz => by
      refine hp z ?_
      simp only [List.mem_append] at hz ⊢
      rcases hz with hz | hz | hz
      · exact .inl hz
      · exact .inr (.inl (h1.mem_iff.1 (List.mem_append.2 hz)))
      · exact .inr (.inr hz)
    (repeat' (first | (refine isLW ?_; first | refine LW_nil ?_ | (refine isLbin ?_; first | (refine LW_cmp rfl (fun _ => ?_) (fun _ => ?_) <;> try (exfalso; omega))) | refine LW_pure TOK rfl ?_) | (with_reducible first | refine then_n ?_ | refine CW_seq ?_ | refine CW_region ?_ | refine CW_block ?_ | refine CW_skip ?_) | refine CW_true rfl ?_))
    refine CW_loop (γ := (List Int × List Int)) (fun g => [(0, .slice A n c), (1, .int .i64 a), (2, .int .i64 b), (3, f), (8, .int .i64 i), (9, .int .i64 (a + (g.1.length : Int)))]) (fun g w' => Sat W w' (RowOf eI 3 1 A c (P ++ (g.1 ++ (x :: (g.2 ++ (R ++ Q))))) :: Cl bx [.slice NA ns.length nc] 28 :: L) ∧ g.1 ++ g.2 = Sd ∧ ∀ y ∈ g.2, leN ns x y) (fun g => g.1.length) (Sd, []) ⟨rfl, rfl, rfl, rfl, rfl, by show some (Value.int .i64 i) = some (Value.int .i64 (a + (Sd.length : Int))); rw [h5], trivial⟩ ⟨by have := hs; simp only [List.append_assoc, List.cons_append] at this; exact this, by simp, by simp⟩ ?_
    clear hs
    rintro ⟨S1, S2⟩ τ w2 ⟨hs, k1, k2⟩
    dsimp only at hs k1 k2 ⊢
    have hSl : S1.length + S2.length = Sd.length := by rw [← k1, List.length_append]
    rcases List.eq_nil_or_concat S1 with hS1 | ⟨S0, y, hS1⟩
    · have hS0 : S1.length = 0 := by rw [hS1]; rfl
      (repeat' (first | (refine isLW ?_; first | refine LW_nil ?_ | (refine isLg ?_; first | refine LW_pass rfl rfl ?_) | (refine isLbin ?_; first | refine LW_i64 rfl (by omega) (by omega) ?_) | refine LW_pure TOK rfl ?_) | (refine isDP ?_; first | (refine isDnil ?_; first | refine DP_end ?_ ?_) | (refine isDe rfl ?_; first | refine DP_eff rfl rfl ?_ ?_) | (refine isDg rfl ?_; first | refine DP_pass rfl rfl rfl rfl ?_) | (refine isDbin rfl ?_; first | (refine DP_cmp rfl rfl (by first | exact trivial | rfl) rfl (fun _ => ?_) (fun _ => ?_) <;> try (exfalso; omega))) | refine DP_pure TOK rfl rfl (by first | exact trivial | rfl) rfl ?_) | (refine isI0 ?_; exact Inv.nil) | (with_reducible first | refine then_n ?_ | refine CW_seq ?_ | refine CW_region ?_ | refine CW_exit ?_ | refine then_e ?_ | refine blk_n ?_ | refine blk_same ?_) | refine CW_false rfl ?_ | (refine CW_drawP (id := 4) [14] [0, 1, 2, 3, 4, 5, 6, 7, 8, 9, 10, 11, 12, 13, 14, 15, 16] mixed (by kernel_rfl) hs ?_; clear hs; intro hs)))
      subst hS1
      refine ⟨(i + 1, x :: S2, R), _, FR_forget _ ⟨rfl, rfl, rfl, rfl, rfl, trivial⟩, ⟨by dsimp only; simp only [List.nil_append, List.cons_append, List.append_assoc] at hs ⊢; exact hs, ?_, ?_, by dsimp only; omega, .inr (by dsimp only; rw [List.length_cons, h5]; simp at hSl; omega)⟩, by dsimp only; simp⟩
      · dsimp only
        rw [← k1] at h1
        exact List.perm_middle.symm.trans h1
      · have := srtd_in (S1 := []) (S2 := S2) (x := x) (by rw [k1]; exact h2) (by simp) k2
        exact this
    · subst hf
      rw [List.concat_eq_append] at hS1
      have hl1 : S1.length = S0.length + 1 := by rw [hS1]; simp
      obtain ⟨rest, hrest⟩ : ∃ rest, S2 ++ (R ++ Q) = rest := ⟨_, rfl⟩
      obtain ⟨T, hT⟩ : ∃ T, P ++ (S1 ++ (x :: rest)) = T := ⟨_, rfl⟩
      have hT1 : T = (P ++ S0) ++ y :: x :: rest := by rw [← hT, hS1]; simp
      have hT2 : T = (P ++ S1) ++ x :: rest := by rw [← hT]; simp
      have hTl : T.length = n := by
        rw [← hT, ← hrest]
        simp only [List.length_append, List.length_cons]
        omega
      rw [hrest, hT] at hs
      have hxv : Go.Sl.rd T (a + (S1.length : Int)) = x := by rw [hT2]; exact rd_mid _ _ _ (by rw [List.length_append]; omega)
      have hyv : Go.Sl.rd T (a + (S1.length : Int) - 1) = y := by rw [hT1]; exact rd_mid _ _ _ (by rw [List.length_append]; omega)
      have hpT : PlOK ns T := fun z hz => by
        refine hpp z ?_
        rw [← hT, ← hrest] at hz
        rw [← k1]
        simp only [List.mem_append, List.mem_cons] at hz ⊢
        rcases hz with h | h | h | h | h | h <;> simp [h]
      have hxo : 0 ≤ Go.Sl.rd T (a + (S1.length : Int)) ∧ Go.Sl.rd T (a + (S1.length : Int)) < ns.length := by rw [hxv]; exact hpT x (by rw [hT2]; simp)
      have hyo : 0 ≤ Go.Sl.rd T (a + (S1.length : Int) - 1) ∧ Go.Sl.rd T (a + (S1.length : Int) - 1) < ns.length := by rw [hyv]; exact hpT y (by rw [hT1]; simp)
      obtain ⟨z, hz⟩ : ∃ z, cmpN ns (Go.Sl.rd T (a + (S1.length : Int))) (Go.Sl.rd T (a + (S1.length : Int) - 1)) = z := ⟨_, rfl⟩
      have hz2 : z < 0 ↔ nmA ns x < nmA ns y := by rw [← hz, hxv, hyv]; exact cmpN_neg
      by_cases hc : z < 0
      · have hxy := leN_of_lt (hz2.1 hc)
        (repeat' (first | (refine isLW ?_; first | refine LW_nil ?_ | (refine isLg ?_; first | refine LW_take rfl ?_) | (refine isLstore ?_; first | (refine LW_storeRow 0 eI_ok (z := Go.Sl.rd T (a + (S1.length : Int) - 1)) hs TOK rfl (by assumption) rfl rfl rfl rfl rfl (by omega) (by omega) ?_; clear hs; intro w hs) | (refine LW_storeRow 0 eI_ok (z := Go.Sl.rd T (a + (S1.length : Int))) hs TOK rfl (by assumption) rfl rfl rfl rfl rfl (by omega) (by rw [List.length_set]; omega) ?_; clear hs; intro w hs)) | (refine isLcall ?_; first | (refine LW_call (cap := [.pointer (some ⟨bx, 0, none⟩)]) rfl rfl ent68 (cmp_call _ (Go.Sl.rd T (a + (S1.length : Int))) (Go.Sl.rd T (a + (S1.length : Int) - 1)) (hs.picks [1, 0]) rn hxo hyo hnl) ?_; clear hs; rintro _ w2 ⟨rfl, hs⟩; rw [hz]; replace hs := hs.picks [1, 0])) | (refine isLbin ?_; first | refine LW_i64 rfl (by omega) (by omega) ?_) | refine LW_pure TOK rfl ?_) | (refine isDP ?_; first | (refine isDnil ?_; first | refine DP_end ?_ ?_) | (refine isDe rfl ?_; first | refine DP_eff rfl rfl ?_ ?_) | (refine isDload rfl ?_; first | refine DP_loadRow0 (hs.rd 0 rfl) (fun _ => rfl) TOK rfl rfl (by first | exact trivial | rfl) rfl (by assumption) rfl rfl (by omega) (by omega) rfl ?_ ?_) | (refine isDidx rfl ?_; first | (refine DP_indexRdN (hs.rd 0 rfl) TOK rfl rfl (by first | exact trivial | rfl) rfl rfl rfl rfl rfl (by omega) (by omega) (by first | omega | (rw [List.length_set]; omega)) ?_; intro _ _ _)) | (refine isDbin rfl ?_; first | (refine DP_cmp rfl rfl (by first | exact trivial | rfl) rfl (fun _ => ?_) (fun _ => ?_) <;> try (exfalso; omega)) | refine DP_i64 rfl rfl (by first | exact trivial | rfl) rfl (by omega) (by omega) ?_) | refine DP_pure TOK rfl rfl (by first | exact trivial | rfl) rfl ?_) | (refine isI0 ?_; exact Inv.nil) | (refine isI1 ?_; first | refine Inv.keepR0 (hs.rd 0 rfl) (fun _ => rfl) (by assumption) (by omega) (by omega) rfl ?_ | refine Inv.gone (by kernel_rfl) ?_) | (with_reducible first | refine then_n ?_ | refine CW_seq ?_ | refine CW_region ?_ | refine CW_block ?_ | refine CW_skip ?_ | refine blk_n ?_) | refine CW_true rfl ?_ | (refine CW_drawP (id := 4) [14] [0, 1, 2, 3, 4, 5, 6, 7, 8, 9, 10, 11, 12, 13, 14, 15, 16] mixed (by kernel_rfl) hs ?_; clear hs; intro hs) | (refine CW_drawP (id := 6) [15, 17] [0, 1, 2, 3, 4, 5, 6, 7, 8, 9, 10, 11, 12, 13, 14, 15, 16, 17] mixed (by kernel_rfl) hs ?_; clear hs; intro hs)))
        all_goals
          have e1 : (a + (S1.length : Int)).toNat = (P ++ S0).length + 1 := by rw [List.length_append]; omega
          have e2 : (a + (S1.length : Int) - 1).toNat = (P ++ S0).length := by rw [List.length_append]; omega
          rw [hxv, hyv, e1, e2, hT1, swapD (P ++ S0) rest x y rfl, ← hrest] at hs
          exact ⟨((S0, y :: S2) : List Int × List Int), _, FR_forget _ ⟨rfl, rfl, rfl, rfl, rfl, by show some (Value.int .i64 (a + (S1.length : Int) - 1)) = some (Value.int .i64 (a + (S0.length : Int))); congr 2; omega, trivial⟩, ⟨by dsimp only; simp only [List.append_assoc, List.cons_append] at hs ⊢; exact hs, by dsimp only; rw [← k1, hS1]; simp, fun v hv => (List.mem_cons.1 hv).elim (fun h => by rw [h]; exact hxy) (k2 v)⟩, by dsimp only; omega⟩
      · have hxy : leN ns y x := fun h => hc (hz2.2 h)
        (repeat' (first | (refine isLW ?_; first | refine LW_nil ?_ | (refine isLg ?_; first | refine LW_take rfl ?_) | (refine isLcall ?_; first | (refine LW_call (cap := [.pointer (some ⟨bx, 0, none⟩)]) rfl rfl ent68 (cmp_call _ (Go.Sl.rd T (a + (S1.length : Int))) (Go.Sl.rd T (a + (S1.length : Int) - 1)) (hs.picks [1, 0]) rn hxo hyo hnl) ?_; clear hs; rintro _ w2 ⟨rfl, hs⟩; rw [hz]; replace hs := hs.picks [1, 0])) | (refine isLbin ?_; first | refine LW_i64 rfl (by omega) (by omega) ?_) | refine LW_pure TOK rfl ?_) | (refine isDP ?_; first | (refine isDnil ?_; first | refine DP_end ?_ ?_) | (refine isDe rfl ?_; first | refine DP_eff rfl rfl ?_ ?_) | (refine isDload rfl ?_; first | refine DP_loadRow0 (hs.rd 0 rfl) (fun _ => rfl) TOK rfl rfl (by first | exact trivial | rfl) rfl (by assumption) rfl rfl (by omega) (by omega) rfl ?_ ?_) | (refine isDidx rfl ?_; first | (refine DP_indexRdN (hs.rd 0 rfl) TOK rfl rfl (by first | exact trivial | rfl) rfl rfl rfl rfl rfl (by omega) (by omega) (by first | omega | (rw [List.length_set]; omega)) ?_; intro _ _ _)) | (refine isDbin rfl ?_; first | (refine DP_cmp rfl rfl (by first | exact trivial | rfl) rfl (fun _ => ?_) (fun _ => ?_) <;> try (exfalso; omega)) | refine DP_i64 rfl rfl (by first | exact trivial | rfl) rfl (by omega) (by omega) ?_) | refine DP_pure TOK rfl rfl (by first | exact trivial | rfl) rfl ?_) | (refine isI0 ?_; exact Inv.nil) | (refine isI1 ?_; first | refine Inv.keepR0 (hs.rd 0 rfl) (fun _ => rfl) (by assumption) (by omega) (by omega) rfl ?_) | (with_reducible first | refine then_n ?_ | refine CW_seq ?_ | refine CW_region ?_ | refine CW_exit ?_ | refine then_e ?_ | refine blk_n ?_ | refine blk_same ?_) | refine CW_false rfl ?_ | (refine CW_drawP (id := 4) [14] [0, 1, 2, 3, 4, 5, 6, 7, 8, 9, 10, 11, 12, 13, 14, 15, 16] mixed (by kernel_rfl) hs ?_; clear hs; intro hs)))
        have hsrt := h2
        rw [← k1, hS1] at hsrt
        have hxs : ∀ v ∈ S1, leN ns v x := fun v hv => by
          rw [hS1] at hv
          rcases List.mem_append.1 hv with hv | hv
          · refine leN_trans ?_ hxy
            have := (List.pairwise_append.1 hsrt).1
            exact (List.pairwise_append.1 this).2.2 v hv y (by simp)
          · rw [List.mem_singleton.1 hv]; exact hxy
        have hfin := srtd_in (by rw [k1]; exact h2) hxs k2
        have hper : ((S1 ++ x :: S2) ++ R).Perm X := by
          rw [← k1] at h1
          refine List.Perm.trans ?_ h1
          simp only [List.append_assoc, List.cons_append]
          exact List.Perm.append_left S1 List.perm_middle.symm
        all_goals
          rw [hT2, ← hrest] at hs
          exact ⟨((i + 1, S1 ++ x :: S2, R) : Int × List Int × List Int), _, FR_forget _ ⟨rfl, rfl, rfl, rfl, rfl, trivial⟩, ⟨by dsimp only; simp only [List.append_assoc, List.cons_append] at hs ⊢; exact hs, hper, hfin, by dsimp only; omega, .inr (by dsimp only; rw [List.length_append, List.length_cons, h5]; omega)⟩, by dsimp only; simp⟩
end
end Go.Proofs.YtbmeafeojcgndaaDoor

/- Plain: stretches in order, side by side; two that are merged. -/
set_option linter.unusedVariables false
set_option linter.unusedSimpArgs false
namespace Go.Proofs.YtbmeafeojcgndaaDoor
open Go Go.Sl Go.RowKit
theorem srtd_app {ns : List (List UInt8)} {A B : List Int} : Srtd ns (A ++ B) ↔ Srtd ns A ∧ Srtd ns B ∧ ∀ a ∈ A, ∀ b ∈ B, leN ns a b := by
  unfold Srtd; exact List.pairwise_append
theorem srtd_nil (ns : List (List UInt8)) : Srtd ns [] := List.Pairwise.nil
theorem srtd_one (ns : List (List UInt8)) (x : Int) : Srtd ns [x] := List.pairwise_singleton _ _
theorem srtd_cons {ns : List (List UInt8)} {x : Int} {B : List Int} : Srtd ns (x :: B) ↔ (∀ b ∈ B, leN ns x b) ∧ Srtd ns B := by
  unfold Srtd; exact List.pairwise_cons
theorem leN_refl (ns : List (List UInt8)) (x : Int) : leN ns x x := List.lt_irrefl _
/-- Below the last of what is in order. -/
theorem srtd_last {ns : List (List UInt8)} {A : List Int} {x : Int} (h : Srtd ns (A ++ [x])) : ∀ a ∈ A ++ [x], leN ns a x := fun a ha => by
  rcases List.mem_append.1 ha with ha | ha
  · exact (srtd_app.1 h).2.2 a ha x (by simp)
  · rw [List.mem_singleton.1 ha]; exact leN_refl ns x
theorem srtd_first {ns : List (List UInt8)} {B : List Int} {x : Int} (h : Srtd ns (x :: B)) : ∀ b ∈ x :: B, leN ns x b := fun b hb => by
  rcases List.mem_cons.1 hb with rfl | hb
  · exact leN_refl ns _
  · exact (srtd_cons.1 h).1 b hb
/-- A stretch turned about as the merge does it: what lies ahead is not above what lies behind. -/
theorem sym_ok {ns : List (List UInt8)} {X1 X2 Y1 Y2 : List Int} (hX : Srtd ns (X1 ++ X2)) (hY : Srtd ns (Y1 ++ Y2)) (h1 : ∀ x ∈ X1, ∀ y ∈ Y2, leN ns x y) (h2 : ∀ y ∈ Y1, ∀ x ∈ X2, leN ns y x) :
    ∀ a ∈ X1 ++ Y1, ∀ b ∈ X2 ++ Y2, leN ns a b := fun a ha b hb => by
  rcases List.mem_append.1 ha with ha | ha <;> rcases List.mem_append.1 hb with hb | hb
  · exact (srtd_app.1 hX).2.2 a ha b hb
  · exact h1 a ha b hb
  · exact h2 a ha b hb
  · exact (srtd_app.1 hY).2.2 a ha b hb
theorem sym_join {ns : List (List UInt8)} {P Q A B : List Int} (hA : Srtd ns A) (hB : Srtd ns B) (pA : A.Perm P) (pB : B.Perm Q) (h : ∀ a ∈ P, ∀ b ∈ Q, leN ns a b) : Srtd ns (A ++ B) :=
  srtd_app.2 ⟨hA, hB, fun a ha b hb => h a (pA.mem_iff.1 ha) b (pB.mem_iff.1 hb)⟩
/- BLOCKS -/
/-- Blocks of k, the last may be shorter. -/
def Shp (k : Nat) : List (List Int) → Prop
  | [] => True
  | [x] => 0 < x.length ∧ x.length ≤ k
  | x :: y :: l => x.length = k ∧ Shp k (y :: l)
theorem shp_app {k : Nat} (hk : 0 < k) : ∀ {D T : List (List Int)}, (∀ x ∈ D, x.length = k) → Shp k T → Shp k (D ++ T)
  | [], _, _, h => h
  | [x], [], hD, _ => ⟨by rw [hD x (by simp)]; exact hk, Nat.le_of_eq (hD x (by simp))⟩
  | [x], y :: T, hD, h => ⟨hD x (by simp), h⟩
  | x :: y :: D, T, hD, h => ⟨hD x (by simp), shp_app hk (fun z hz => hD z (List.mem_cons_of_mem _ hz)) h⟩
theorem shp_tail {k : Nat} {x : List Int} {l : List (List Int)} (h : Shp k (x :: l)) : Shp k l := by
  cases l with
  | nil => trivial
  | cons y l => exact h.2
theorem shp_len {k : Nat} {x : List Int} {l : List (List Int)} (hk : 0 < k) (h : Shp k (x :: l)) : 0 < x.length ∧ x.length ≤ k ∧ (l ≠ [] → x.length = k) := by
  cases l with
  | nil => exact ⟨h.1, h.2, fun h => absurd rfl h⟩
  | cons y l => exact ⟨by rw [h.1]; exact hk, Nat.le_of_eq h.1, fun _ => h.1⟩
theorem shp_pos {k : Nat} (hk : 0 < k) {y : List Int} {l : List (List Int)} (h : Shp k (y :: l)) : 0 < (y :: l).flatten.length := by
  have := (shp_len hk h).1
  simp; omega
/-- Two whole blocks lie there, if there is room for them. -/
theorem shp_two {k : Nat} (hk : 0 < k) {R : List (List Int)} (h : Shp k R) (hl : 2 * k ≤ R.flatten.length) : ∃ x y R', R = x :: y :: R' ∧ x.length = k ∧ y.length = k ∧ Shp k R' := by
  rcases R with _ | ⟨x, _ | ⟨y, R'⟩⟩
  · simp at hl; omega
  · have := (shp_len hk h).2.1
    simp at hl; omega
  · have h1 := h.1
    have h2 := shp_len hk h.2
    refine ⟨x, y, R', rfl, h1, ?_, shp_tail h.2⟩
    cases R' with
    | nil => simp at hl; omega
    | cons z R' => exact h2.2.2 (by simp)
/-- Less than two whole blocks. -/
theorem shp_few {k : Nat} (hk : 0 < k) {R : List (List Int)} (h : Shp k R) (hl : R.flatten.length < 2 * k) : R = [] ∨ (∃ x, R = [x] ∧ x.length ≤ k ∧ 0 < x.length) ∨ ∃ x y, R = [x, y] ∧ x.length = k ∧ 0 < y.length ∧ y.length < k := by
  rcases R with _ | ⟨x, _ | ⟨y, _ | ⟨z, R'⟩⟩⟩
  · exact .inl rfl
  · exact .inr (.inl ⟨x, rfl, h.2, h.1⟩)
  · have h1 := h.1
    have h2 := shp_len hk h.2
    simp at hl
    exact .inr (.inr ⟨x, y, rfl, h1, h2.1, by omega⟩)
  · have h1 := h.1
    have h2 := h.2.1
    simp at hl
    omega
/-- One block at most, if a block holds all. -/
theorem shp_one {k : Nat} (hk : 0 < k) {R : List (List Int)} (h : Shp k R) (hl : R.flatten.length ≤ k) : R = [] ∨ ∃ x, R = [x] := by
  rcases R with _ | ⟨x, _ | ⟨y, R'⟩⟩
  · exact .inl rfl
  · exact .inr ⟨x, rfl⟩
  · have h1 := h.1
    have h2 := shp_pos hk h.2
    simp at hl h2
    omega
end Go.Proofs.YtbmeafeojcgndaaDoor
