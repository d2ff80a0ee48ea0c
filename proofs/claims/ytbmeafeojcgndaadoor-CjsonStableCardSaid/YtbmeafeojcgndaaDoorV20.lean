/- Walks of the library's stable sort: a stretch in order and one element more. -/
import Derived.Test.YtbmeafeojcgndaaDoorV19
set_option linter.unusedVariables false
set_option linter.unusedSimpArgs false
namespace Go.Proofs.YtbmeafeojcgndaaDoor
open Go Go.Sl Go.RowKit
set_option maxRecDepth 100000
attribute [local irreducible] CW LW DW FR DP Calls Res Ret
section
variable {W : World} {ns : List (List UInt8)} {NA : Option Addr} {nc bx : Nat} {L : List HProp}
set_option maxHeartbeats 2000000 in
theorem sym_last (rn : Rd eN W NA ns) (hnl : ns.length ≤ 140737488355328) (w : World) (P X Q : List Int) (y : Int) (A : Option Addr) (c n : Nat) (a m b : Int) (hn : n = P.length + (X.length + (1 + Q.length))) (ha : a = P.length) (hm : m = (P.length : Int) + X.length) (hb : b = (P.length : Int) + X.length + 1) (hX1 : 1 < X.length) (hl : n ≤ 140737488355328)
    (hX : Srtd ns X) (hs : Sat W w (RowOf eI 3 1 A c (P ++ (X ++ ([y] ++ Q))) :: Cl bx [.slice NA ns.length nc] 28 :: L)) (hp : PlOK ns (P ++ (X ++ ([y] ++ Q)))) :
    Calls Tryd.prog 97 [Value.slice A n c, .int .i64 a, .int .i64 m, .int .i64 b, .func (.func 68) #[] #[.pointer (some ⟨bx, 0, none⟩)]].toArray w (Ret fun v w' => v = .tuple #[] ∧ ∃ Z, Z.Perm (X ++ [y]) ∧ Srtd ns Z ∧ Sat W w' (RowOf eI 3 1 A c (P ++ (Z ++ Q)) :: Cl bx [.slice NA ns.length nc] 28 :: L)) := by
  refine Calls_of Tryd.func97 rfl 220 Tryd.ntmps97 rfl ?_
  obtain ⟨f, hf⟩ : ∃ f : Value, .func (.func 68) #[] #[.pointer (some ⟨bx, 0, none⟩)] = f := ⟨_, rfl⟩
  rw [hf]
  (repeat' (first | (refine isLW ?_; first | refine LW_nil ?_ | (refine isLbin ?_; first | refine LW_i64 rfl (by omega) (by omega) ?_ | (refine LW_cmp rfl (fun _ => ?_) (fun _ => ?_) <;> try (exfalso; omega))) | refine LW_pure TOK rfl ?_) | (with_reducible first | refine then_n ?_ | refine CW_seq ?_ | refine CW_region ?_ | refine CW_block ?_ | refine CW_skip ?_) | refine CW_true rfl ?_ | refine CW_false rfl ?_))
  refine CW_loop (γ := Nat × Nat) (fun g => [(0, .slice A n c), (2, .int .i64 m), (4, f), (14, .int .i64 (a + (g.1 : Int))), (15, .int .i64 (a + (g.2 : Int)))]) (fun g w' => Sat W w' (RowOf eI 3 1 A c (P ++ (X ++ ([y] ++ Q))) :: Cl bx [.slice NA ns.length nc] 28 :: L) ∧ g.1 ≤ g.2 ∧ g.2 ≤ X.length ∧ (g.1 = 0 ∨ (g.1 ≤ X.length ∧ leN ns (Go.Sl.rd X ((g.1 - 1 : Nat) : Int)) y)) ∧ (g.2 = X.length ∨ leN ns y (Go.Sl.rd X (g.2 : Int)))) (fun g => g.2 - g.1) (0, X.length) ⟨rfl, rfl, rfl, by show some (Value.int .i64 a) = some (Value.int .i64 (a + ((0 : Nat) : Int))); congr 2; omega, by show some (Value.int .i64 m) = some (Value.int .i64 (a + (X.length : Int))); congr 2; omega, trivial⟩ ⟨hs, Nat.zero_le _, Nat.le_refl _, .inl rfl, .inl rfl⟩ ?_
  clear hs
  rintro ⟨i, j⟩ τ w1 ⟨hs, h1, h2, h3, h4⟩
  dsimp only at hs h1 h2 h3 h4 ⊢
  by_cases hij : i < j
  · subst hf
    obtain ⟨h, hh⟩ : ∃ h, (i + j) / 2 = h := ⟨_, rfl⟩
    have hi1 : i ≤ h := by omega
    have hj1 : h < j := by omega
    obtain ⟨S, hS⟩ : ∃ S : Nat, (S : Int) = a + (i : Int) + (a + (j : Int)) := ⟨(a + (i : Int) + (a + (j : Int))).toNat, by omega⟩
    have hSh : ((S / 2 : Nat) : Int) = a + (h : Int) := by omega
    obtain ⟨T, hT⟩ : ∃ T, P ++ (X ++ ([y] ++ Q)) = T := ⟨_, rfl⟩
    rw [hT] at hs hp
    have hTl : T.length = n := by rw [← hT]; simp; omega
    have hyv : Go.Sl.rd T m = y := by rw [← hT, ← List.append_assoc]; exact rd_mid _ _ y (by simp; omega)
    have hxv : Go.Sl.rd T (a + (h : Int)) = Go.Sl.rd X (h : Int) := by
      rw [← hT]; exact rd_app h (by omega) (by omega)
    have hmem : ∀ i : Int, 0 ≤ i → i < T.length → 0 ≤ Go.Sl.rd T i ∧ Go.Sl.rd T i < ns.length := fun i k0 k1 => hp _ (List.mem_of_getElem? (rd_get k0 k1))
    have hyo := hmem m (by omega) (by omega)
    have hxo := hmem (a + (h : Int)) (by omega) (by omega)
    obtain ⟨z, hz⟩ : ∃ z, cmpN ns (Go.Sl.rd T m) (Go.Sl.rd T (a + (h : Int))) = z := ⟨_, rfl⟩
    by_cases hc : z < 0
    · have hyx : leN ns y (Go.Sl.rd X (h : Int)) := by
        rw [← hz, hxv, hyv] at hc; exact cmpN_lt hc
      (repeat' (first | (refine isLW ?_; first | refine LW_nil ?_ | (refine isLcall ?_; first | (refine LW_call (cap := [.pointer (some ⟨bx, 0, none⟩)]) rfl rfl ent68 (cmp_call _ (Go.Sl.rd T m) (Go.Sl.rd T (a + (h : Int))) (hs.picks [1, 0]) rn hyo hxo hnl) ?_; clear hs; rintro _ w2 ⟨rfl, hs⟩; rw [hz]; replace hs := hs.picks [1, 0])) | (refine isLbin ?_; first | refine LW_shiftE (a + (h : Int)) rfl rfl (by omega) (shr1 S rfl rfl) hSh ?_ | refine LW_i64 rfl (by omega) (by omega) ?_ | (refine LW_cmp rfl (fun _ => ?_) (fun _ => ?_) <;> try (exfalso; omega))) | refine LW_convE (S : Int) TOK rfl rfl rfl rfl ((wrap_u64 (by omega) (by omega)).trans (by omega)) ?_ | refine LW_convE (a + (h : Int)) TOK rfl rfl rfl rfl (wrap_i64 (by omega) (by omega)) ?_ | refine LW_pure TOK rfl ?_) | (refine isDP ?_; first | (refine isDnil ?_; first | refine DP_end ?_ ?_) | (refine isDe rfl ?_; first | refine DP_eff rfl rfl ?_ ?_) | (refine isDload rfl ?_; first | refine DP_loadRow0 (hs.rd 0 rfl) (fun _ => rfl) TOK rfl rfl (by first | exact trivial | rfl) rfl (by assumption) rfl rfl (by omega) (by omega) rfl ?_ ?_) | (refine isDidx rfl ?_; first | (refine DP_indexRdN (hs.rd 0 rfl) TOK rfl rfl (by first | exact trivial | rfl) rfl rfl rfl rfl rfl (by omega) (by omega) (by omega) ?_; intro _ _ _)) | (refine isDbin rfl ?_; first | (refine DP_cmp rfl rfl (by first | exact trivial | rfl) rfl (fun _ => ?_) (fun _ => ?_) <;> try (exfalso; omega))) | refine DP_pure TOK rfl rfl (by first | exact trivial | rfl) rfl ?_) | (refine isI0 ?_; exact Inv.nil) | (refine isI1 ?_; first | refine Inv.keepR0 (hs.rd 0 rfl) (fun _ => rfl) (by assumption) (by omega) (by omega) rfl ?_) | (with_reducible first | refine then_n ?_ | refine CW_seq ?_ | refine CW_region ?_ | refine CW_block ?_ | refine CW_skip ?_ | refine blk_n ?_) | refine CW_true rfl ?_ | refine CW_false rfl ?_ | (refine CW_drawP (id := 17) [9] [0, 1, 2, 3, 4, 5, 6, 7, 8, 9, 10, 11] mixed (by kernel_rfl) hs ?_; clear hs; intro hs)))
      all_goals exact ⟨((i, h) : Nat × Nat), _, FR_forget _ ⟨rfl, rfl, rfl, rfl, rfl, trivial⟩, ⟨by rw [hT]; exact hs, hi1, by dsimp only; omega, h3, .inr hyx⟩, by dsimp only; omega⟩
    · have hxy : leN ns (Go.Sl.rd X (h : Int)) y := by
        rw [← hz, hxv, hyv] at hc; exact cmpN_ge hc
      (repeat' (first | (refine isLW ?_; first | refine LW_nil ?_ | (refine isLcall ?_; first | (refine LW_call (cap := [.pointer (some ⟨bx, 0, none⟩)]) rfl rfl ent68 (cmp_call _ (Go.Sl.rd T m) (Go.Sl.rd T (a + (h : Int))) (hs.picks [1, 0]) rn hyo hxo hnl) ?_; clear hs; rintro _ w2 ⟨rfl, hs⟩; rw [hz]; replace hs := hs.picks [1, 0])) | (refine isLbin ?_; first | refine LW_shiftE (a + (h : Int)) rfl rfl (by omega) (shr1 S rfl rfl) hSh ?_ | refine LW_i64 rfl (by omega) (by omega) ?_ | (refine LW_cmp rfl (fun _ => ?_) (fun _ => ?_) <;> try (exfalso; omega))) | refine LW_convE (S : Int) TOK rfl rfl rfl rfl ((wrap_u64 (by omega) (by omega)).trans (by omega)) ?_ | refine LW_convE (a + (h : Int)) TOK rfl rfl rfl rfl (wrap_i64 (by omega) (by omega)) ?_ | refine LW_pure TOK rfl ?_) | (refine isDP ?_; first | (refine isDnil ?_; first | refine DP_end ?_ ?_) | (refine isDe rfl ?_; first | refine DP_eff rfl rfl ?_ ?_) | (refine isDload rfl ?_; first | refine DP_loadRow0 (hs.rd 0 rfl) (fun _ => rfl) TOK rfl rfl (by first | exact trivial | rfl) rfl (by assumption) rfl rfl (by omega) (by omega) rfl ?_ ?_) | (refine isDidx rfl ?_; first | (refine DP_indexRdN (hs.rd 0 rfl) TOK rfl rfl (by first | exact trivial | rfl) rfl rfl rfl rfl rfl (by omega) (by omega) (by omega) ?_; intro _ _ _)) | (refine isDbin rfl ?_; first | (refine DP_cmp rfl rfl (by first | exact trivial | rfl) rfl (fun _ => ?_) (fun _ => ?_) <;> try (exfalso; omega))) | refine DP_pure TOK rfl rfl (by first | exact trivial | rfl) rfl ?_) | (refine isI0 ?_; exact Inv.nil) | (refine isI1 ?_; first | refine Inv.keepR0 (hs.rd 0 rfl) (fun _ => rfl) (by assumption) (by omega) (by omega) rfl ?_) | (with_reducible first | refine then_n ?_ | refine CW_seq ?_ | refine CW_region ?_ | refine CW_block ?_ | refine CW_skip ?_ | refine blk_n ?_) | refine CW_true rfl ?_ | (refine CW_drawP (id := 17) [9] [0, 1, 2, 3, 4, 5, 6, 7, 8, 9, 10, 11] mixed (by kernel_rfl) hs ?_; clear hs; intro hs)))
      all_goals exact ⟨((h + 1, j) : Nat × Nat), _, FR_forget _ ⟨rfl, rfl, rfl, by show some (Value.int .i64 (a + (h : Int) + 1)) = some (Value.int .i64 (a + ((h + 1 : Nat) : Int))); congr 2; omega, rfl, trivial⟩, ⟨by rw [hT]; exact hs, by dsimp only; omega, h2, .inr ⟨by dsimp only; omega, hxy⟩, h4⟩, by dsimp only; omega⟩
  · have e : j = i := by omega
    subst e
    have hlo := bs_lo hX h3
    have hhi := bs_hi hX h4
    (repeat' (first | (refine isLW ?_; first | refine LW_nil ?_ | (refine isLbin ?_; first | (refine LW_cmp rfl (fun _ => ?_) (fun _ => ?_) <;> try (exfalso; omega))) | refine LW_pure TOK rfl ?_) | (with_reducible first | refine then_n ?_ | refine CW_seq ?_ | refine CW_region ?_ | refine CW_block ?_ | refine CW_exit ?_ | refine then_e ?_ | refine blk_same ?_) | refine CW_false rfl ?_))
    refine CW_loop (γ := Nat) (fun g => [(0, .slice A n c), (14, .int .i64 (a + (j : Int))), (17, .int .i64 (a + (g : Int)))]) (fun g w' => Sat W w' (RowOf eI 3 1 A c (P ++ (X.take g ++ y :: (X.drop g ++ Q))) :: Cl bx [.slice NA ns.length nc] 28 :: L) ∧ j ≤ g ∧ g ≤ X.length) (fun g => g) X.length ⟨rfl, rfl, by show some (Value.int .i64 m) = some (Value.int .i64 (a + (X.length : Int))); congr 2; omega, trivial⟩ ⟨by rw [List.take_length, List.drop_length]; exact hs, h2, Nat.le_refl _⟩ ?_
    clear hs
    rintro g τ w2 ⟨hs, g1, g2⟩
    try dsimp only
    by_cases hg : j < g
    · obtain ⟨t, rfl⟩ : ∃ t, g = t + 1 := ⟨g - 1, by omega⟩
      have hgX : t < X.length := by omega
      have e1 : X.drop t = X[t] :: X.drop (t + 1) := List.drop_eq_getElem_cons hgX
      have e2 : X.take (t + 1) = X.take t ++ [X[t]] := by rw [List.take_add_one]; simp [hgX]
      have htl : (X.take t).length = t := by rw [List.length_take]; omega
      obtain ⟨x, hx⟩ : ∃ x, X[t] = x := ⟨_, rfl⟩
      rw [hx] at e1 e2
      obtain ⟨C, hC⟩ : ∃ C, X.drop (t + 1) ++ Q = C := ⟨_, rfl⟩
      obtain ⟨T, hT⟩ : ∃ T, P ++ (X.take (t + 1) ++ y :: (X.drop (t + 1) ++ Q)) = T := ⟨_, rfl⟩
      have hT1 : T = (P ++ X.take t) ++ x :: y :: C := by rw [← hT, e2, ← hC]; simp
      have hT2 : T = (P ++ X.take t ++ [x]) ++ y :: C := by rw [hT1]; simp
      have hdl : (X.drop (t + 1)).length = X.length - (t + 1) := List.length_drop
      have hCl : C.length = X.length - (t + 1) + Q.length := by rw [← hC, List.length_append, hdl]
      have hTl : T.length = n := by rw [hT1]; simp; omega
      rw [hT] at hs
      have hxv : Go.Sl.rd T (a + ((t + 1 : Nat) : Int) - 1) = x := by rw [hT1]; exact rd_mid _ _ _ (by simp; omega)
      have hyv : Go.Sl.rd T (a + ((t + 1 : Nat) : Int)) = y := by rw [hT2]; exact rd_mid _ _ _ (by simp; omega)
      (repeat' (first | (refine isLW ?_; first | refine LW_nil ?_ | (refine isLstore ?_; first | (refine LW_storeRow 0 eI_ok (z := Go.Sl.rd T (a + ((t + 1 : Nat) : Int) - 1)) hs TOK rfl (by assumption) rfl rfl rfl rfl rfl (by omega) (by omega) ?_; clear hs; intro w hs) | (refine LW_storeRow 0 eI_ok (z := Go.Sl.rd T (a + ((t + 1 : Nat) : Int))) hs TOK rfl (by assumption) rfl rfl rfl rfl rfl (by omega) (by rw [List.length_set]; omega) ?_; clear hs; intro w hs)) | (refine isLbin ?_; first | refine LW_i64 rfl (by omega) (by omega) ?_ | (refine LW_cmp rfl (fun _ => ?_) (fun _ => ?_) <;> try (exfalso; omega))) | refine LW_pure TOK rfl ?_) | (refine isDP ?_; first | (refine isDnil ?_; first | refine DP_end ?_ ?_) | (refine isDe rfl ?_; first | refine DP_eff rfl rfl ?_ ?_) | (refine isDload rfl ?_; first | refine DP_loadRow0 (hs.rd 0 rfl) (fun _ => rfl) TOK rfl rfl (by first | exact trivial | rfl) rfl (by assumption) rfl rfl (by omega) (by omega) rfl ?_ ?_) | (refine isDidx rfl ?_; first | (refine DP_indexRdN (hs.rd 0 rfl) TOK rfl rfl (by first | exact trivial | rfl) rfl rfl rfl rfl rfl (by omega) (by omega) (by first | omega | (rw [List.length_set]; omega)) ?_; intro _ _ _)) | (refine isDbin rfl ?_; first | refine DP_i64 rfl rfl (by first | exact trivial | rfl) rfl (by omega) (by omega) ?_) | refine DP_pure TOK rfl rfl (by first | exact trivial | rfl) rfl ?_) | (refine isI0 ?_; exact Inv.nil) | (refine isI1 ?_; first | refine Inv.keepR0 (hs.rd 0 rfl) (fun _ => rfl) (by assumption) (by omega) (by omega) rfl ?_ | refine Inv.gone (by kernel_rfl) ?_) | (with_reducible first | refine then_n ?_ | refine CW_seq ?_ | refine CW_region ?_ | refine CW_block ?_ | refine CW_skip ?_ | refine blk_n ?_) | refine CW_true rfl ?_ | (refine CW_drawP (id := 23) [15, 17] [0, 1, 2, 3, 4, 5, 6, 7, 8, 9, 10, 11, 12, 13, 14, 15, 16, 17] mixed (by kernel_rfl) hs ?_; clear hs; intro hs)))
      all_goals
        have k1 : (a + ((t + 1 : Nat) : Int)).toNat = (P ++ X.take t).length + 1 := by rw [List.length_append]; omega
        have k2 : (a + ((t + 1 : Nat) : Int) - 1).toNat = (P ++ X.take t).length := by rw [List.length_append]; omega
        rw [hxv, hyv, k1, k2, hT1, swapD (P ++ X.take t) C y x rfl, ← hC] at hs
        exact ⟨t, _, FR_forget _ ⟨rfl, rfl, by show some (Value.int .i64 (a + ((t + 1 : Nat) : Int) - 1)) = some (Value.int .i64 (a + (t : Int))); congr 2; omega, trivial⟩, ⟨by rw [e1]; simp only [List.append_assoc, List.cons_append, List.nil_append] at hs ⊢; exact hs, by omega, by omega⟩, by omega⟩
    · have e : g = j := by omega
      subst e
      (repeat' (first | (refine isLW ?_; first | refine LW_nil ?_ | (refine isLbin ?_; first | (refine LW_cmp rfl (fun _ => ?_) (fun _ => ?_) <;> try (exfalso; omega))) | refine LW_pure TOK rfl ?_) | (with_reducible first | refine then_n ?_ | refine CW_seq ?_ | refine CW_region ?_ | refine CW_exit ?_ | refine CW_ret ?_ | refine then_e ?_ | refine then_r ?_ | refine blk_same ?_) | refine CW_false rfl ?_ | refine RET0 Tryd.results97 ?_))
      all_goals exact ⟨rfl, X.take g ++ y :: X.drop g, by
        have := (List.perm_middle (a := y) (l₁ := X.take g) (l₂ := X.drop g))
        rw [List.take_append_drop] at this
        exact this.trans (List.perm_append_comm (l₁ := [y]) (l₂ := X)), srtd_in (by rw [List.take_append_drop]; exact hX) hlo hhi, by simp only [List.append_assoc, List.cons_append] at hs ⊢; exact hs⟩
end
end Go.Proofs.YtbmeafeojcgndaaDoor
