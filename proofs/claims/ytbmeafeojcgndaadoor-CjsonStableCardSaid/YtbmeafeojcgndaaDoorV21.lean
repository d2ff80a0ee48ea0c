/- Walks of the library's stable sort: the merge of two stretches, whole. -/
import Derived.Test.YtbmeafeojcgndaaDoorV20
set_option linter.unusedVariables false
set_option linter.unusedSimpArgs false
namespace Go.Proofs.YtbmeafeojcgndaaDoor
open Go Go.Sl Go.RowKit
set_option maxRecDepth 100000
attribute [local irreducible] CW LW DW FR DP Calls Res Ret
section
variable {W : World} {ns : List (List UInt8)} {NA : Option Addr} {nc bx : Nat} {L : List HProp}
set_option maxHeartbeats 4000000 in
theorem symMerge_call (rn : Rd eN W NA ns) (hnl : ns.length ≤ 140737488355328) : ∀ N, SymC W ns NA nc bx L N := by
  intro N
  induction N with
  | zero => intro w P X Y Q A c n a m b _ h0 _ _ _ _ h1; omega
  | succ N ih =>
  intro w P X Y Q A c n a m b hl hN hn ha hm hb hX0 hY0 hX hY hs hp
  by_cases hX1 : X.length = 1
  · obtain ⟨x, rfl⟩ := List.length_eq_one_iff.1 hX1
    exact sym_one rn hnl w P Y Q x A c n a m b (by simpa using hn) ha (by simpa using hm) (by simpa using hb) hl hY hs hp
  by_cases hY1 : Y.length = 1
  · obtain ⟨y, rfl⟩ := List.length_eq_one_iff.1 hY1
    exact sym_last rn hnl w P X Q y A c n a m b (by simpa using hn) ha hm (by simpa using hb) (by omega) hl hX hs hp
  refine Calls_of Tryd.func97 rfl 220 Tryd.ntmps97 rfl ?_
  obtain ⟨mid, hmid⟩ : ∃ mid, (P.length + (P.length + X.length + Y.length)) / 2 = mid := ⟨_, rfl⟩
  obtain ⟨S, hS⟩ : ∃ S : Nat, (S : Int) = a + b := ⟨(a + b).toNat, by omega⟩
  have hSh : ((S / 2 : Nat) : Int) = (mid : Int) := by omega
  obtain ⟨mN, hmN⟩ : ∃ mN : Nat, P.length + X.length = mN := ⟨_, rfl⟩
  obtain ⟨bN, hbN⟩ : ∃ bN : Nat, P.length + X.length + Y.length = bN := ⟨_, rfl⟩
  obtain ⟨aN, haN⟩ : ∃ aN : Nat, P.length = aN := ⟨_, rfl⟩
  have ha' : a = (aN : Int) := by omega
  have hm' : m = (mN : Int) := by omega
  have hb' : b = (bN : Int) := by omega
  refine CW_late6 (fun a0 w => ∃ (s0 r0 : Nat) (τ : Nat → Value), a0 = FR 220 [(0, .slice A n c), (1, .int .i64 (aN : Int)), (2, .int .i64 (mN : Int)), (3, .int .i64 (bN : Int)), (4, .func (.func 68) #[] #[.pointer (some ⟨bx, 0, none⟩)]), (18, .int .i64 (mid : Int)), (19, .int .i64 ((mid : Int) + (mN : Int))), (20, .int .i64 (s0 : Int)), (21, .int .i64 (r0 : Int))] τ [] ∧ Sat W w (RowOf eI 3 1 A c (P ++ (X ++ (Y ++ Q))) :: Cl bx [.slice NA ns.length nc] 28 :: L) ∧ ((mid < mN ∧ s0 + bN = mid + mN ∧ r0 = mid) ∨ (mN ≤ mid ∧ s0 = aN ∧ r0 = mN))) ?_ ?_
  · clear hs w
    rintro a0 w ⟨s0, r0, τ, rfl, hs, hsr⟩
    have hs0a : aN ≤ s0 := by omega
    have hsr0 : s0 ≤ r0 := by omega
    have hr0m : r0 ≤ mN := by omega
    refine CW_late4 (fun a0 w => ∃ (s e : Nat) (X1 X2 Y1 Y2 : List Int) (τ : Nat → Value), a0 = FR 220 [(0, .slice A n c), (1, .int .i64 (aN : Int)), (3, .int .i64 (bN : Int)), (4, .func (.func 68) #[] #[.pointer (some ⟨bx, 0, none⟩)]), (18, .int .i64 (mid : Int)), (20, .int .i64 (s : Int)), (24, .int .i64 (e : Int))] τ [] ∧ Sat W w (RowOf eI 3 1 A c (P ++ (X1 ++ (Y1 ++ (X2 ++ (Y2 ++ Q))))) :: Cl bx [.slice NA ns.length nc] 28 :: L) ∧ X1 ++ X2 = X ∧ Y1 ++ Y2 = Y ∧ aN + X1.length = s ∧ s + Y1.length = mid ∧ mid + X2.length = e ∧ (∀ x ∈ X1, ∀ y ∈ Y2, leN ns x y) ∧ (∀ y ∈ Y1, ∀ x ∈ X2, leN ns y x)) ?_ ?_
    · clear hs w
      rintro a0 w ⟨s, e, X1, X2, Y1, Y2, τ, rfl, hs, rfl, rfl, q1, q2, q3, q4, q5⟩
      rw [List.length_append] at hmN hbN hN hn
      rw [List.length_append] at hbN hN hn
      have hpp : PlOK ns (P ++ (X1 ++ (Y1 ++ (X2 ++ (Y2 ++ Q))))) := fun z hz => by
        refine hp z ?_
        simp only [List.mem_append] at hz ⊢
        rcases hz with h | h | h | h | h | h <;> simp [h]
      have hsym := sym_ok hX hY q4 q5
      refine CW_late1 (fun a0 w => ∃ (Z1 : List Int) (τ : Nat → Value), a0 = FR 220 [(0, .slice A n c), (3, .int .i64 (bN : Int)), (4, .func (.func 68) #[] #[.pointer (some ⟨bx, 0, none⟩)]), (18, .int .i64 (mid : Int)), (24, .int .i64 (e : Int))] τ [] ∧ Sat W w (RowOf eI 3 1 A c (P ++ (Z1 ++ (X2 ++ (Y2 ++ Q)))) :: Cl bx [.slice NA ns.length nc] 28 :: L) ∧ Z1.Perm (X1 ++ Y1) ∧ Srtd ns Z1) ?_ ?_
      · clear hs w
        rintro a0 w ⟨Z1, τ, rfl, hs, z1, z2⟩
        have hz1 := z1.length_eq
        rw [List.length_append] at hz1
        have hpz : PlOK ns (P ++ (Z1 ++ (X2 ++ (Y2 ++ Q)))) := fun z hz => by
          refine hpp z ?_
          simp only [List.mem_append] at hz ⊢
          rcases hz with h | h | h
          · simp [h]
          · have := z1.mem_iff.1 h
            rcases List.mem_append.1 this with h | h <;> simp [h]
          · rcases h with h | h | h <;> simp [h]
        have hfin : ∀ Z2 : List Int, Z2.Perm (X2 ++ Y2) → (Z1 ++ Z2).Perm (X1 ++ X2 ++ (Y1 ++ Y2)) := fun Z2 h => by
          refine (List.Perm.append z1 h).trans ?_
          simp only [List.append_assoc]
          refine List.Perm.append_left X1 ?_
          rw [← List.append_assoc, ← List.append_assoc]
          exact List.Perm.append_right Y2 List.perm_append_comm
        by_cases hc : mid < e ∧ e < bN
        · obtain ⟨c1, c2⟩ := hc
          have hs2 : Sat W w (RowOf eI 3 1 A c ((P ++ Z1) ++ (X2 ++ (Y2 ++ Q))) :: Cl bx [.slice NA ns.length nc] 28 :: L) := by rw [List.append_assoc]; exact hs
          (repeat' (first | (refine isLW ?_; first | refine LW_nil ?_ | (refine isLg ?_; first | refine LW_take rfl ?_) | (refine isLcall ?_; first | (refine LW_call (cap := []) rfl rfl ent97 (ih _ (P ++ Z1) X2 Y2 Q A c n _ _ _ hl (by omega) (by simp only [List.length_append]; omega) (by simp only [List.length_append]; omega) (by simp only [List.length_append]; omega) (by simp only [List.length_append]; omega) (by omega) (by omega) (srtd_app.1 hX).2.1 (srtd_app.1 hY).2.1 hs2 (by rw [List.append_assoc]; exact hpz)) ?_; clear hs hs2; rintro _ w2 ⟨rfl, Z2, v1, v2, hs⟩)) | (refine isLbin ?_; first | (refine LW_cmp rfl (fun _ => ?_) (fun _ => ?_) <;> try (exfalso; omega))) | refine LW_pure TOK rfl ?_) | (with_reducible first | refine then_n ?_ | refine CW_seq ?_ | refine CW_region ?_) | refine CW_true rfl ?_ | refine RET0 Tryd.results97 ?_))
          all_goals exact ⟨rfl, Z1 ++ Z2, hfin Z2 v1, sym_join z2 v2 z1 v1 hsym, by simp only [List.append_assoc] at hs ⊢; exact hs⟩
        · have hemp : X2 = [] ∨ Y2 = [] := by
            rcases Nat.lt_or_ge mid e with h | h
            · right; exact List.length_eq_zero_iff.1 (by omega)
            · left; exact List.length_eq_zero_iff.1 (by omega)
          have hsr2 : Srtd ns (X2 ++ Y2) := by
            rcases hemp with rfl | rfl
            · exact (srtd_app.1 hY).2.1
            · rw [List.append_nil]; exact (srtd_app.1 hX).2.1
          (repeat' (first | (refine isLW ?_; first | refine LW_nil ?_ | (refine isLg ?_; first | refine LW_take rfl ?_ | refine LW_pass rfl rfl ?_) | (refine isLbin ?_; first | (refine LW_cmp rfl (fun _ => ?_) (fun _ => ?_) <;> try (exfalso; omega))) | refine LW_pure TOK rfl ?_) | (with_reducible first | refine then_n ?_ | refine CW_seq ?_ | refine CW_region ?_ | refine CW_skip ?_) | refine CW_false rfl ?_ | refine RET0 Tryd.results97 ?_))
          all_goals exact ⟨rfl, Z1 ++ (X2 ++ Y2), hfin _ (List.Perm.refl _), sym_join z2 hsr2 z1 (List.Perm.refl _) hsym, by simp only [List.append_assoc] at hs ⊢; exact hs⟩
      · intro hlate
        by_cases hc : aN < s ∧ s < mid
        · obtain ⟨c1, c2⟩ := hc
          (repeat' (first | refine hlate _ _ ?_ | (refine isLW ?_; first | refine LW_nil ?_ | (refine isLg ?_; first | refine LW_take rfl ?_) | (refine isLcall ?_; first | (refine LW_call (cap := []) rfl rfl ent97 (ih _ P X1 Y1 (X2 ++ (Y2 ++ Q)) A c n _ _ _ hl (by omega) (by simp only [List.length_append]; omega) (by omega) (by omega) (by omega) (by omega) (by omega) (srtd_app.1 hX).1 (srtd_app.1 hY).1 hs hpp) ?_; clear hs; rintro _ w2 ⟨rfl, Z1, v1, v2, hs⟩)) | (refine isLbin ?_; first | (refine LW_cmp rfl (fun _ => ?_) (fun _ => ?_) <;> try (exfalso; omega))) | refine LW_pure TOK rfl ?_) | (with_reducible first | refine then_n ?_ | refine CW_seq ?_ | refine CW_region ?_) | refine CW_true rfl ?_))
          all_goals exact ⟨Z1, _, FR_forget _ ⟨rfl, rfl, rfl, rfl, rfl, trivial⟩, hs, v1, v2⟩
        · have hemp : X1 = [] ∨ Y1 = [] := by
            rcases Nat.lt_or_ge aN s with h | h
            · right; exact List.length_eq_zero_iff.1 (by omega)
            · left; exact List.length_eq_zero_iff.1 (by omega)
          have hsr2 : Srtd ns (X1 ++ Y1) := by
            rcases hemp with rfl | rfl
            · exact (srtd_app.1 hY).1
            · rw [List.append_nil]; exact (srtd_app.1 hX).1
          (repeat' (first | refine hlate _ _ ?_ | (refine isLW ?_; first | refine LW_nil ?_ | (refine isLg ?_; first | refine LW_take rfl ?_ | refine LW_pass rfl rfl ?_) | (refine isLbin ?_; first | (refine LW_cmp rfl (fun _ => ?_) (fun _ => ?_) <;> try (exfalso; omega))) | refine LW_pure TOK rfl ?_) | (with_reducible first | refine then_n ?_ | refine CW_seq ?_ | refine CW_region ?_ | refine CW_skip ?_) | refine CW_false rfl ?_))
          all_goals exact ⟨X1 ++ Y1, _, FR_forget _ ⟨rfl, rfl, rfl, rfl, rfl, trivial⟩, by rw [List.append_assoc]; exact hs, List.Perm.refl _, hsr2⟩
    · intro hlate
      (repeat' (first | (refine isLW ?_; first | refine LW_nil ?_ | (refine isLbin ?_; first | refine LW_i64 rfl (by omega) (by omega) ?_) | refine LW_pure TOK rfl ?_) | (with_reducible first | refine then_n ?_ | refine CW_seq ?_ | refine CW_region ?_ | refine CW_block ?_)))
      refine CW_loop (γ := Nat × Nat) (fun g => [(0, .slice A n c), (1, .int .i64 (aN : Int)), (2, .int .i64 (mN : Int)), (3, .int .i64 (bN : Int)), (4, .func (.func 68) #[] #[.pointer (some ⟨bx, 0, none⟩)]), (18, .int .i64 (mid : Int)), (19, .int .i64 ((mid : Int) + (mN : Int))), (22, .int .i64 ((mid : Int) + (mN : Int) - 1)), (20, .int .i64 (g.1 : Int)), (21, .int .i64 (g.2 : Int))]) (fun g w' => Sat W w' (RowOf eI 3 1 A c (P ++ (X ++ (Y ++ Q))) :: Cl bx [.slice NA ns.length nc] 28 :: L) ∧ s0 ≤ g.1 ∧ g.1 ≤ g.2 ∧ g.2 ≤ r0 ∧ (g.1 = s0 ∨ leN ns (Go.Sl.rd X ((g.1 - 1 - aN : Nat) : Int)) (Go.Sl.rd Y ((mid - g.1 : Nat) : Int))) ∧ (g.2 = r0 ∨ leN ns (Go.Sl.rd Y ((mid - 1 - g.2 : Nat) : Int)) (Go.Sl.rd X ((g.2 - aN : Nat) : Int)))) (fun g => g.2 - g.1) (s0, r0) ⟨rfl, rfl, rfl, rfl, rfl, rfl, rfl, rfl, rfl, rfl, trivial⟩ ⟨hs, Nat.le_refl _, hsr0, Nat.le_refl _, .inl rfl, .inl rfl⟩ ?_
      clear hs
      rintro ⟨s, r⟩ τ w1 ⟨hs, h0, h1, h2, h3, h4⟩
      dsimp only at hs h0 h1 h2 h3 h4 ⊢
      by_cases hsr1 : s < r
      · obtain ⟨h, hh⟩ : ∃ h, (s + r) / 2 = h := ⟨_, rfl⟩
        have hi1 : s ≤ h := by omega
        have hj1 : h < r := by omega
        have hSh2 : (((s + r : Nat) / 2 : Nat) : Int) = (h : Int) := by omega
        obtain ⟨T, hT⟩ : ∃ T, P ++ (X ++ (Y ++ Q)) = T := ⟨_, rfl⟩
        have hpT := hp
        rw [hT] at hs hpT
        have hTl : T.length = n := by rw [← hT]; simp; omega
        have hxv : Go.Sl.rd T (h : Int) = Go.Sl.rd X ((h - aN : Nat) : Int) := by
          rw [← hT]; exact rd_app (h - aN) (by omega) (by omega)
        have hyv : Go.Sl.rd T ((mid : Int) + (mN : Int) - 1 - (h : Int)) = Go.Sl.rd Y ((mid - 1 - h : Nat) : Int) := by
          rw [← hT, ← List.append_assoc]; exact rd_app (mid - 1 - h) (by rw [List.length_append]; omega) (by omega)
        have hmem : ∀ i : Int, 0 ≤ i → i < T.length → 0 ≤ Go.Sl.rd T i ∧ Go.Sl.rd T i < ns.length := fun i k0 k1 => hpT _ (List.mem_of_getElem? (rd_get k0 k1))
        have hxo := hmem (h : Int) (by omega) (by omega)
        have hyo := hmem ((mid : Int) + (mN : Int) - 1 - (h : Int)) (by omega) (by omega)
        obtain ⟨z, hz⟩ : ∃ z, cmpN ns (Go.Sl.rd T ((mid : Int) + (mN : Int) - 1 - (h : Int))) (Go.Sl.rd T (h : Int)) = z := ⟨_, rfl⟩
        by_cases hc : z < 0
        · have hyx : leN ns (Go.Sl.rd Y ((mid - 1 - h : Nat) : Int)) (Go.Sl.rd X ((h - aN : Nat) : Int)) := by
            rw [← hz, hxv, hyv] at hc; exact cmpN_lt hc
          (repeat' (first | (refine isLW ?_; first | refine LW_nil ?_ | (refine isLcall ?_; first | (refine LW_call (cap := [.pointer (some ⟨bx, 0, none⟩)]) rfl rfl ent68 (cmp_call _ (Go.Sl.rd T ((mid : Int) + (mN : Int) - 1 - (h : Int))) (Go.Sl.rd T (h : Int)) (hs.picks [1, 0]) rn hyo hxo hnl) ?_; clear hs; rintro _ w2 ⟨rfl, hs⟩; rw [hz]; replace hs := hs.picks [1, 0])) | (refine isLbin ?_; first | refine LW_shiftE (h : Int) rfl rfl (by omega) (shr1 (s + r) rfl rfl) hSh2 ?_ | refine LW_i64 rfl (by omega) (by omega) ?_ | (refine LW_cmp rfl (fun _ => ?_) (fun _ => ?_) <;> try (exfalso; omega))) | refine LW_convE ((s + r : Nat) : Int) TOK rfl rfl rfl rfl ((wrap_u64 (by omega) (by omega)).trans (by omega)) ?_ | refine LW_convE (h : Int) TOK rfl rfl rfl rfl (wrap_i64 (by omega) (by omega)) ?_ | refine LW_pure TOK rfl ?_) | (refine isDP ?_; first | (refine isDnil ?_; first | refine DP_end ?_ ?_) | (refine isDe rfl ?_; first | refine DP_eff rfl rfl ?_ ?_) | (refine isDload rfl ?_; first | refine DP_loadRow0 (hs.rd 0 rfl) (fun _ => rfl) TOK rfl rfl (by first | exact trivial | rfl) rfl (by assumption) rfl rfl (by omega) (by omega) rfl ?_ ?_) | (refine isDidx rfl ?_; first | (refine DP_indexRdN (hs.rd 0 rfl) TOK rfl rfl (by first | exact trivial | rfl) rfl rfl rfl rfl rfl (by omega) (by omega) (by omega) ?_; intro _ _ _)) | (refine isDbin rfl ?_; first | (refine DP_cmp rfl rfl (by first | exact trivial | rfl) rfl (fun _ => ?_) (fun _ => ?_) <;> try (exfalso; omega)) | refine DP_i64 rfl rfl (by first | exact trivial | rfl) rfl (by omega) (by omega) ?_) | refine DP_pure TOK rfl rfl (by first | exact trivial | rfl) rfl ?_) | (refine isI0 ?_; exact Inv.nil) | (refine isI1 ?_; first | refine Inv.keepR0 (hs.rd 0 rfl) (fun _ => rfl) (by assumption) (by omega) (by omega) rfl ?_) | (with_reducible first | refine then_n ?_ | refine CW_seq ?_ | refine CW_region ?_ | refine CW_block ?_ | refine CW_skip ?_ | refine blk_n ?_) | refine CW_true rfl ?_ | refine CW_false rfl ?_ | (refine CW_drawP (id := 35) [11] [0, 1, 2, 3, 4, 5, 6, 7, 8, 9, 10, 11, 12, 13] mixed (by kernel_rfl) hs ?_; clear hs; intro hs)))
          all_goals exact ⟨((s, h) : Nat × Nat), _, FR_forget _ ⟨rfl, rfl, rfl, rfl, rfl, rfl, rfl, rfl, rfl, rfl, trivial⟩, ⟨by rw [hT]; exact hs, h0, hi1, by dsimp only; omega, h3, .inr hyx⟩, by dsimp only; omega⟩
        · have hxy : leN ns (Go.Sl.rd X ((h - aN : Nat) : Int)) (Go.Sl.rd Y ((mid - 1 - h : Nat) : Int)) := by
            rw [← hz, hxv, hyv] at hc; exact cmpN_ge hc
          (repeat' (first | (refine isLW ?_; first | refine LW_nil ?_ | (refine isLcall ?_; first | (refine LW_call (cap := [.pointer (some ⟨bx, 0, none⟩)]) rfl rfl ent68 (cmp_call _ (Go.Sl.rd T ((mid : Int) + (mN : Int) - 1 - (h : Int))) (Go.Sl.rd T (h : Int)) (hs.picks [1, 0]) rn hyo hxo hnl) ?_; clear hs; rintro _ w2 ⟨rfl, hs⟩; rw [hz]; replace hs := hs.picks [1, 0])) | (refine isLbin ?_; first | refine LW_shiftE (h : Int) rfl rfl (by omega) (shr1 (s + r) rfl rfl) hSh2 ?_ | refine LW_i64 rfl (by omega) (by omega) ?_ | (refine LW_cmp rfl (fun _ => ?_) (fun _ => ?_) <;> try (exfalso; omega))) | refine LW_convE ((s + r : Nat) : Int) TOK rfl rfl rfl rfl ((wrap_u64 (by omega) (by omega)).trans (by omega)) ?_ | refine LW_convE (h : Int) TOK rfl rfl rfl rfl (wrap_i64 (by omega) (by omega)) ?_ | refine LW_pure TOK rfl ?_) | (refine isDP ?_; first | (refine isDnil ?_; first | refine DP_end ?_ ?_) | (refine isDe rfl ?_; first | refine DP_eff rfl rfl ?_ ?_) | (refine isDload rfl ?_; first | refine DP_loadRow0 (hs.rd 0 rfl) (fun _ => rfl) TOK rfl rfl (by first | exact trivial | rfl) rfl (by assumption) rfl rfl (by omega) (by omega) rfl ?_ ?_) | (refine isDidx rfl ?_; first | (refine DP_indexRdN (hs.rd 0 rfl) TOK rfl rfl (by first | exact trivial | rfl) rfl rfl rfl rfl rfl (by omega) (by omega) (by omega) ?_; intro _ _ _)) | (refine isDbin rfl ?_; first | (refine DP_cmp rfl rfl (by first | exact trivial | rfl) rfl (fun _ => ?_) (fun _ => ?_) <;> try (exfalso; omega)) | refine DP_i64 rfl rfl (by first | exact trivial | rfl) rfl (by omega) (by omega) ?_) | refine DP_pure TOK rfl rfl (by first | exact trivial | rfl) rfl ?_) | (refine isI0 ?_; exact Inv.nil) | (refine isI1 ?_; first | refine Inv.keepR0 (hs.rd 0 rfl) (fun _ => rfl) (by assumption) (by omega) (by omega) rfl ?_) | (with_reducible first | refine then_n ?_ | refine CW_seq ?_ | refine CW_region ?_ | refine CW_block ?_ | refine CW_skip ?_ | refine blk_n ?_) | refine CW_true rfl ?_ | (refine CW_drawP (id := 35) [11] [0, 1, 2, 3, 4, 5, 6, 7, 8, 9, 10, 11, 12, 13] mixed (by kernel_rfl) hs ?_; clear hs; intro hs)))
          all_goals exact ⟨((h + 1, r) : Nat × Nat), _, FR_forget _ ⟨rfl, rfl, rfl, rfl, rfl, rfl, rfl, rfl, rfl, rfl, trivial⟩, ⟨by rw [hT]; exact hs, by dsimp only; omega, by dsimp only; omega, h2, .inr (by dsimp only; rw [show h + 1 - 1 - aN = h - aN from by omega, show mid - (h + 1) = mid - 1 - h from by omega]; exact hxy), h4⟩, by dsimp only; omega⟩
      · have e : r = s := by omega
        subst e
        obtain ⟨X1, hX1'⟩ : ∃ X1, X.take (r - aN) = X1 := ⟨_, rfl⟩
        obtain ⟨X2, hX2'⟩ : ∃ X2, X.drop (r - aN) = X2 := ⟨_, rfl⟩
        obtain ⟨Y1, hY1'⟩ : ∃ Y1, Y.take (mid - r) = Y1 := ⟨_, rfl⟩
        obtain ⟨Y2, hY2'⟩ : ∃ Y2, Y.drop (mid - r) = Y2 := ⟨_, rfl⟩
        have lX1 : X1.length = r - aN := by rw [← hX1', List.length_take]; omega
        have lX2 : X2.length = mN - r := by rw [← hX2', List.length_drop]; omega
        have lY1 : Y1.length = mid - r := by rw [← hY1', List.length_take]; omega
        have lY2 : Y2.length = bN - mN - (mid - r) := by rw [← hY2', List.length_drop]; omega
        have eX : X1 ++ X2 = X := by rw [← hX1', ← hX2', List.take_append_drop]
        have eY : Y1 ++ Y2 = Y := by rw [← hY1', ← hY2', List.take_append_drop]
        have bd1 : ∀ x ∈ X1, ∀ y ∈ Y2, leN ns x y := by
          rw [← hX1', ← hY2']
          refine bs_bd hX hY ?_
          rcases h3 with h3 | h3
          · rcases hsr with ⟨g1, g2, g3⟩ | ⟨g1, g2, g3⟩
            · right; left; omega
            · left; omega
          · by_cases h5 : r = aN
            · left; omega
            · right; right
              exact ⟨by omega, by rw [show r - aN - 1 = r - 1 - aN from by omega]; exact h3⟩
        have bd2 : ∀ y ∈ Y1, ∀ x ∈ X2, leN ns y x := by
          rw [← hY1', ← hX2']
          refine bs_bd hY hX ?_
          rcases h4 with h4 | h4
          · rcases hsr with ⟨g1, g2, g3⟩ | ⟨g1, g2, g3⟩
            · left; omega
            · right; left; omega
          · by_cases h5 : mid = r
            · left; omega
            · right; right
              exact ⟨by omega, by rw [show mid - r - 1 = mid - 1 - r from by omega]; exact h4⟩
        have hs2 : Sat W w1 (RowOf eI 3 1 A c ((P ++ X1) ++ (X2 ++ (Y1 ++ (Y2 ++ Q)))) :: Cl bx [.slice NA ns.length nc] 28 :: L) := by
          rw [← eX, ← eY] at hs
          simp only [List.append_assoc] at hs ⊢
          exact hs
        by_cases hc : r < mN ∧ mN < mid + mN - r
        · obtain ⟨c1, c2⟩ := hc
          (repeat' (first | refine hlate _ _ ?_ | (refine isLW ?_; first | refine LW_nil ?_ | (refine isLg ?_; first | refine LW_take rfl ?_) | (refine isLcall ?_; first | (refine LW_call (cap := []) rfl rfl ent107 (rotate_call _ (P ++ X1) X2 Y1 (Y2 ++ Q) A c n _ _ _ _ (by simp only [List.length_append]; omega) (by simp only [List.length_append]; omega) (by simp only [List.length_append]; omega) (by simp only [List.length_append]; omega) (by omega) (by omega) hs2 hl) ?_; clear hs hs2; rintro _ w2 ⟨rfl, hs⟩)) | (refine isLbin ?_; first | refine LW_i64 rfl (by omega) (by omega) ?_ | (refine LW_cmp rfl (fun _ => ?_) (fun _ => ?_) <;> try (exfalso; omega))) | refine LW_pure TOK rfl ?_) | (with_reducible first | refine then_n ?_ | refine CW_seq ?_ | refine CW_region ?_ | refine CW_exit ?_ | refine then_e ?_ | refine blk_same ?_) | refine CW_true rfl ?_ | refine CW_false rfl ?_))
          all_goals exact ⟨r, mid + mN - r, X1, X2, Y1, Y2, _, FR_forget _ ⟨rfl, rfl, rfl, rfl, rfl, rfl, by show some (Value.int .i64 ((mid : Int) + (mN : Int) - (r : Int))) = some (Value.int .i64 ((mid + mN - r : Nat) : Int)); congr 2; omega, trivial⟩, by simp only [List.append_assoc] at hs ⊢; exact hs, eX, eY, by omega, by omega, by omega, bd1, bd2⟩
        · have hemp : X2 = [] ∨ Y1 = [] := by
            rcases Nat.lt_or_ge r mN with h | h
            · right; exact List.length_eq_zero_iff.1 (by omega)
            · left; exact List.length_eq_zero_iff.1 (by omega)
          have hs3 : Sat W w1 (RowOf eI 3 1 A c (P ++ (X1 ++ (Y1 ++ (X2 ++ (Y2 ++ Q))))) :: Cl bx [.slice NA ns.length nc] 28 :: L) := by
            rcases hemp with h | h <;> (subst h; simp only [List.append_assoc, List.nil_append] at hs2 ⊢; exact hs2)
          clear hs
          have hs := hs3
          (repeat' (first | refine hlate _ _ ?_ | (refine isLW ?_; first | refine LW_nil ?_ | (refine isLg ?_; first | refine LW_take rfl ?_ | refine LW_pass rfl rfl ?_) | (refine isLbin ?_; first | refine LW_i64 rfl (by omega) (by omega) ?_ | (refine LW_cmp rfl (fun _ => ?_) (fun _ => ?_) <;> try (exfalso; omega))) | refine LW_pure TOK rfl ?_) | (with_reducible first | refine then_n ?_ | refine CW_seq ?_ | refine CW_region ?_ | refine CW_skip ?_ | refine CW_exit ?_ | refine then_e ?_ | refine blk_same ?_) | refine CW_false rfl ?_))
          all_goals exact ⟨r, mid + mN - r, X1, X2, Y1, Y2, _, FR_forget _ ⟨rfl, rfl, rfl, rfl, rfl, rfl, by show some (Value.int .i64 ((mid : Int) + (mN : Int) - (r : Int))) = some (Value.int .i64 ((mid + mN - r : Nat) : Int)); congr 2; omega, trivial⟩, hs, eX, eY, by omega, by omega, by omega, bd1, bd2⟩
  · intro hlate
    subst ha' hm' hb'
    by_cases hm : mid < mN
    · (repeat' (first | refine hlate _ _ ?_ | (refine isLW ?_; first | refine LW_nil ?_ | (refine isLbin ?_; first | refine LW_shiftE (mid : Int) rfl rfl (by omega) (shr1 S rfl rfl) hSh ?_ | refine LW_i64 rfl (by omega) (by omega) ?_ | (refine LW_cmp rfl (fun _ => ?_) (fun _ => ?_) <;> try (exfalso; omega))) | refine LW_convE (S : Int) TOK rfl rfl rfl rfl ((wrap_u64 (by omega) (by omega)).trans (by omega)) ?_ | refine LW_convE (mid : Int) TOK rfl rfl rfl rfl (wrap_i64 (by omega) (by omega)) ?_ | refine LW_pure TOK rfl ?_) | (with_reducible first | refine then_n ?_ | refine CW_seq ?_ | refine CW_region ?_ | refine CW_skip ?_) | refine CW_true rfl ?_ | refine CW_false rfl ?_))
      exact ⟨mid + mN - bN, mid, _, FR_forget _ ⟨rfl, rfl, rfl, rfl, rfl, rfl, rfl, by show some (Value.int .i64 ((mid : Int) + (mN : Int) - (bN : Int))) = some (Value.int .i64 ((mid + mN - bN : Nat) : Int)); congr 2; omega, rfl, trivial⟩, hs, .inl ⟨hm, by omega, rfl⟩⟩
    · (repeat' (first | refine hlate _ _ ?_ | (refine isLW ?_; first | refine LW_nil ?_ | (refine isLbin ?_; first | refine LW_shiftE (mid : Int) rfl rfl (by omega) (shr1 S rfl rfl) hSh ?_ | refine LW_i64 rfl (by omega) (by omega) ?_ | (refine LW_cmp rfl (fun _ => ?_) (fun _ => ?_) <;> try (exfalso; omega))) | refine LW_convE (S : Int) TOK rfl rfl rfl rfl ((wrap_u64 (by omega) (by omega)).trans (by omega)) ?_ | refine LW_convE (mid : Int) TOK rfl rfl rfl rfl (wrap_i64 (by omega) (by omega)) ?_ | refine LW_pure TOK rfl ?_) | (with_reducible first | refine then_n ?_ | refine CW_seq ?_ | refine CW_region ?_ | refine CW_skip ?_) | refine CW_false rfl ?_))
      exact ⟨aN, mN, _, FR_forget _ ⟨rfl, rfl, rfl, rfl, rfl, rfl, rfl, rfl, rfl, trivial⟩, hs, .inr ⟨by omega, rfl, rfl⟩⟩
end
end Go.Proofs.YtbmeafeojcgndaaDoor
