/- Walks of the library's stable sort: two stretches in order, side by side, are merged. -/
import Derived.Test.YtbmeafeojcgndaaDoorS2
import Derived.Test.YtbmeafeojcgndaaDoorV4
set_option linter.unusedVariables false
set_option linter.unusedSimpArgs false
namespace Go.Proofs.YtbmeafeojcgndaaDoor
open Go Go.Sl Go.RowKit
set_option maxRecDepth 100000
attribute [local irreducible] CW LW DW FR DP Calls Res Ret
theorem rd_app {A B C : List Int} {i : Int} (k : Nat) (hi : i = A.length + k) (hk : k < B.length) : Go.Sl.rd (A ++ (B ++ C)) i = Go.Sl.rd B (k : Int) := by
  subst hi
  show (A ++ (B ++ C)).getD ((A.length : Int) + k).toNat default = B.getD (k : Int).toNat default
  have e1 : ((A.length : Int) + k).toNat = A.length + k := by omega
  have e2 : (k : Int).toNat = k := by omega
  rw [e1, e2]
  simp [List.getD, List.getElem?_append_right, List.getElem?_append_left hk]
theorem rd_getE {B : List Int} {k : Nat} (hk : k < B.length) : Go.Sl.rd B (k : Int) = B[k] := by
  show B.getD (k : Int).toNat default = _
  have e2 : (k : Int).toNat = k := by omega
  rw [e2]; simp [List.getD, hk]
theorem swapU (A C : List Int) (x y : Int) {k : Nat} (hk : k = A.length) : ((A ++ x :: y :: C).set k y).set (k + 1) x = A ++ y :: x :: C := by
  subst hk
  rw [List.set_append_right _ _ (Nat.le_refl _)]
  rw [Nat.sub_self]
  show (A ++ y :: y :: C).set (A.length + 1) x = _
  rw [List.set_append_right _ _ (by omega)]
  have : A.length + 1 - A.length = 1 := by omega
  rw [this]; rfl
/-- All that lies ahead of a place is not above x. -/
theorem bs_lo {ns : List (List UInt8)} {Y : List Int} {x : Int} {i : Nat} (h : Srtd ns Y) (hi : i = 0 ∨ (i ≤ Y.length ∧ leN ns (Go.Sl.rd Y ((i - 1 : Nat) : Int)) x)) : ∀ y ∈ Y.take i, leN ns y x := fun y hy => by
  rcases hi with rfl | ⟨h1, h2⟩
  · simp at hy
  · rcases i with _ | k
    · simp at hy
    · have hk : k < Y.length := h1
      rw [Nat.add_sub_cancel, rd_getE hk] at h2
      have e : Y.take (k + 1) = Y.take k ++ [Y[k]] := by rw [List.take_add_one]; simp [hk]
      have hs : Srtd ns (Y.take k ++ [Y[k]]) := by rw [← e]; exact List.Pairwise.sublist (List.take_sublist _ _) h
      rw [e] at hy
      exact leN_trans (srtd_last hs y hy) h2
/-- All that lies from a place on is not below x. -/
theorem bs_hi {ns : List (List UInt8)} {Y : List Int} {x : Int} {i : Nat} (h : Srtd ns Y) (hi : i = Y.length ∨ leN ns x (Go.Sl.rd Y (i : Int))) : ∀ y ∈ Y.drop i, leN ns x y := fun y hy => by
  by_cases hl : i < Y.length
  · have h2 := hi.resolve_left (by omega)
    rw [rd_getE hl] at h2
    have e := List.drop_eq_getElem_cons hl
    have hs : Srtd ns (Y[i] :: Y.drop (i + 1)) := by rw [← e]; exact List.Pairwise.sublist (List.drop_sublist _ _) h
    rw [e] at hy
    exact leN_trans h2 (srtd_first hs y hy)
  · rw [List.drop_of_length_le (by omega)] at hy; simp at hy
theorem bs_bd {ns : List (List UInt8)} {X Y : List Int} {s e : Nat} (hX : Srtd ns X) (hY : Srtd ns Y) (h : s = 0 ∨ Y.length ≤ e ∨ (s ≤ X.length ∧ leN ns (Go.Sl.rd X ((s - 1 : Nat) : Int)) (Go.Sl.rd Y (e : Int)))) : ∀ x ∈ X.take s, ∀ y ∈ Y.drop e, leN ns x y := fun x hx y hy => by
  rcases h with rfl | h | ⟨h1, h2⟩
  · simp at hx
  · rw [List.drop_of_length_le h] at hy; simp at hy
  · exact bs_hi (x := x) hY (.inr (bs_lo hX (.inr ⟨h1, h2⟩) x hx)) y hy
theorem shr1 {a y : Int} (n : Nat) (ha : a = (n : Int)) (hy : y = 1) : shV .shr .u64 a y = some ((n / 2 : Nat) : Int) := by
  subst ha hy; exact congrArg some (shr_nat n 1)
theorem cmpN_ge {ns : List (List UInt8)} {a b : Int} (h : ¬ cmpN ns a b < 0) : leN ns b a := fun k => h (cmpN_neg.2 k)
theorem cmpN_lt {ns : List (List UInt8)} {a b : Int} (h : cmpN ns a b < 0) : leN ns a b := leN_of_lt (cmpN_neg.1 h)
section
variable {W : World} {ns : List (List UInt8)} {NA : Option Addr} {nc bx : Nat} {L : List HProp}
/-- What a merge is to do. -/
def SymC (W : World) (ns : List (List UInt8)) (NA : Option Addr) (nc bx : Nat) (L : List HProp) (N : Nat) : Prop :=
  ∀ (w : World) (P X Y Q : List Int) (A : Option Addr) (c n : Nat) (a m b : Int), n ≤ 140737488355328 → X.length + Y.length ≤ N → n = P.length + (X.length + (Y.length + Q.length)) → a = P.length → m = (P.length : Int) + X.length → b = (P.length : Int) + X.length + Y.length → 0 < X.length → 0 < Y.length →
    Srtd ns X → Srtd ns Y → Sat W w (RowOf eI 3 1 A c (P ++ (X ++ (Y ++ Q))) :: Cl bx [.slice NA ns.length nc] 28 :: L) → PlOK ns (P ++ (X ++ (Y ++ Q))) →
    Calls Tryd.prog 97 [Value.slice A n c, .int .i64 a, .int .i64 m, .int .i64 b, .func (.func 68) #[] #[.pointer (some ⟨bx, 0, none⟩)]].toArray w (Ret fun v w' => v = .tuple #[] ∧ ∃ Z, Z.Perm (X ++ Y) ∧ Srtd ns Z ∧ Sat W w' (RowOf eI 3 1 A c (P ++ (Z ++ Q)) :: Cl bx [.slice NA ns.length nc] 28 :: L))
set_option maxHeartbeats 2000000 in
theorem sym_one (rn : Rd eN W NA ns) (hnl : ns.length ≤ 140737488355328) (w : World) (P Y Q : List Int) (x : Int) (A : Option Addr) (c n : Nat) (a m b : Int) (hn : n = P.length + (1 + (Y.length + Q.length))) (ha : a = P.length) (hm : m = (P.length : Int) + 1) (hb : b = (P.length : Int) + 1 + Y.length) (hl : n ≤ 140737488355328)
    (hY : Srtd ns Y) (hs : Sat W w (RowOf eI 3 1 A c (P ++ ([x] ++ (Y ++ Q))) :: Cl bx [.slice NA ns.length nc] 28 :: L)) (hp : PlOK ns (P ++ ([x] ++ (Y ++ Q)))) :
    Calls Tryd.prog 97 [Value.slice A n c, .int .i64 a, .int .i64 m, .int .i64 b, .func (.func 68) #[] #[.pointer (some ⟨bx, 0, none⟩)]].toArray w (Ret fun v w' => v = .tuple #[] ∧ ∃ Z, Z.Perm ([x] ++ Y) ∧ Srtd ns Z ∧ Sat W w' (RowOf eI 3 1 A c (P ++ (Z ++ Q)) :: Cl bx [.slice NA ns.length nc] 28 :: L)) := by
  refine Calls_of Tryd.func97 rfl 220 Tryd.ntmps97 rfl ?_
  obtain ⟨f, hf⟩ : ∃ f : Value, .func (.func 68) #[] #[.pointer (some ⟨bx, 0, none⟩)] = f := ⟨_, rfl⟩
  rw [hf]
  (repeat' (first | (refine isLW ?_; first | refine LW_nil ?_ | (refine isLbin ?_; first | refine LW_i64 rfl (by omega) (by omega) ?_ | (refine LW_cmp rfl (fun _ => ?_) (fun _ => ?_) <;> try (exfalso; omega))) | refine LW_pure TOK rfl ?_) | (with_reducible first | refine then_n ?_ | refine CW_seq ?_ | refine CW_region ?_ | refine CW_block ?_) | refine CW_true rfl ?_))
  refine CW_loop (γ := Nat × Nat) (fun g => [(0, .slice A n c), (1, .int .i64 a), (4, f), (10, .int .i64 (m + (g.1 : Int))), (11, .int .i64 (m + (g.2 : Int)))]) (fun g w' => Sat W w' (RowOf eI 3 1 A c (P ++ ([x] ++ (Y ++ Q))) :: Cl bx [.slice NA ns.length nc] 28 :: L) ∧ g.1 ≤ g.2 ∧ g.2 ≤ Y.length ∧ (g.1 = 0 ∨ (g.1 ≤ Y.length ∧ leN ns (Go.Sl.rd Y ((g.1 - 1 : Nat) : Int)) x)) ∧ (g.2 = Y.length ∨ leN ns x (Go.Sl.rd Y (g.2 : Int)))) (fun g => g.2 - g.1) (0, Y.length) ⟨rfl, rfl, rfl, by show some (Value.int .i64 m) = some (Value.int .i64 (m + ((0 : Nat) : Int))); congr 2; omega, by show some (Value.int .i64 b) = some (Value.int .i64 (m + (Y.length : Int))); congr 2; omega, trivial⟩ ⟨hs, Nat.zero_le _, Nat.le_refl _, .inl rfl, .inl rfl⟩ ?_
  clear hs
  rintro ⟨i, j⟩ τ w1 ⟨hs, h1, h2, h3, h4⟩
  dsimp only at hs h1 h2 h3 h4 ⊢
  by_cases hij : i < j
  · subst hf
    obtain ⟨h, hh⟩ : ∃ h, (i + j) / 2 = h := ⟨_, rfl⟩
    have hi1 : i ≤ h := by omega
    have hj1 : h < j := by omega
    obtain ⟨S, hS⟩ : ∃ S : Nat, (S : Int) = m + (i : Int) + (m + (j : Int)) := ⟨(m + (i : Int) + (m + (j : Int))).toNat, by omega⟩
    have hSh : ((S / 2 : Nat) : Int) = m + (h : Int) := by omega
    obtain ⟨T, hT⟩ : ∃ T, P ++ ([x] ++ (Y ++ Q)) = T := ⟨_, rfl⟩
    rw [hT] at hs hp
    have hTl : T.length = n := by rw [← hT]; simp; omega
    have hxv : Go.Sl.rd T a = x := by rw [← hT]; exact rd_mid P _ x ha
    have hyv : Go.Sl.rd T (m + (h : Int)) = Go.Sl.rd Y (h : Int) := by
      rw [← hT, ← List.append_assoc]; exact rd_app h (by simp; omega) (by omega)
    have hmem : ∀ i : Int, 0 ≤ i → i < T.length → 0 ≤ Go.Sl.rd T i ∧ Go.Sl.rd T i < ns.length := fun i k0 k1 => hp _ (List.mem_of_getElem? (rd_get k0 k1))
    have hxo := hmem a (by omega) (by omega)
    have hyo := hmem (m + (h : Int)) (by omega) (by omega)
    obtain ⟨z, hz⟩ : ∃ z, cmpN ns (Go.Sl.rd T (m + (h : Int))) (Go.Sl.rd T a) = z := ⟨_, rfl⟩
    by_cases hc : z < 0
    · have hyx : leN ns (Go.Sl.rd Y (h : Int)) x := by
        rw [← hz, hxv, hyv] at hc; exact cmpN_lt hc
      (repeat' (first | (refine isLW ?_; first | refine LW_nil ?_ | (refine isLcall ?_; first | (refine LW_call (cap := [.pointer (some ⟨bx, 0, none⟩)]) rfl rfl ent68 (cmp_call _ (Go.Sl.rd T (m + (h : Int))) (Go.Sl.rd T a) (hs.picks [1, 0]) rn hyo hxo hnl) ?_; clear hs; rintro _ w2 ⟨rfl, hs⟩; rw [hz]; replace hs := hs.picks [1, 0])) | (refine isLbin ?_; first | refine LW_shiftE (m + (h : Int)) rfl rfl (by omega) (shr1 S rfl rfl) hSh ?_ | refine LW_i64 rfl (by omega) (by omega) ?_ | (refine LW_cmp rfl (fun _ => ?_) (fun _ => ?_) <;> try (exfalso; omega))) | refine LW_convE (S : Int) TOK rfl rfl rfl rfl ((wrap_u64 (by omega) (by omega)).trans (by omega)) ?_ | refine LW_convE (m + (h : Int)) TOK rfl rfl rfl rfl (wrap_i64 (by omega) (by omega)) ?_ | refine LW_pure TOK rfl ?_) | (refine isDP ?_; first | (refine isDnil ?_; first | refine DP_end ?_ ?_) | (refine isDe rfl ?_; first | refine DP_eff rfl rfl ?_ ?_) | (refine isDload rfl ?_; first | refine DP_loadRow0 (hs.rd 0 rfl) (fun _ => rfl) TOK rfl rfl (by first | exact trivial | rfl) rfl (by assumption) rfl rfl (by omega) (by omega) rfl ?_ ?_) | (refine isDidx rfl ?_; first | (refine DP_indexRdN (hs.rd 0 rfl) TOK rfl rfl (by first | exact trivial | rfl) rfl rfl rfl rfl rfl (by omega) (by omega) (by omega) ?_; intro _ _ _)) | (refine isDbin rfl ?_; first | (refine DP_cmp rfl rfl (by first | exact trivial | rfl) rfl (fun _ => ?_) (fun _ => ?_) <;> try (exfalso; omega))) | refine DP_pure TOK rfl rfl (by first | exact trivial | rfl) rfl ?_) | (refine isI0 ?_; exact Inv.nil) | (refine isI1 ?_; first | refine Inv.keepR0 (hs.rd 0 rfl) (fun _ => rfl) (by assumption) (by omega) (by omega) rfl ?_) | (with_reducible first | refine then_n ?_ | refine CW_seq ?_ | refine CW_region ?_ | refine CW_block ?_ | refine CW_skip ?_ | refine blk_n ?_) | refine CW_true rfl ?_ | (refine CW_drawP (id := 5) [9] [0, 1, 2, 3, 4, 5, 6, 7, 8, 9, 10] mixed (by kernel_rfl) hs ?_; clear hs; intro hs)))
      all_goals exact ⟨((h + 1, j) : Nat × Nat), _, FR_forget _ ⟨rfl, rfl, rfl, by show some (Value.int .i64 (m + (h : Int) + 1)) = some (Value.int .i64 (m + ((h + 1 : Nat) : Int))); congr 2; omega, rfl, trivial⟩, ⟨by rw [hT]; exact hs, by dsimp only; omega, h2, .inr ⟨by dsimp only; omega, hyx⟩, h4⟩, by dsimp only; omega⟩
    · have hxy : leN ns x (Go.Sl.rd Y (h : Int)) := by
        rw [← hz, hxv, hyv] at hc; exact cmpN_ge hc
      (repeat' (first | (refine isLW ?_; first | refine LW_nil ?_ | (refine isLcall ?_; first | (refine LW_call (cap := [.pointer (some ⟨bx, 0, none⟩)]) rfl rfl ent68 (cmp_call _ (Go.Sl.rd T (m + (h : Int))) (Go.Sl.rd T a) (hs.picks [1, 0]) rn hyo hxo hnl) ?_; clear hs; rintro _ w2 ⟨rfl, hs⟩; rw [hz]; replace hs := hs.picks [1, 0])) | (refine isLbin ?_; first | refine LW_shiftE (m + (h : Int)) rfl rfl (by omega) (shr1 S rfl rfl) hSh ?_ | refine LW_i64 rfl (by omega) (by omega) ?_ | (refine LW_cmp rfl (fun _ => ?_) (fun _ => ?_) <;> try (exfalso; omega))) | refine LW_convE (S : Int) TOK rfl rfl rfl rfl ((wrap_u64 (by omega) (by omega)).trans (by omega)) ?_ | refine LW_convE (m + (h : Int)) TOK rfl rfl rfl rfl (wrap_i64 (by omega) (by omega)) ?_ | refine LW_pure TOK rfl ?_) | (refine isDP ?_; first | (refine isDnil ?_; first | refine DP_end ?_ ?_) | (refine isDe rfl ?_; first | refine DP_eff rfl rfl ?_ ?_) | (refine isDload rfl ?_; first | refine DP_loadRow0 (hs.rd 0 rfl) (fun _ => rfl) TOK rfl rfl (by first | exact trivial | rfl) rfl (by assumption) rfl rfl (by omega) (by omega) rfl ?_ ?_) | (refine isDidx rfl ?_; first | (refine DP_indexRdN (hs.rd 0 rfl) TOK rfl rfl (by first | exact trivial | rfl) rfl rfl rfl rfl rfl (by omega) (by omega) (by omega) ?_; intro _ _ _)) | (refine isDbin rfl ?_; first | (refine DP_cmp rfl rfl (by first | exact trivial | rfl) rfl (fun _ => ?_) (fun _ => ?_) <;> try (exfalso; omega))) | refine DP_pure TOK rfl rfl (by first | exact trivial | rfl) rfl ?_) | (refine isI0 ?_; exact Inv.nil) | (refine isI1 ?_; first | refine Inv.keepR0 (hs.rd 0 rfl) (fun _ => rfl) (by assumption) (by omega) (by omega) rfl ?_) | (with_reducible first | refine then_n ?_ | refine CW_seq ?_ | refine CW_region ?_ | refine CW_block ?_ | refine CW_skip ?_ | refine blk_n ?_) | refine CW_true rfl ?_ | refine CW_false rfl ?_ | (refine CW_drawP (id := 5) [9] [0, 1, 2, 3, 4, 5, 6, 7, 8, 9, 10] mixed (by kernel_rfl) hs ?_; clear hs; intro hs)))
      all_goals exact ⟨((i, h) : Nat × Nat), _, FR_forget _ ⟨rfl, rfl, rfl, rfl, rfl, trivial⟩, ⟨by rw [hT]; exact hs, hi1, by dsimp only; omega, h3, .inr hxy⟩, by dsimp only; omega⟩
  · have e : j = i := by omega
    subst e
    have hlo := bs_lo hY h3
    have hhi := bs_hi hY h4
    (repeat' (first | (refine isLW ?_; first | refine LW_nil ?_ | (refine isLbin ?_; first | (refine LW_cmp rfl (fun _ => ?_) (fun _ => ?_) <;> try (exfalso; omega))) | refine LW_pure TOK rfl ?_) | (with_reducible first | refine then_n ?_ | refine CW_seq ?_ | refine CW_region ?_ | refine CW_block ?_ | refine CW_exit ?_ | refine then_e ?_ | refine blk_same ?_) | refine CW_false rfl ?_))
    refine CW_loop (γ := Nat) (fun g => [(0, .slice A n c), (10, .int .i64 (m + (j : Int))), (13, .int .i64 (a + (g : Int)))]) (fun g w' => Sat W w' (RowOf eI 3 1 A c (P ++ (Y.take g ++ x :: (Y.drop g ++ Q))) :: Cl bx [.slice NA ns.length nc] 28 :: L) ∧ g ≤ j) (fun g => j - g) 0 ⟨rfl, rfl, by show some (Value.int .i64 a) = some (Value.int .i64 (a + ((0 : Nat) : Int))); congr 2; omega, trivial⟩ ⟨hs, Nat.zero_le _⟩ ?_
    clear hs
    rintro g τ w2 ⟨hs, g1⟩
    try dsimp only
    by_cases hg : g < j
    · have hgY : g < Y.length := by omega
      have e1 : Y.drop g = Y[g] :: Y.drop (g + 1) := List.drop_eq_getElem_cons hgY
      have e2 : Y.take (g + 1) = Y.take g ++ [Y[g]] := by rw [List.take_add_one]; simp [hgY]
      have htl : (Y.take g).length = g := by rw [List.length_take]; omega
      obtain ⟨y, hy⟩ : ∃ y, Y[g] = y := ⟨_, rfl⟩
      rw [hy] at e1 e2
      obtain ⟨C, hC⟩ : ∃ C, Y.drop (g + 1) ++ Q = C := ⟨_, rfl⟩
      obtain ⟨T, hT⟩ : ∃ T, P ++ (Y.take g ++ x :: (Y.drop g ++ Q)) = T := ⟨_, rfl⟩
      have hT1 : T = (P ++ Y.take g) ++ x :: y :: C := by rw [← hT, e1, ← hC]; simp
      have hT2 : T = (P ++ Y.take g ++ [x]) ++ y :: C := by rw [hT1]; simp
      have hdl : (Y.drop (g + 1)).length = Y.length - (g + 1) := List.length_drop
      have hCl : C.length = Y.length - (g + 1) + Q.length := by rw [← hC, List.length_append, hdl]
      have hTl : T.length = n := by rw [hT1]; simp; omega
      rw [hT] at hs
      have hxv : Go.Sl.rd T (a + (g : Int)) = x := by rw [hT1]; exact rd_mid _ _ _ (by simp; omega)
      have hyv : Go.Sl.rd T (a + (g : Int) + 1) = y := by rw [hT2]; exact rd_mid _ _ _ (by simp; omega)
      (repeat' (first | (refine isLW ?_; first | refine LW_nil ?_ | (refine isLstore ?_; first | (refine LW_storeRow 0 eI_ok (z := Go.Sl.rd T (a + (g : Int) + 1)) hs TOK rfl (by assumption) rfl rfl rfl rfl rfl (by omega) (by omega) ?_; clear hs; intro w hs) | (refine LW_storeRow 0 eI_ok (z := Go.Sl.rd T (a + (g : Int))) hs TOK rfl (by assumption) rfl rfl rfl rfl rfl (by omega) (by rw [List.length_set]; omega) ?_; clear hs; intro w hs)) | (refine isLbin ?_; first | refine LW_i64 rfl (by omega) (by omega) ?_ | (refine LW_cmp rfl (fun _ => ?_) (fun _ => ?_) <;> try (exfalso; omega))) | refine LW_pure TOK rfl ?_) | (refine isDP ?_; first | (refine isDnil ?_; first | refine DP_end ?_ ?_) | (refine isDe rfl ?_; first | refine DP_eff rfl rfl ?_ ?_) | (refine isDload rfl ?_; first | refine DP_loadRow0 (hs.rd 0 rfl) (fun _ => rfl) TOK rfl rfl (by first | exact trivial | rfl) rfl (by assumption) rfl rfl (by omega) (by omega) rfl ?_ ?_) | (refine isDidx rfl ?_; first | (refine DP_indexRdN (hs.rd 0 rfl) TOK rfl rfl (by first | exact trivial | rfl) rfl rfl rfl rfl rfl (by omega) (by omega) (by first | omega | (rw [List.length_set]; omega)) ?_; intro _ _ _)) | (refine isDbin rfl ?_; first | refine DP_i64 rfl rfl (by first | exact trivial | rfl) rfl (by omega) (by omega) ?_) | refine DP_pure TOK rfl rfl (by first | exact trivial | rfl) rfl ?_) | (refine isI0 ?_; exact Inv.nil) | (refine isI1 ?_; first | refine Inv.keepR0 (hs.rd 0 rfl) (fun _ => rfl) (by assumption) (by omega) (by omega) rfl ?_ | refine Inv.gone (by kernel_rfl) ?_) | (with_reducible first | refine then_n ?_ | refine CW_seq ?_ | refine CW_region ?_ | refine CW_block ?_ | refine CW_skip ?_ | refine blk_n ?_) | refine CW_true rfl ?_ | (refine CW_drawP (id := 11) [15, 17] [0, 1, 2, 3, 4, 5, 6, 7, 8, 9, 10, 11, 12, 13, 14, 15, 16, 17] mixed (by kernel_rfl) hs ?_; clear hs; intro hs)))
      all_goals
        have k1 : (a + (g : Int)).toNat = (P ++ Y.take g).length := by rw [List.length_append]; omega
        have k2 : (a + (g : Int) + 1).toNat = (P ++ Y.take g).length + 1 := by rw [List.length_append]; omega
        rw [hxv, hyv, k1, k2, hT1, swapU (P ++ Y.take g) C x y rfl, ← hC] at hs
        exact ⟨g + 1, _, FR_forget _ ⟨rfl, rfl, by show some (Value.int .i64 (a + (g : Int) + 1)) = some (Value.int .i64 (a + ((g + 1 : Nat) : Int))); congr 2; omega, trivial⟩, ⟨by rw [e2]; simp only [List.append_assoc, List.cons_append, List.nil_append] at hs ⊢; exact hs, by omega⟩, by omega⟩
    · have e : g = j := by omega
      subst e
      (repeat' (first | (refine isLW ?_; first | refine LW_nil ?_ | (refine isLbin ?_; first | refine LW_i64 rfl (by omega) (by omega) ?_ | (refine LW_cmp rfl (fun _ => ?_) (fun _ => ?_) <;> try (exfalso; omega))) | refine LW_pure TOK rfl ?_) | (with_reducible first | refine then_n ?_ | refine CW_seq ?_ | refine CW_region ?_ | refine CW_exit ?_ | refine CW_ret ?_ | refine then_e ?_ | refine then_r ?_ | refine blk_same ?_) | refine CW_false rfl ?_ | refine RET0 Tryd.results97 ?_))
      all_goals exact ⟨rfl, Y.take g ++ x :: Y.drop g, by
        have := (List.perm_middle (a := x) (l₁ := Y.take g) (l₂ := Y.drop g))
        rw [List.take_append_drop] at this
        exact this, srtd_in (by rw [List.take_append_drop]; exact hY) hlo hhi, by simp only [List.append_assoc, List.cons_append] at hs ⊢; exact hs⟩
end
end Go.Proofs.YtbmeafeojcgndaaDoor
