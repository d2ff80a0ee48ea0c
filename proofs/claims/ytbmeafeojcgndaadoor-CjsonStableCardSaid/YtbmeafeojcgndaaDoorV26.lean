/- Walks of the reader: a list. -/
import Derived.Test.YtbmeafeojcgndaaDoorV25
import Derived.Test.YtbmeafeojcgndaaDoorSlDrawX
set_option linter.unusedVariables false
set_option linter.unusedSimpArgs false
namespace Go.Proofs.YtbmeafeojcgndaaDoor
open Go Go.Sl Go.RowKit
set_option maxRecDepth 100000
attribute [local irreducible] CW LW DW FR DP Calls Res Ret
theorem wordM_ok {b : List UInt8} : ∀ {t : List UInt8} {p q : Nat}, wordM b t p = .ok q → q = p + t.length
  | [], p, q, h => by cases h; rfl
  | c :: t, p, q, h => by
    rw [wordM_cons] at h
    split at h
    · cases h
    · split at h
      · have := wordM_ok h; rw [this]; simp; omega
      · cases h
theorem more_ok {b : List UInt8} {e : UInt8} {p : Nat} {m : Bool × Nat} (h : moreM b e p = .ok m) (hp : p ≤ b.length) : p < m.2 ∧ m.2 ≤ b.length := by
  unfold moreM at h
  have h1 := blanks_le hp
  split at h
  · cases h
  · rename_i x hx
    have h2 := (peek_some hx).2
    have h3 := blanks_le (b := b) (p := blanksM b p + 1) (by omega)
    split at h
    · cases h; dsimp only; omega
    · split at h
      · cases h; dsimp only; omega
      · cases h
theorem enter_ok {b : List UInt8} {p d q : Nat} (h : enterM b p d = .ok q) (hp : p < b.length) : p < q ∧ q ≤ b.length ∧ d < 16 := by
  unfold enterM at h
  split at h
  · cases h
    have h3 := blanks_le (b := b) (p := p + 1) (by omega)
    omega
  · cases h
section
variable {P : Program} {fn : Func} {R X : Value → World → Prop} {a : Act} {w W : World} {L R0 T : List HProp} {p q r s : HProp}
theorem Sat.past3 (h : Sat W w (s :: (R0 ++ (p :: q :: r :: T)))) : Sat W w (s :: p :: q :: r :: (R0 ++ T)) := h.perm (by
  refine List.Perm.cons s ?_
  have := List.perm_append_comm (l₁ := R0) (l₂ := [p, q, r])
  have := this.append_right T
  simpa using this)
end
/-- What the reader of values does, k levels above the deepest. -/
def ValC (W : World) (b : List UInt8) (B : Option Addr) (c br : Nat) (k : Nat) : Prop :=
  ∀ (dd : Nat) (w : World) (p : Nat) (L : List HProp), 0 < k → dd + k = 17 → Sat W w (Cl br (eR B b.length c p dd) 57 :: L) → p ≤ b.length →
    Calls Tryd.prog 26 [Value.pointer (some ⟨br, 0, none⟩)].toArray w (Gives W L (valueM b k p) fun q v w' => ∃ x : RV, v = .agg (eV x).toArray ∧ x.j = q.1 ∧ p < q.2 ∧ q.2 ≤ b.length ∧ Sat W w' (Cl br (eR B b.length c q.2 dd) 57 :: (x.rows ++ L)))
section
variable {W : World} {b : List UInt8} {B : Option Addr} {c br p d : Nat} {L : List HProp}
set_option maxHeartbeats 4000000 in
theorem list_call (rb : Rd eB W B b) (hb : b.length ≤ 16777216) (k : Nat) (hk : d + k = 16) (hv : ValC W b B c br k) (w : World) (hs : Sat W w (Cl br (eR B b.length c p d) 57 :: L)) (hp : p < b.length) :
    Calls Tryd.prog 38 [Value.pointer (some ⟨br, 0, none⟩)].toArray w (Gives W L (listM (valueM b k) b p d) fun q v w' => ∃ x : RV, v = .agg (eV x).toArray ∧ x.j = q.1 ∧ p < q.2 ∧ q.2 ≤ b.length ∧ Sat W w' (Cl br (eR B b.length c q.2 d) 57 :: (x.rows ++ L))) := by
  have hb2 : b.length ≤ 140737488355328 := by omega
  unfold Gives
  refine Calls_of Tryd.func38 rfl 36 Tryd.ntmps38 rfl ?_
  unfold listM
  (repeat' (first | (refine isLW ?_; first | refine LW_nil ?_ | (refine isLstore ?_; first | (refine LW_storeCA 0 TOK hs rfl rfl rfl rfl rfl (oneV _ _ _ _ _ _ _ _ _) rfl (Nat.le_of_ble_eq_true rfl) ?_; clear hs; intro w hs)) | refine LW_pure TOK rfl ?_ | (refine LW_alloc TOK hs rfl rfl ?_; clear hs; intro _ w hs) | refine LW_build TOK rfl rfl rfl rfl rfl rfl ?_) | (with_reducible first | refine then_n ?_ | refine CW_seq ?_ | refine CW_region ?_)))
  rename_i b2 _ b3 _
  replace hs : Sat W w (Cl br (eR B b.length c p d) 57 :: Cl b3 [.int .i64 4, .int .i64 0, sv [], .slice none 0 0, .slice none 0 0] 31 :: Cl b2 [.int .i64 0, .int .i64 0, sv [], .slice none 0 0, .slice none 0 0] 31 :: L) := hs.picks [2]
  rcases he : enterM b p d with er | q0
  · (repeat' (first | (refine isLW ?_; first | (refine isLcall ?_; first | (refine LW_callX (cap := []) rfl rfl ent56 (enter_call _ hs rb hp (by omega) hb2) ?_ ?_; (rintro _ w2 ⟨x, hx, _⟩; rw [he] at hx; cases hx); rintro _ w2 ⟨er2, hx, rfl, hs2⟩; rw [he] at hx; cases hx))) | (with_reducible first | refine then_p ?_) | refine RXP ?_))
    exact ⟨_, rfl, rfl, hs2.drop1.drop1⟩
  obtain ⟨hq1, hq2, hd16⟩ := enter_ok he hp
  have hk0 : 0 < k := by omega
  dsimp only
  (repeat' (first | (refine isLW ?_; first | refine LW_nil ?_ | (refine isLcall ?_; first | (refine LW_callX (cap := []) rfl rfl ent56 (enter_call _ hs rb hp (by omega) hb2) ?_ ?_; rotate_left; (rintro _ w2 ⟨x, hx, _⟩; rw [he] at hx; cases hx); clear hs; rintro _ w2 ⟨er2, hx, rfl, hs⟩; rw [he] at hx; cases hx)) | refine LW_pure TOK rfl ?_) | (with_reducible first | refine then_n ?_ | refine CW_seq ?_ | refine CW_region ?_)))
  rcases hpk : peekM b q0 with er | x
  · (repeat' (first | (refine isLW ?_; first | (refine isLcall ?_; first | (refine LW_callX (cap := []) rfl rfl ent35 (peek_call _ hs rb hq2 hb2) ?_ ?_; (rintro _ w2 ⟨x, hx, _⟩; rw [hpk] at hx; cases hx); rintro _ w2 ⟨er2, hx, rfl, hs2⟩; rw [hpk] at hx; cases hx))) | (with_reducible first | refine then_p ?_) | refine RXP ?_))
    exact ⟨_, rfl, rfl, hs2.drop1.drop1⟩
  dsimp only
  obtain ⟨hx1, hx2⟩ := peek_some hpk
  by_cases h93 : x.toNat = 93
  · rw [if_pos h93]
    (repeat' (first | (refine isLW ?_; first | refine LW_nil ?_ | (refine isLload ?_; first | refine LW_loadCAE 1 [.int .i64 4, .int .i64 0, sv [], .slice none 0 0, .slice none 0 0] TOK hs rfl rfl rfl rfl (Nat.le_of_ble_eq_true rfl) rfl ?_ | refine LW_loadC 0 TOK hs rfl rfl rfl rfl rfl ?_) | (refine isLstore ?_; first | (refine LW_storeCA 2 TOK hs rfl rfl rfl rfl rfl (oneV _ _ _ _ _ _ _ _ _) rfl (Nat.le_of_ble_eq_true rfl) ?_; clear hs; intro w hs) | (refine LW_storeC 0 TOK hs rfl rfl rfl rfl rfl rfl rfl ?_; clear hs; intro w hs)) | (refine isLcall ?_; first | (refine LW_callX (cap := []) rfl rfl ent35 (peek_call _ hs rb hq2 hb2) ?_ ?_; rotate_left; (rintro _ w2 ⟨x, hx, _⟩; rw [hpk] at hx; cases hx); clear hs; rintro _ w2 ⟨er2, hx, rfl, hs⟩; rw [hpk] at hx; cases hx; unfold eR at hs)) | (refine isLbin ?_; first | refine LW_i64 rfl (by omega) (by omega) ?_ | (refine LW_cmp rfl (fun _ => ?_) (fun _ => ?_) <;> try (exfalso; omega))) | refine LW_pure TOK rfl ?_) | (with_reducible first | refine then_n ?_ | refine CW_seq ?_ | refine CW_region ?_ | refine CW_ret ?_ | refine then_r ?_) | refine RX_of (RETA 2 hs TOK Tryd.results38 rfl rfl rfl rfl rfl ?_) | refine CW_true rfl ?_))
    all_goals exact ⟨_, rfl, .mk 4 0 [] none 0 [] none 0 [], rfl, rfl, by dsimp only; omega, by dsimp only; omega, by
      have h2 := (((hs.picks [1, 1]).drop1.drop1.nilRow 31 5).nilRow 9 1).picks [2]
      unfold eR
      rw [RV.rows, RV.rowss]
      rw [show ((d + 1 : Nat) : Int) - 1 = (d : Int) from by omega] at h2
      exact h2⟩
  rw [if_neg h93]
  (repeat' (first | (refine isLW ?_; first | refine LW_nil ?_ | (refine isLcall ?_; first | (refine LW_callX (cap := []) rfl rfl ent35 (peek_call _ hs rb hq2 hb2) ?_ ?_; rotate_left; (rintro _ w2 ⟨x, hx, _⟩; rw [hpk] at hx; cases hx); clear hs; rintro _ w2 ⟨er2, hx, rfl, hs⟩; rw [hpk] at hx; cases hx)) | (refine isLbin ?_; first | (refine LW_cmp rfl (fun _ => ?_) (fun _ => ?_) <;> try (exfalso; omega)))) | (with_reducible first | refine then_n ?_ | refine CW_block ?_ | refine CW_skip ?_) | refine CW_false rfl ?_))
  obtain ⟨m0, hm0⟩ : ∃ m0, itemsM (valueM b k) b (b.length + 1) [] q0 = m0 := ⟨_, rfl⟩
  rw [hm0]
  refine CW_loop (γ := Nat × Nat × List RV × Option Addr × Nat) (fun g => [(0, .pointer (some ⟨br, 0, none⟩)), (2, .pointer (some ⟨b2, 0, none⟩)), (3, .pointer (some ⟨b3, 0, none⟩))]) (fun g w' => Sat W w' (Cl br (eR B b.length c g.1 (d + 1)) 57 :: RowOf eV 31 5 g.2.2.2.1 g.2.2.2.2 g.2.2.1 :: Cl b3 [.int .i64 4, .int .i64 0, sv [], .slice none 0 0, .slice g.2.2.2.1 g.2.2.1.length g.2.2.2.2] 31 :: Cl b2 [.int .i64 0, .int .i64 0, sv [], .slice none 0 0, .slice none 0 0] 31 :: (RV.rowss g.2.2.1 ++ L)) ∧ p < g.1 ∧ g.1 ≤ b.length ∧ b.length < g.1 + g.2.1 ∧ g.2.2.1.length ≤ g.1 ∧ itemsM (valueM b k) b g.2.1 (RV.js g.2.2.1) g.1 = m0) (fun g => b.length - g.1) (q0, b.length + 1, [], none, 0) ⟨rfl, rfl, rfl, trivial⟩ ⟨(hs.nilRow 31 5).picks [1], hq1, hq2, by dsimp only; omega, by simp, hm0⟩ ?_
  clear hs hm0 hpk hx1 hx2 h93 he hq1 hq2
  rintro ⟨g, f, xs, A, ca⟩ τ w1 ⟨hs, h0, h1, h2, h3, h4⟩
  dsimp only at hs h0 h1 h2 h3 h4 ⊢
  obtain ⟨f, rfl⟩ : ∃ f', f = f' + 1 := ⟨f - 1, by omega⟩
  rw [itemsM_succ] at h4
  (repeat' (first | (with_reducible first | refine CW_seq ?_ | refine CW_block ?_)))
  refine CW_drawPX (X := fun cc ds w => ds = [] ∧ ∃ er, cc = [{ v := stopV er, recovered := false }] ∧ m0 = .error er ∧ Sat W w L) (id := 7) [3, 4, 5, 7] [0, 1, 2, 3, 4, 5, 6, 7] mixed (by kernel_rfl) ?_ hs ?_
  · rintro cc a w ⟨hd, er, rfl, hm, hs⟩
    repeat (first | refine then_p ?_ | refine blk_p ?_)
    exact RXPa hd ⟨er, by rw [hm], rfl, hs⟩
  clear hs
  intro hs
  refine DPX_pure TOK rfl rfl trivial rfl ?_
  refine DPX_loadC 2 hs TOK rfl rfl trivial rfl rfl rfl rfl rfl Inv.nil ?_
  refine DPX_pure TOK rfl rfl trivial rfl ?_
  refine DPX_eff rfl rfl (Inv.keepC 2 hs rfl rfl Inv.nil) ?_
  rcases hvv : valueM b k g with er | ⟨j, p2⟩
  · rw [hvv] at h4
    refine LW_callX (cap := []) rfl rfl ent26 (hv _ _ _ _ hk0 (by omega) hs h1) ?_ ?_
    · rintro _ w2 ⟨x, hx, _⟩; rw [hvv] at hx; cases hx
    · rintro _ w2 ⟨er2, hx, rfl, hs2⟩; rw [hvv] at hx; cases hx
      exact QX_p ⟨rfl, _, rfl, h4.symm, Sat.app hs2.drop1.drop1.drop1⟩
  rw [hvv] at h4
  dsimp only at h4
  refine LW_callX (cap := []) rfl rfl ent26 (hv _ _ _ _ hk0 (by omega) hs h1) ?_ ?_
  rotate_left
  · rintro _ w2 ⟨x, hx, _⟩; rw [hvv] at hx; cases hx
  clear hs
  rintro _ w2 ⟨q, hx, x, rfl, hj, hp1, hp2, hs⟩
  rw [hvv] at hx
  cases hx
  dsimp only at hj hp1 hp2 hs
  replace hs := Sat.past3 hs
  have hsn := rowss_snoc xs x
  have hjn := js_snoc xs x
  obtain ⟨R0, hR0⟩ : ∃ R0, x.rows = R0 := ⟨_, rfl⟩
  rw [hR0] at hs hsn
  rw [hj] at hjn
  obtain ⟨xs1, hxs1⟩ : ∃ xs1, xs ++ [x] = xs1 := ⟨_, rfl⟩
  rw [hxs1] at hsn hjn
  cases x with
  | mk kk ii tt NA0 nc0 ns0 IA0 ic0 xs0 =>
  refine LW_nil (QX_n ?_)
  refine DPX_eff rfl rfl (Inv.keepC 2 hs rfl rfl Inv.nil) ?_
  refine LW_buildSlice TOK hs rfl rfl rfl rfl rfl rfl rfl ?_
  clear hs; intro bx w hs
  refine LW_nil (QX_n ?_)
  refine DPX_eff rfl rfl (Inv.keepC 3 hs rfl rfl Inv.nil) ?_
  refine LW_append1 1 (xs := xs) (z := .mk kk ii tt NA0 nc0 ns0 IA0 ic0 xs0) eV_ok hs TOK rfl rfl rfl rfl rfl rfl rfl rfl rfl rfl (by unfold maxLen; omega) (by simp only []; omega) ?_
  clear hs; intro A2 c2 w hs
  rw [hxs1] at hs ⊢
  refine LW_nil (QX_n ?_)
  refine DPX_pure TOK rfl rfl trivial rfl ?_
  refine DPX_eff rfl rfl (Inv.gone (by kernel_rfl) Inv.nil) ?_
  refine LW_storeC 2 TOK hs rfl rfl rfl rfl rfl rfl rfl ?_
  clear hs; intro w hs
  refine LW_nil (QX_n ?_)
  refine DPX_end (Inv.gone (by kernel_rfl) Inv.nil) ?_
  have hxl : xs1.length = xs.length + 1 := by rw [← hxs1]; simp
  replace hs : Sat W w (Cl br (eR B b.length c p2 (d + 1)) 57 :: RowOf eV 31 5 A2 c2 xs1 :: Cl b3 [.int .i64 4, .int .i64 0, sv [], .slice none 0 0, .slice A2 xs1.length c2] 31 :: Cl b2 [.int .i64 0, .int .i64 0, sv [], .slice none 0 0, .slice none 0 0] 31 :: (R0 ++ (RV.rowss xs ++ L))) := hs
  have hs2 : Sat W w (Cl br (eR B b.length c p2 (d + 1)) 57 :: RowOf eV 31 5 A2 c2 xs1 :: Cl b3 [.int .i64 4, .int .i64 0, sv [], .slice none 0 0, .slice A2 xs1.length c2] 31 :: Cl b2 [.int .i64 0, .int .i64 0, sv [], .slice none 0 0, .slice none 0 0] 31 :: (RV.rowss xs1 ++ L)) := hs.perm (by
    refine .cons _ (.cons _ (.cons _ (.cons _ ?_)))
    rw [hsn, ← List.append_assoc]
    exact List.Perm.append_right L List.perm_append_comm)
  clear hs
  have hs := hs2
  clear hs2 hsn hxs1 hR0
  rcases hmo : moreM b 93 p2 with er | ⟨go, p3⟩
  · rw [hmo] at h4
    (repeat' (first | (refine isLW ?_; first | (refine isLcall ?_; first | (refine LW_callX (cap := []) rfl rfl ent57 (more_call _ 93 hs rb hp2 (by decide) (by omega) (by omega) hb2) ?_ ?_; (rintro _ w2 ⟨x, hx, _⟩; rw [hmo] at hx; cases hx); rintro _ w2 ⟨er2, hx, rfl, hs2⟩; rw [hmo] at hx; cases hx)) | refine LW_pure TOK rfl ?_) | (with_reducible first | refine then_n ?_ | refine CW_seq ?_ | refine CW_region ?_ | refine then_p ?_ | refine blk_p ?_) | refine RXP ?_))
    rw [← h4]
    exact ⟨_, rfl, rfl, Sat.app hs2.drop1.drop1.drop1⟩
  rw [hmo] at h4
  dsimp only at h4
  obtain ⟨hm1, hm2⟩ := more_ok hmo hp2
  dsimp only at hm1 hm2
  cases go
  · rw [if_neg (by simp)] at h4
    (repeat' (first | (refine isLW ?_; first | refine LW_nil ?_ | (refine isLload ?_; first | refine LW_loadCAE 2 [.int .i64 4, .int .i64 0, sv [], .slice none 0 0, .slice A2 xs1.length c2] TOK hs rfl rfl rfl rfl (Nat.le_of_ble_eq_true rfl) rfl ?_) | (refine isLstore ?_; first | (refine LW_storeCA 3 TOK hs rfl rfl rfl rfl rfl (oneV _ _ _ _ _ _ _ _ _) rfl (Nat.le_of_ble_eq_true rfl) ?_; clear hs; intro w hs)) | (refine isLcall ?_; first | (refine LW_callX (cap := []) rfl rfl ent57 (more_call _ 93 hs rb hp2 (by decide) (by omega) (by omega) hb2) ?_ ?_; rotate_left; (rintro _ w2 ⟨x, hx, _⟩; rw [hmo] at hx; cases hx); clear hs; rintro _ w2 ⟨er2, hx, rfl, hs⟩; rw [hmo] at hx; cases hx)) | refine LW_pure TOK rfl ?_) | (with_reducible first | refine then_n ?_ | refine CW_seq ?_ | refine CW_region ?_ | refine CW_ret ?_ | refine then_r ?_ | refine blk_r ?_) | refine RX_of (RETA 3 hs TOK Tryd.results38 rfl rfl rfl rfl rfl ?_) | refine CW_true rfl ?_))
    all_goals
      rw [← h4]
      refine ⟨_, rfl, .mk 4 0 [] none 0 [] A2 c2 xs1, rfl, ?_, by dsimp only; omega, by dsimp only; omega, ?_⟩
      · rw [RV.j, hjn]
      · have h2 := ((hs.picks [2, 2]).drop1.drop1.nilRow 9 1).picks [1]
        rw [RV.rows]
        exact h2
  · rw [if_pos rfl] at h4
    (repeat' (first | (refine isLW ?_; first | refine LW_nil ?_ | (refine isLcall ?_; first | (refine LW_callX (cap := []) rfl rfl ent57 (more_call _ 93 hs rb hp2 (by decide) (by omega) (by omega) hb2) ?_ ?_; rotate_left; (rintro _ w2 ⟨x, hx, _⟩; rw [hmo] at hx; cases hx); clear hs; rintro _ w2 ⟨er2, hx, rfl, hs⟩; rw [hmo] at hx; cases hx)) | refine LW_pure TOK rfl ?_) | (with_reducible first | refine then_n ?_ | refine CW_seq ?_ | refine CW_region ?_ | refine CW_skip ?_ | refine blk_n ?_) | refine CW_false rfl ?_))
    all_goals exact ⟨((p3, f, xs1, A2, c2) : Nat × Nat × List RV × Option Addr × Nat), _, FR_forget _ ⟨rfl, rfl, rfl, trivial⟩, ⟨hs, by dsimp only; omega, hm2, by dsimp only; omega, by dsimp only; omega, by dsimp only; rw [hjn]; exact h4⟩, by dsimp only; omega⟩
end
end Go.Proofs.YtbmeafeojcgndaaDoor
