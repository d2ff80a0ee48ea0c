/- Walks: Parse. -/
import Derived.Test.YtbmeafeojcgndaaDoorV37
set_option linter.unusedVariables false
set_option linter.unusedSimpArgs false
namespace Go.Proofs.YtbmeafeojcgndaaDoor
open Go Go.Sl Go.RowKit
set_option maxRecDepth 100000
section
variable {P : Program} {fn : Func} {Post : Value → World → Prop} {n : Nat} {s : List (Nat × Value)} {τ : Nat → Value} {w W : World} {L : List HProp} {T : List (Nat × TI)}
theorem RETA3 (i : Nat) {t u u2 : Tmp} {ti : TI} {ta te : TypeId} {b : Nat} {vs : List Value} {v' v'' : Value} (hs : Sat W w L) (hT : TyOK P T) (h : fn.results = #[.cell t ta, .tmp u, .tmp u2]) (hv : EVO n s (.tmp t) = some (.pointer (some ⟨b, 0, none⟩))) (hv' : EVO n s (.tmp u) = some v') (hv'' : EVO n s (.tmp u2) = some v'')
    (h1 : lookT T ta = some ti) (ha : ti.agg = true) (hi : getA L i = some (Cl b vs te)) (hl : vs.length = ti.size) (k : Post (.tuple #[.agg vs.toArray, v', v'']) w) : bodyPost P fn (Ret Post) .ret (FR n s τ []) w := by
  rw [getA_eq] at hi
  have e1 := slot_of (τ := τ) hv
  have e2 := slot_of (τ := τ) hv'
  have e3 := slot_of (τ := τ) hv''
  have r1 := ty_isAgg (hT _ _ h1) w
  have r2 := ty_sizeOf (hT _ _ h1) w
  have h3 := run_loadCells_list (P := P) (w := w) ⟨b, 0, none⟩ vs (fun j v hj => by
    have e : (⟨b, 0, none⟩ : Addr).add j = ⟨b, 0 + j, none⟩ := by unfold Addr.add; split <;> simp_all
    rw [e, hs.cell i hi (0 + j), Nat.zero_add]; exact hj)
  rw [hl] at h3
  have h4 : Sem.run P (loadCellsFrom ⟨b, 0, none⟩ 0 ti.size #[]) w = Result.ok vs.toArray w := h3
  rw [ha] at r1
  refine ⟨rfl, .tuple #[.agg vs.toArray, v', v''], ?_, k⟩
  simp [results, h, go_sem, e1, e2, e3, asAddr, r1, r2, h4, Result.andThen]
end
attribute [local irreducible] CW LW DW FR DP Calls Res Ret
/-- The first place at which two texts differ. -/
def diffAt : List UInt8 → List UInt8 → Nat
  | x :: a, y :: b => if x = y then diffAt a b + 1 else 0
  | _, _ => 0
theorem diffAt_of : ∀ (g : Nat) (a b : List UInt8), a.take g = b.take g → g ≤ a.length → g ≤ b.length → (g = a.length ∨ g = b.length ∨ a[g]? ≠ b[g]?) → diffAt a b = g
  | 0, [], b, _, _, _, _ => by cases b <;> rfl
  | 0, x :: a, [], _, _, _, _ => rfl
  | 0, x :: a, y :: b, _, _, _, h => by
    simp at h
    simp [diffAt, h]
  | g + 1, [], b, _, h, _, _ => by simp at h
  | g + 1, x :: a, [], _, _, h, _ => by simp at h
  | g + 1, x :: a, y :: b, h, h1, h2, h3 => by
    simp only [List.take_succ_cons, List.cons.injEq] at h
    simp only [List.length_cons] at h1 h2 h3
    rw [List.getElem?_cons_succ, List.getElem?_cons_succ] at h3
    have := diffAt_of g a b h.2 (by omega) (by omega) (h3.imp (fun h => by omega) (fun h => h.imp (fun h => by omega) id))
    simp [diffAt, h.1, this]
def parseM (b : List UInt8) : Mo J := match looseM b with
  | .error e => .error e
  | .ok j => if b = writeJ j then .ok j else .error (138, diffAt b (writeJ j))
section
variable {W : World} {b : List UInt8} {B : Option Addr} {c : Nat}
set_option maxHeartbeats 4000000 in
theorem parse_call (hU : Lib.Utf8Tabs 1 2 W) (hT : Tab W) (rb : Rd eB W B b) (hcb : b.length ≤ c) :
    Calls Tryd.prog 18 [Value.slice B b.length c].toArray W (Ret (LooseR W (parseM b))) := by
  refine Calls_of Tryd.func18 rfl 59 Tryd.ntmps18 rfl ?_
  have hlc := loose_call hU rb hcb
  have hs := Sat.start W
  unfold parseM
  rcases hm : looseM b with e | j
  · have hne := (loose_err_code hm).1
    have hne2 : ¬ resE (Except.error e : Mo J) = 0 := hne
    have hlc2 := fun (w : World) (L : List HProp) (hs : Sat W w L) => loose_call (W := w) (tabs_of hU hs) (rb.of hs) hcb
    rw [hm] at hlc2
    (repeat' (first | (refine isLW ?_; first | refine LW_nil ?_ | (refine isLstore ?_; first | (refine LW_storeCA 0 TOK hs rfl rfl rfl rfl rfl (oneV _ _ _ _ _ _ _ _ _) rfl (Nat.le_of_ble_eq_true rfl) ?_; clear hs; intro w hs) | (refine LW_storeCA 1 TOK hs rfl rfl rfl rfl rfl (oneV _ _ _ _ _ _ _ _ _) rfl (Nat.le_of_ble_eq_true rfl) ?_; clear hs; intro w hs)) | (refine isLcall ?_; first | (refine LW_call (cap := []) rfl rfl ent11 (hlc2 _ _ hs) ?_; rintro _ w2 ⟨x, rfl, hxj, hs2⟩; obtain ⟨R0, hR0⟩ : ∃ R0, x.rows = R0 := ⟨_, rfl⟩; rw [hR0] at hs2; replace hs := (hs.andThen hs2).perm List.perm_append_comm; clear hs2; obtain ⟨kk, ii, tt, NA0, nc0, ns0, IA0, ic0, xs0⟩ := x)) | (refine isLbin ?_; first | (refine LW_cmp rfl (fun _ => ?_) (fun _ => ?_) <;> try (exfalso; omega))) | refine LW_pure TOK rfl ?_ | (refine LW_alloc TOK hs rfl rfl ?_; clear hs; intro _ w hs) | refine LW_build TOK rfl rfl rfl rfl rfl rfl ?_) | (with_reducible first | refine then_n ?_ | refine CW_seq ?_ | refine CW_region ?_ | refine CW_ret ?_ | refine then_r ?_) | refine RETA3 1 hs TOK Tryd.results18 rfl rfl rfl rfl rfl rfl rfl ?_ | refine CW_true rfl ?_))
    all_goals
      refine ⟨.mk 0 0 [] none 0 [] none 0 [], rfl, rfl, ?_⟩
      have h2 := (((hs.firsts 0).nilRow 31 5).nilRow 9 1)
      rw [RV.rows, RV.rowss]
      exact h2
  have hlc2 := fun (w : World) (L : List HProp) (hs : Sat W w L) => loose_call (W := w) (tabs_of hU hs) (rb.of hs) hcb
  rw [hm] at hlc2
  obtain ⟨hbl, hwf, hsm, hwl⟩ := loose_ok hm
  have he0 : resE (Except.ok j : Mo J) = 0 := rfl
  dsimp only
  obtain ⟨o, ho⟩ : ∃ o, writeJ j = o := ⟨_, rfl⟩
  rw [ho] at hwl ⊢
  (repeat' (first | (refine isLW ?_; first | refine LW_nil ?_ | (refine isLload ?_; first | refine LW_loadCAE 0 [.int .i64 kk, .int .i64 ii, sv tt, .slice NA0 ns0.length nc0, .slice IA0 xs0.length ic0] TOK hs rfl rfl rfl rfl (Nat.le_of_ble_eq_true rfl) rfl ?_) | (refine isLstore ?_; first | (refine LW_storeCA 0 TOK hs rfl rfl rfl rfl rfl (oneV _ _ _ _ _ _ _ _ _) rfl (Nat.le_of_ble_eq_true rfl) ?_; clear hs; intro w hs)) | (refine isLcall ?_; first | (refine LW_call (cap := []) rfl rfl ent11 (hlc2 _ _ hs) ?_; rintro _ w2 ⟨x, rfl, hxj, hs2⟩; replace hxj : x.j = j := hxj; obtain ⟨R0, hR0⟩ : ∃ R0, x.rows = R0 := ⟨_, rfl⟩; rw [hR0] at hs2; replace hs := (hs.andThen hs2).perm List.perm_append_comm; clear hs2; obtain ⟨kk, ii, tt, NA0, nc0, ns0, IA0, ic0, xs0⟩ := x) | (refine LW_call (cap := []) rfl rfl ent32 (write_call (W := _) (x := .mk kk ii tt NA0 nc0 ns0 IA0 ic0 xs0) (Tab.to hT hs) (rdV_of _ [] (by rw [List.append_nil, hR0]; exact hs.drop1.drop1)) [] _ [] none 0 (by rw [hxj]; exact hwf) (by rw [hxj]; exact hsm) ((Sat.start _).nilRow 5 1) (by rw [hxj, ho]; simp only [List.length_nil]; omega)) ?_; rintro _ w2 ⟨A, c', rfl, hs2⟩; rw [List.nil_append, hxj, ho] at hs2 ⊢; replace hs := hs.and1 hs2; clear hs2)) | (refine isLbin ?_; first | (refine LW_cmp rfl (fun _ => ?_) (fun _ => ?_) <;> try (exfalso; omega))) | refine LW_pure TOK rfl ?_ | (refine LW_alloc TOK hs rfl rfl ?_; clear hs; intro _ w hs)) | (with_reducible first | refine then_n ?_ | refine CW_seq ?_ | refine CW_region ?_ | refine CW_block ?_ | refine CW_skip ?_) | refine CW_false rfl ?_))
  rename_i b2 _ _ b5 _ _
  replace hs : Sat W w2 (RowOf eB 5 1 A c' o :: Cl b5 [.int .i64 kk, .int .i64 ii, sv tt, .slice NA0 ns0.length nc0, .slice IA0 xs0.length ic0] 31 :: Cl b2 [.int .i64 0, .int .i64 0, sv [], .slice none 0 0, .slice none 0 0] 31 :: R0) := hs
  refine CW_loop (γ := Nat) (fun g => [(0, .slice B b.length c), (2, .pointer (some ⟨b2, 0, none⟩)), (5, .pointer (some ⟨b5, 0, none⟩)), (8, .slice A o.length c'), (9, .int .i64 (g : Int))]) (fun g w' => Sat W w' (RowOf eB 5 1 A c' o :: Cl b5 [.int .i64 kk, .int .i64 ii, sv tt, .slice NA0 ns0.length nc0, .slice IA0 xs0.length ic0] 31 :: Cl b2 [.int .i64 0, .int .i64 0, sv [], .slice none 0 0, .slice none 0 0] 31 :: R0) ∧ g ≤ b.length ∧ g ≤ o.length ∧ b.take g = o.take g) (fun g => b.length - g) 0 ⟨rfl, rfl, rfl, rfl, rfl, trivial⟩ ⟨hs, Nat.zero_le _, Nat.zero_le _, rfl⟩ ?_
  clear hs
  rintro g τ w3 ⟨hs, h1, h2, h3⟩
  try dsimp only
  have fin : diffAt b o = g → (¬ b = o) → ∀ (w : World) (R1 : List HProp), Sat W w R1 → LooseR W (if b = o then Except.ok j else Except.error (138, diffAt b o)) (.tuple #[.agg #[.int .i64 0, .int .i64 0, sv [], .slice none 0 0, .slice none 0 0], .int .i64 138, .int .i64 (g : Int)]) w := fun hd hne w R1 hs => by
    rw [if_neg hne, hd]
    refine ⟨.mk 0 0 [] none 0 [] none 0 [], rfl, rfl, ?_⟩
    have h2 := (((hs.firsts 0).nilRow 31 5).nilRow 9 1)
    rw [RV.rows, RV.rowss]
    exact h2
  by_cases hb1 : g = b.length
  · by_cases ho1 : g = o.length
    · have heq : b = o := by
        rw [List.take_of_length_le (by omega), List.take_of_length_le (by omega)] at h3
        exact h3
      rw [if_pos heq]
      (repeat' (first | (refine isLW ?_; first | refine LW_nil ?_ | (refine isLg ?_; first | refine LW_take rfl ?_) | (refine isLload ?_; first | refine LW_loadCAE 1 [.int .i64 kk, .int .i64 ii, sv tt, .slice NA0 ns0.length nc0, .slice IA0 xs0.length ic0] TOK hs rfl rfl rfl rfl (Nat.le_of_ble_eq_true rfl) rfl ?_) | (refine isLstore ?_; first | (refine LW_storeCA 2 TOK hs rfl rfl rfl rfl rfl (oneV _ _ _ _ _ _ _ _ _) rfl (Nat.le_of_ble_eq_true rfl) ?_; clear hs; intro w hs)) | (refine isLcall ?_; first | refine LW_pure TOK rfl ?_) | (refine isLbin ?_; first | (refine LW_cmp rfl (fun _ => ?_) (fun _ => ?_) <;> try (exfalso; omega))) | refine LW_pure TOK rfl ?_) | (with_reducible first | refine then_n ?_ | refine CW_seq ?_ | refine CW_region ?_ | refine CW_exit ?_ | refine CW_ret ?_ | refine then_e ?_ | refine blk_same ?_) | refine RETA3 2 hs TOK Tryd.results18 rfl rfl rfl rfl rfl rfl rfl ?_ | refine CW_false rfl ?_))
      all_goals exact ⟨.mk kk ii tt NA0 nc0 ns0 IA0 ic0 xs0, rfl, hxj, by rw [hR0]; exact hs.drop1.drop1.drop1⟩
    · have hd := diffAt_of g b o h3 h1 h2 (.inl hb1)
      have hne : ¬ b = o := fun h => ho1 (by rw [← h]; exact hb1)
      (repeat' (first | (refine isLW ?_; first | refine LW_nil ?_ | (refine isLg ?_; first | refine LW_take rfl ?_) | (refine isLstore ?_; first | (refine LW_storeCA 2 TOK hs rfl rfl rfl rfl rfl (oneV _ _ _ _ _ _ _ _ _) rfl (Nat.le_of_ble_eq_true rfl) ?_; clear hs; intro w hs)) | (refine isLcall ?_; first | refine LW_pure TOK rfl ?_) | (refine isLbin ?_; first | (refine LW_cmp rfl (fun _ => ?_) (fun _ => ?_) <;> try (exfalso; omega))) | refine LW_pure TOK rfl ?_ | refine LW_build TOK rfl rfl rfl rfl rfl rfl ?_) | (refine isDP ?_; first | (refine isDnil ?_; first | refine DP_end ?_ ?_) | (refine isDg rfl ?_; first | refine DP_pass rfl rfl rfl rfl ?_) | (refine isDbin rfl ?_; first | (refine DP_cmp rfl rfl (by first | exact trivial | rfl) rfl (fun _ => ?_) (fun _ => ?_) <;> try (exfalso; omega))) | refine DP_pure TOK rfl rfl (by first | exact trivial | rfl) rfl ?_) | (refine isI0 ?_; exact Inv.nil) | (with_reducible first | refine then_n ?_ | refine CW_seq ?_ | refine CW_region ?_ | refine CW_block ?_ | refine CW_skip ?_ | refine CW_ret ?_ | refine then_r ?_ | refine blk_r ?_) | refine RETA3 2 hs TOK Tryd.results18 rfl rfl rfl rfl rfl rfl rfl ?_ | refine CW_true rfl ?_ | (refine CW_drawP (id := 8) [] [0, 1, 2, 3, 4, 5, 6, 7, 8, 9, 10, 11, 12, 13, 14, 15, 16, 17, 18, 19, 20] mixed (by kernel_rfl) hs ?_; clear hs; intro hs)))
      all_goals exact fin hd hne _ _ hs
  · by_cases ho1 : g = o.length
    · have hd := diffAt_of g b o h3 h1 h2 (.inr (.inl ho1))
      have hne : ¬ b = o := fun h => hb1 (by rw [h]; exact ho1)
      (repeat' (first | (refine isLW ?_; first | refine LW_nil ?_ | (refine isLg ?_; first | refine LW_pass rfl rfl ?_) | (refine isLstore ?_; first | (refine LW_storeCA 2 TOK hs rfl rfl rfl rfl rfl (oneV _ _ _ _ _ _ _ _ _) rfl (Nat.le_of_ble_eq_true rfl) ?_; clear hs; intro w hs)) | (refine isLcall ?_; first | refine LW_pure TOK rfl ?_) | (refine isLbin ?_; first | (refine LW_cmp rfl (fun _ => ?_) (fun _ => ?_) <;> try (exfalso; omega))) | refine LW_pure TOK rfl ?_ | refine LW_build TOK rfl rfl rfl rfl rfl rfl ?_) | (refine isDP ?_; first | (refine isDnil ?_; first | refine DP_end ?_ ?_) | (refine isDg rfl ?_; first | refine DP_pass rfl rfl rfl rfl ?_) | (refine isDbin rfl ?_; first | (refine DP_cmp rfl rfl (by first | exact trivial | rfl) rfl (fun _ => ?_) (fun _ => ?_) <;> try (exfalso; omega))) | refine DP_pure TOK rfl rfl (by first | exact trivial | rfl) rfl ?_) | (refine isI0 ?_; exact Inv.nil) | (with_reducible first | refine then_n ?_ | refine CW_seq ?_ | refine CW_region ?_ | refine CW_block ?_ | refine CW_skip ?_ | refine CW_ret ?_ | refine then_r ?_ | refine blk_r ?_) | refine RETA3 2 hs TOK Tryd.results18 rfl rfl rfl rfl rfl rfl rfl ?_ | refine CW_true rfl ?_ | (refine CW_drawP (id := 8) [] [0, 1, 2, 3, 4, 5, 6, 7, 8, 9, 10, 11, 12, 13, 14, 15, 16, 17, 18, 19, 20] mixed (by kernel_rfl) hs ?_; clear hs; intro hs)))
      all_goals exact fin hd hne _ _ hs
    · have hgx : b[g]? = some (Go.Sl.rd b (g : Int)) := get_rd (by omega)
      have hgy : o[g]? = some (Go.Sl.rd o (g : Int)) := get_rd (by omega)
      by_cases hxy : ((Go.Sl.rd b (g : Int)).toNat : Int) = ((Go.Sl.rd o (g : Int)).toNat : Int)
      · have hxy2 : Go.Sl.rd b (g : Int) = Go.Sl.rd o (g : Int) := UInt8.toNat_inj.1 (by omega)
        (repeat' (first | (refine isLW ?_; first | refine LW_nil ?_ | (refine isLg ?_; first | refine LW_pass rfl rfl ?_) | (refine isLcall ?_; first | refine LW_pure TOK rfl ?_) | (refine isLbin ?_; first | refine LW_i64 rfl (by omega) (by omega) ?_ | (refine LW_cmp rfl (fun _ => ?_) (fun _ => ?_) <;> try (exfalso; omega))) | refine LW_pure TOK rfl ?_) | (refine isDP ?_; first | (refine isDnil ?_; first | refine DP_end ?_ ?_) | (refine isDload rfl ?_; first | refine DP_loadRd0 rb (fun _ => rfl) hs TOK rfl rfl (by first | exact trivial | rfl) rfl (by assumption) rfl rfl (by omega) (by omega) rfl ?_ ?_ | refine DP_loadRow0 (hs.rd 0 rfl) (fun _ => rfl) TOK rfl rfl (by first | exact trivial | rfl) rfl (by assumption) rfl rfl (by omega) (by omega) rfl ?_ ?_) | (refine isDidx rfl ?_; first | (refine DP_indexRd (rb.of hs) TOK rfl rfl (by first | exact trivial | rfl) rfl rfl rfl rfl rfl (by omega) (by omega) ?_; intro _ _ _) | (refine DP_indexRd (hs.rd 0 rfl) TOK rfl rfl (by first | exact trivial | rfl) rfl rfl rfl rfl rfl (by omega) (by omega) ?_; intro _ _ _)) | (refine isDbin rfl ?_; first | (refine DP_cmp rfl rfl (by first | exact trivial | rfl) rfl (fun _ => ?_) (fun _ => ?_) <;> try (exfalso; omega))) | refine DP_pure TOK rfl rfl (by first | exact trivial | rfl) rfl ?_) | (refine isI0 ?_; exact Inv.nil) | (refine isI1 ?_; first | refine Inv.keepB hs ?_ | refine Inv.keepR0 (hs.rd 0 rfl) (fun _ => rfl) (by assumption) (by omega) (by omega) rfl ?_) | (with_reducible first | refine then_n ?_ | refine CW_seq ?_ | refine CW_region ?_ | refine CW_block ?_ | refine CW_skip ?_ | refine blk_n ?_) | refine CW_true rfl ?_ | refine CW_false rfl ?_ | (refine CW_drawP (id := 8) [] [0, 1, 2, 3, 4, 5, 6, 7, 8, 9, 10, 11, 12, 13, 14, 15, 16, 17, 18, 19, 20] mixed (by kernel_rfl) hs ?_; clear hs; intro hs)))
        all_goals exact ⟨g + 1, _, FR_forget _ ⟨rfl, rfl, rfl, rfl, rfl, trivial⟩, ⟨hs, by omega, by omega, by rw [List.take_add_one, List.take_add_one, h3, hgx, hgy, hxy2]⟩, by omega⟩
      · have hd := diffAt_of g b o h3 h1 h2 (.inr (.inr (by rw [hgx, hgy]; intro h; exact hxy (by rw [Option.some.inj h]))))
        have hne : ¬ b = o := fun h => hxy (by rw [h])
        (repeat' (first | (refine isLW ?_; first | refine LW_nil ?_ | (refine isLg ?_; first | refine LW_pass rfl rfl ?_) | (refine isLstore ?_; first | (refine LW_storeCA 2 TOK hs rfl rfl rfl rfl rfl (oneV _ _ _ _ _ _ _ _ _) rfl (Nat.le_of_ble_eq_true rfl) ?_; clear hs; intro w hs)) | (refine isLcall ?_; first | refine LW_pure TOK rfl ?_) | (refine isLbin ?_; first | (refine LW_cmp rfl (fun _ => ?_) (fun _ => ?_) <;> try (exfalso; omega))) | refine LW_pure TOK rfl ?_ | refine LW_build TOK rfl rfl rfl rfl rfl rfl ?_) | (refine isDP ?_; first | (refine isDnil ?_; first | refine DP_end ?_ ?_) | (refine isDload rfl ?_; first | refine DP_loadRd0 rb (fun _ => rfl) hs TOK rfl rfl (by first | exact trivial | rfl) rfl (by assumption) rfl rfl (by omega) (by omega) rfl ?_ ?_ | refine DP_loadRow0 (hs.rd 0 rfl) (fun _ => rfl) TOK rfl rfl (by first | exact trivial | rfl) rfl (by assumption) rfl rfl (by omega) (by omega) rfl ?_ ?_) | (refine isDidx rfl ?_; first | (refine DP_indexRd (rb.of hs) TOK rfl rfl (by first | exact trivial | rfl) rfl rfl rfl rfl rfl (by omega) (by omega) ?_; intro _ _ _) | (refine DP_indexRd (hs.rd 0 rfl) TOK rfl rfl (by first | exact trivial | rfl) rfl rfl rfl rfl rfl (by omega) (by omega) ?_; intro _ _ _)) | (refine isDbin rfl ?_; first | (refine DP_cmp rfl rfl (by first | exact trivial | rfl) rfl (fun _ => ?_) (fun _ => ?_) <;> try (exfalso; omega))) | refine DP_pure TOK rfl rfl (by first | exact trivial | rfl) rfl ?_) | (refine isI0 ?_; exact Inv.nil) | (refine isI1 ?_; first | refine Inv.keepB hs ?_ | refine Inv.keepR0 (hs.rd 0 rfl) (fun _ => rfl) (by assumption) (by omega) (by omega) rfl ?_) | (with_reducible first | refine then_n ?_ | refine CW_seq ?_ | refine CW_region ?_ | refine CW_block ?_ | refine CW_skip ?_ | refine CW_ret ?_ | refine then_r ?_ | refine blk_r ?_) | refine RETA3 2 hs TOK Tryd.results18 rfl rfl rfl rfl rfl rfl rfl ?_ | refine CW_true rfl ?_ | (refine CW_drawP (id := 8) [] [0, 1, 2, 3, 4, 5, 6, 7, 8, 9, 10, 11, 12, 13, 14, 15, 16, 17, 18, 19, 20] mixed (by kernel_rfl) hs ?_; clear hs; intro hs)))
        all_goals exact fin hd hne _ _ hs
end
end Go.Proofs.YtbmeafeojcgndaaDoor

/- Walks: the same values? (Of values that are the same.) -/
set_option linter.unusedVariables false
set_option linter.unusedSimpArgs false
namespace Go.Proofs.YtbmeafeojcgndaaDoor
open Go Go.Sl Go.RowKit
set_option maxRecDepth 100000
attribute [local irreducible] CW LW DW FR DP Calls Res Ret
section
variable {W : World}
set_option maxHeartbeats 8000000 in
theorem sameV_call {x : RV} (h : RdV W x) : ∀ (y : RV) (L : List HProp) (w : World), RdV W y → x.j = y.j → SmJ 1099511627776 x.j → Sat W w L →
    Calls Tryd.prog 14 [Value.agg (eV x).toArray, .agg (eV y).toArray].toArray w (Ret fun v w' => v = .bool true ∧ Sat W w' L) := by
  induction h with
  | @mk k i t NA nc ns IA ic xs rn1 rx1 hnc hic hall ih =>
  intro y L w hy hj hsm hs
  cases hy with
  | @mk k' i' t' NA' nc' ns' IA' ic' ys rn2 rx2 hnc' hic' hall' =>
  have e1 : (RV.mk k i t NA nc ns IA ic xs).j = .mk k i t ns (RV.js xs) := by rw [RV.j]
  have e2 : (RV.mk k' i' t' NA' nc' ns' IA' ic' ys).j = .mk k' i' t' ns' (RV.js ys) := by rw [RV.j]
  rw [e1, e2] at hj
  rw [e1] at hsm
  injection hj with j1 j2 j3 j4 j5
  subst j1 j2 j3 j4
  obtain ⟨ht, hn, hnl, hxl, hxs⟩ : t.length ≤ 1099511627776 ∧ (∀ n ∈ ns, n.length ≤ 1099511627776) ∧ ns.length ≤ 1099511627776 ∧ xs.length ≤ 1099511627776 ∧ ∀ x ∈ RV.js xs, SmJ 1099511627776 x := by
    cases hsm with
    | mk a b c d e => exact ⟨a, b, c, by simpa [RV.js_eq] using d, e⟩
  have hlen : xs.length = ys.length := by
    have := congrArg List.length j5
    rwa [RV.js_eq, RV.js_eq, List.length_map, List.length_map] at this
  refine Calls_of Tryd.func14 rfl 83 Tryd.ntmps14 rfl ?_
  unfold eV
  (repeat' (first | refine LW_strNe (a := t) (b := t) rfl rfl rfl rfl (fun h => absurd rfl h) (fun _ => ?_) | (refine isLW ?_; first | refine LW_nil ?_ | (refine isLg ?_; first | refine LW_take rfl ?_) | (refine isLload ?_; first | refine LW_loadC 0 TOK hs rfl rfl rfl rfl rfl ?_ | refine LW_loadC 1 TOK hs rfl rfl rfl rfl rfl ?_) | (refine isLcall ?_; first | refine LW_pure TOK rfl ?_) | (refine isLbin ?_; first | (refine LW_cmp rfl (fun _ => ?_) (fun _ => ?_) <;> try (exfalso; omega))) | refine LW_pure TOK rfl ?_ | (refine LW_box hs rfl rfl ?_; clear hs; intro _ w hs)) | (with_reducible first | refine then_n ?_ | refine CW_seq ?_ | refine CW_region ?_ | refine CW_block ?_ | refine CW_skip ?_) | refine CW_false rfl ?_))
  rename_i b2 _ b3 _ _ _ _ _
  replace hs : Sat W w (Cl b3 [.int .i64 k, .int .i64 i, sv t, .slice NA' ns.length nc', .slice IA' ys.length ic'] 31 :: Cl b2 [.int .i64 k, .int .i64 i, sv t, .slice NA ns.length nc, .slice IA xs.length ic] 31 :: L) := hs
  refine CW_loop (γ := Nat) (fun g => [(2, .pointer (some ⟨b2, 0, none⟩)), (3, .pointer (some ⟨b3, 0, none⟩)), (5, .int .i64 (g : Int))]) (fun g w' => Sat W w' (Cl b3 [.int .i64 k, .int .i64 i, sv t, .slice NA' ns.length nc', .slice IA' ys.length ic'] 31 :: Cl b2 [.int .i64 k, .int .i64 i, sv t, .slice NA ns.length nc, .slice IA xs.length ic] 31 :: L) ∧ g ≤ ns.length) (fun g => ns.length - g) 0 ⟨rfl, rfl, rfl, trivial⟩ ⟨hs, Nat.zero_le _⟩ ?_
  clear hs
  rintro g τ w1 ⟨hs, h1⟩
  try dsimp only
  by_cases hg : g < ns.length
  · (repeat' (first | refine DP_strNe (a := Go.Sl.rd ns (g : Int)) (b := Go.Sl.rd ns (g : Int)) rfl rfl (by first | exact trivial | rfl) rfl rfl rfl rfl (fun h => absurd rfl h) (fun _ => ?_) | (refine isLW ?_; first | refine LW_nil ?_ | (refine isLload ?_; first | refine LW_loadC 1 TOK hs rfl rfl rfl rfl rfl ?_) | (refine isLcall ?_; first | refine LW_pure TOK rfl ?_) | (refine isLbin ?_; first | refine LW_i64 rfl (by omega) (by omega) ?_ | (refine LW_cmp rfl (fun _ => ?_) (fun _ => ?_) <;> try (exfalso; omega))) | refine LW_pure TOK rfl ?_) | (refine isDP ?_; first | (refine isDnil ?_; first | refine DP_end ?_ ?_) | (refine isDload rfl ?_; first | refine DP_loadC 0 hs TOK rfl rfl (by first | exact trivial | rfl) rfl rfl rfl rfl rfl ?_ ?_ | refine DP_loadC 1 hs TOK rfl rfl (by first | exact trivial | rfl) rfl rfl rfl rfl rfl ?_ ?_ | refine DP_loadRd0 rn1 (fun _ => rfl) hs TOK rfl rfl (by first | exact trivial | rfl) rfl (by assumption) rfl rfl (by omega) (by omega) rfl ?_ ?_ | refine DP_loadRd0 rn2 (fun _ => rfl) hs TOK rfl rfl (by first | exact trivial | rfl) rfl (by assumption) rfl rfl (by omega) (by omega) rfl ?_ ?_) | (refine isDidx rfl ?_; first | (refine DP_indexRd (rn1.of hs) TOK rfl rfl (by first | exact trivial | rfl) rfl rfl rfl rfl rfl (by omega) (by omega) ?_; intro _ _ _) | (refine DP_indexRd (rn2.of hs) TOK rfl rfl (by first | exact trivial | rfl) rfl rfl rfl rfl rfl (by omega) (by omega) ?_; intro _ _ _)) | refine DP_pure TOK rfl rfl (by first | exact trivial | rfl) rfl ?_) | (refine isI0 ?_; exact Inv.nil) | (refine isI1 ?_; first | refine Inv.keepB hs ?_ | refine Inv.keepC 0 hs rfl rfl ?_ | refine Inv.keepC 1 hs rfl rfl ?_) | (with_reducible first | refine then_n ?_ | refine CW_seq ?_ | refine CW_region ?_ | refine CW_block ?_ | refine CW_skip ?_ | refine blk_n ?_) | refine CW_true rfl ?_ | refine CW_false rfl ?_ | (refine CW_drawP (id := 6) [] [0, 1, 2, 3, 4, 5, 6, 7, 8, 9, 10] mixed (by kernel_rfl) hs ?_; clear hs; intro hs)))
    all_goals exact ⟨g + 1, _, FR_forget _ ⟨rfl, rfl, rfl, trivial⟩, ⟨hs, by omega⟩, by omega⟩
  · (repeat' (first | (refine isLW ?_; first | refine LW_nil ?_ | (refine isLload ?_; first | refine LW_loadC 1 TOK hs rfl rfl rfl rfl rfl ?_) | (refine isLcall ?_; first | refine LW_pure TOK rfl ?_) | (refine isLbin ?_; first | (refine LW_cmp rfl (fun _ => ?_) (fun _ => ?_) <;> try (exfalso; omega))) | refine LW_pure TOK rfl ?_) | (with_reducible first | refine then_n ?_ | refine CW_seq ?_ | refine CW_region ?_ | refine CW_block ?_ | refine CW_exit ?_ | refine then_e ?_ | refine blk_same ?_) | refine CW_false rfl ?_))
    refine CW_loop (γ := Nat) (fun g => [(2, .pointer (some ⟨b2, 0, none⟩)), (3, .pointer (some ⟨b3, 0, none⟩)), (6, .int .i64 (g : Int))]) (fun g w' => Sat W w' (Cl b3 [.int .i64 k, .int .i64 i, sv t, .slice NA' ns.length nc', .slice IA' ys.length ic'] 31 :: Cl b2 [.int .i64 k, .int .i64 i, sv t, .slice NA ns.length nc, .slice IA xs.length ic] 31 :: L) ∧ g ≤ xs.length) (fun g => xs.length - g) 0 ⟨rfl, rfl, rfl, trivial⟩ ⟨hs, Nat.zero_le _⟩ ?_
    clear hs hg h1
    rintro g τ w1 ⟨hs, h1⟩
    try dsimp only
    by_cases hg : g < xs.length
    · obtain ⟨z1, hz1⟩ : ∃ z, Go.Sl.rd xs (g : Int) = z := ⟨_, rfl⟩
      obtain ⟨z2, hz2⟩ : ∃ z, Go.Sl.rd ys (g : Int) = z := ⟨_, rfl⟩
      have hget1 : xs[g]? = some z1 := by
        have := rd_get (xs := xs) (i := (g : Int)) (by omega) (by omega)
        rw [hz1] at this; simpa using this
      have hget2 : ys[g]? = some z2 := by
        have := rd_get (xs := ys) (i := (g : Int)) (by omega) (by omega)
        rw [hz2] at this; simpa using this
      have hzj : z1.j = z2.j := by
        have h5 := congrArg (fun l : List J => l[g]?) j5
        rw [RV.js_eq, RV.js_eq] at h5
        simp only [List.getElem?_map, hget1, hget2, Option.map_some] at h5
        exact Option.some.inj h5
      have hm1 := List.mem_of_getElem? hget1
      have hm2 := List.mem_of_getElem? hget2
      have hzs : SmJ 1099511627776 z1.j := hxs _ (by rw [RV.js_eq]; exact List.mem_map_of_mem hm1)
      have ihz := fun (w : World) (L : List HProp) (hs : Sat W w L) => ih z1 hm1 z2 L w (hall' z2 hm2) hzj hzs hs
      clear ih hzj
      cases z1 with
      | mk k1 i1 t1 NA1 nc1 ns1 IA1 ic1 xs1 =>
      cases z2 with
      | mk k2 i2 t2 NA2 nc2 ns2 IA2 ic2 xs2 =>
      (repeat' (first | (refine isLW ?_; first | refine LW_nil ?_ | (refine isLload ?_; first | refine LW_loadC 1 TOK hs rfl rfl rfl rfl rfl ?_) | (refine isLcall ?_; first | (refine LW_call (cap := []) rfl rfl ent14 (ihz _ _ hs) ?_; clear hs; rintro _ w2 ⟨rfl, hs⟩) | refine LW_pure TOK rfl ?_) | (refine isLbin ?_; first | refine LW_i64 rfl (by omega) (by omega) ?_ | (refine LW_cmp rfl (fun _ => ?_) (fun _ => ?_) <;> try (exfalso; omega))) | refine LW_pure TOK rfl ?_) | (refine isDP ?_; first | (refine isDnil ?_; first | refine DP_end ?_ ?_) | (refine isDe rfl ?_; first | refine DP_eff rfl rfl ?_ ?_) | (refine isDload rfl ?_; first | (refine DP_loadRdA rx1 eV_ok.1 hs TOK rfl rfl (by first | exact trivial | rfl) rfl (by assumption) rfl rfl rfl (by omega) (by omega) (by rw [hz1]) ?_ ?_) | (refine DP_loadRdA rx2 eV_ok.1 hs TOK rfl rfl (by first | exact trivial | rfl) rfl (by assumption) rfl rfl rfl (by omega) (by omega) (by rw [hz2]) ?_ ?_) | refine DP_loadC 0 hs TOK rfl rfl (by first | exact trivial | rfl) rfl rfl rfl rfl rfl ?_ ?_ | refine DP_loadC 1 hs TOK rfl rfl (by first | exact trivial | rfl) rfl rfl rfl rfl rfl ?_ ?_) | (refine isDidx rfl ?_; first | (refine DP_indexRd (rx1.of hs) TOK rfl rfl (by first | exact trivial | rfl) rfl rfl rfl rfl rfl (by omega) (by omega) ?_; intro _ _ _) | (refine DP_indexRd (rx2.of hs) TOK rfl rfl (by first | exact trivial | rfl) rfl rfl rfl rfl rfl (by omega) (by omega) ?_; intro _ _ _)) | refine DP_pure TOK rfl rfl (by first | exact trivial | rfl) rfl ?_) | (refine isI0 ?_; exact Inv.nil) | (refine isI1 ?_; first | refine Inv.keepB hs ?_ | refine Inv.keepC 0 hs rfl rfl ?_ | refine Inv.keepC 1 hs rfl rfl ?_) | (with_reducible first | refine then_n ?_ | refine CW_seq ?_ | refine CW_region ?_ | refine CW_block ?_ | refine CW_skip ?_ | refine blk_n ?_) | refine CW_true rfl ?_ | refine CW_false rfl ?_ | (refine CW_drawP (id := 11) [10] [0, 1, 2, 3, 4, 5, 6, 7, 8, 9, 10, 11] mixed (by kernel_rfl) hs ?_; clear hs; intro hs)))
      all_goals exact ⟨g + 1, _, FR_forget _ ⟨rfl, rfl, rfl, trivial⟩, ⟨hs, by omega⟩, by omega⟩
    · (repeat' (first | (refine isLW ?_; first | refine LW_nil ?_ | (refine isLload ?_; first | refine LW_loadC 1 TOK hs rfl rfl rfl rfl rfl ?_) | (refine isLcall ?_; first | refine LW_pure TOK rfl ?_) | (refine isLbin ?_; first | (refine LW_cmp rfl (fun _ => ?_) (fun _ => ?_) <;> try (exfalso; omega))) | refine LW_pure TOK rfl ?_) | (with_reducible first | refine then_n ?_ | refine CW_seq ?_ | refine CW_region ?_ | refine CW_exit ?_ | refine CW_ret ?_ | refine then_e ?_ | refine blk_same ?_) | refine CW_false rfl ?_ | refine RET1 Tryd.results14 rfl ?_))
      all_goals exact ⟨rfl, hs.drop1.drop1⟩
end
end Go.Proofs.YtbmeafeojcgndaaDoor
