/- The law of what stays canonical, walked. -/
import Derived.Test.YtbmeafeojcgndaaDoorV52
import Derived.Test.YtbmeafeojcgndaaDoorV50
import Derived.Test.YtbmeafeojcgndaaDoorP13
set_option linter.unusedVariables false
set_option linter.unusedSimpArgs false
namespace Go.Proofs.YtbmeafeojcgndaaDoor
open Go Go.Sl Go.RowKit
set_option maxRecDepth 100000
attribute [local irreducible] CW LW DW FR DP Calls Res Ret
theorem Sat.rowCap {W w : World} {L : List HProp} {α : Type} {enc : α → List Value} {sz : Nat} {xs : List α} {A : Option Addr} {c : Nat} {e : TypeId} (hs : Sat W w (RowOf enc e sz A c xs :: L)) : xs.length ≤ c := by
  obtain ⟨h1, h2⟩ := hs.row0
  rcases h2 with ⟨h2, h3⟩ | ⟨g, cap, cur, hv, hB, hcur, hnc, hcm, hcs, htk⟩
  · omega
  · injection hv with q1 q2 q3
    omega
section
variable {W : World} {b : List UInt8} {B : Option Addr} {c : Nat}
theorem looseE2_call {e : Er} (hU : Lib.Utf8Tabs 1 2 W) (rb : Rd eB W B b) (hcb : b.length ≤ c) (h : looseM b = .error e) :
    Calls Tryd.prog 11 [Value.slice B b.length c].toArray W (Ret fun v w' => ∃ x : RV, v = .tuple #[.agg (eV x).toArray, .int .i64 e.1, .int .i64 e.2] ∧ x.j = zeroJ ∧ Sat W w' x.rows) := by
  have := loose_call hU rb hcb
  rw [h] at this
  exact this
theorem canonE_call {e : Er} (hU : Lib.Utf8Tabs 1 2 W) (hT : Tab W) (rb : Rd eB W B b) (hcb : b.length ≤ c) (h : canonM b = .error e) :
    Calls Tryd.prog 20 [Value.slice B b.length c].toArray W (Ret fun v w' => ∃ A c', v = .tuple #[.slice A (0 : Nat) c', .int .i64 e.1, .int .i64 e.2] ∧ Sat W w' [RowOf eB 5 1 A c' []]) := by
  have := canon_call hU hT rb hcb
  rw [h] at this
  exact this
set_option maxHeartbeats 8000000 in
theorem CjsonStable_call (hU : Lib.Utf8Tabs 1 2 W) (hT : Tab W) (rb : Rd eB W B b) (hcb : b.length ≤ c) :
    Calls Tryd.prog 7 [Value.slice B b.length c].toArray W (Ret fun v w' => v = .bool true ∧ Sat W w' []) := by
  have hs := Sat.start W
  refine Calls_of Tryd.func7 rfl 85 Tryd.ntmps7 rfl ?_
  rcases hm : looseM b with e | j
  · obtain ⟨e1, e2⟩ := e
    have hec := loose_err_code hm
    dsimp only at hec
    have hce : canonM b = .error (e1, e2) := by unfold canonM; rw [hm]
    have hll := fun w L (hs : Sat W w L) => looseE2_call (tabs_of hU hs) (rb.of hs) hcb hm
    have hca2 := fun w L (hs : Sat W w L) => canonE_call (tabs_of hU hs) (Tab.to hT hs) (rb.of hs) hcb hce
    dsimp only at hll hca2
    (repeat' (first | (refine isLW ?_; first | refine LW_nil ?_ | (refine isLg ?_; first | refine LW_take rfl ?_) | (refine isLstore ?_; first | (refine LW_storeCA 0 TOK hs rfl rfl rfl rfl rfl (oneV _ _ _ _ _ _ _ _ _) rfl (Nat.le_of_ble_eq_true rfl) ?_; clear hs; intro w hs)) | (refine isLcall ?_; first | (refine LW_call (cap := []) rfl rfl ent11 (hll _ _ hs) ?_; rintro _ w2 ⟨x1, rfl, hx1j, hs2⟩; obtain ⟨R1, hR1⟩ : ∃ R1, x1.rows = R1 := ⟨_, rfl⟩; rw [hR1] at hs2; replace hs := (hs.andThen hs2).perm List.perm_append_comm; clear hs2; obtain ⟨kk1, ii1, tt1, NA1, nc1, ns1, IA1, ic1, xs1⟩ := x1) | (refine LW_call (cap := []) rfl rfl ent20 (hca2 _ _ hs) ?_; rintro _ w2 ⟨A2, c2, rfl, hs2⟩; replace hs := hs.and1 hs2; clear hs2) | (refine LW_call (cap := []) rfl rfl ent12 (num_call _ _ (by omega) (by omega)) ?_; rintro _ w2 ⟨rfl, rfl⟩) | (refine LW_call (cap := []) rfl rfl ent13 (started_call (tabs_of hU hs) (Tab.to hT hs)) ?_; rintro _ w2 ⟨rfl, hs2⟩; replace hs := hs.and0 hs2; clear hs2) | refine LW_pure TOK rfl ?_) | (refine isLbin ?_; first | (refine LW_cmp rfl (fun _ => ?_) (fun _ => ?_) <;> try (exfalso; omega))) | refine LW_pure TOK rfl ?_ | (refine LW_alloc TOK hs rfl rfl ?_; clear hs; intro _ w hs)) | (with_reducible first | refine then_n ?_ | refine CW_seq ?_ | refine CW_region ?_ | refine CW_ret ?_ | refine then_r ?_) | refine CW_true rfl ?_ | refine RET1 Tryd.results7 rfl ?_))
    exact ⟨rfl, hs.firsts 0⟩
  have h2 := loose_ok hm
  have hll := fun w L (hs : Sat W w L) => looseL_call (tabs_of hU hs) (rb.of hs) hcb hm
  by_cases hlw : (writeJ j).length ≤ 16777216
  · have hbk := loose_back (loose_cj hm) hlw
    have hpb : parseM (writeJ j) = .ok j := by unfold parseM; rw [hbk]; dsimp only; rw [if_pos rfl]
    have hca2 := fun w L (hs : Sat W w L) => canonL_call (tabs_of hU hs) (Tab.to hT hs) (rb.of hs) hcb hm hlw
    (repeat' (first | (refine isLW ?_; first | refine LW_nil ?_ | (refine isLstore ?_; first | (refine LW_storeCA 0 TOK hs rfl rfl rfl rfl rfl (oneV _ _ _ _ _ _ _ _ _) rfl (Nat.le_of_ble_eq_true rfl) ?_; clear hs; intro w hs)) | (refine isLcall ?_; first | (refine LW_call (cap := []) rfl rfl ent11 (hll _ _ hs) ?_; rintro _ w2 ⟨x1, rfl, hx1j, hs2⟩; obtain ⟨R1, hR1⟩ : ∃ R1, x1.rows = R1 := ⟨_, rfl⟩; rw [hR1] at hs2; replace hs := (hs.andThen hs2).perm List.perm_append_comm; clear hs2; obtain ⟨kk1, ii1, tt1, NA1, nc1, ns1, IA1, ic1, xs1⟩ := x1) | (refine LW_call (cap := []) rfl rfl ent20 (hca2 _ _ hs) ?_; rintro _ w2 ⟨A2, c2, rfl, hs2⟩; replace hs := hs.and1 hs2; clear hs2)) | refine LW_pure TOK rfl ?_ | (refine LW_alloc TOK hs rfl rfl ?_; clear hs; intro _ w hs)) | (with_reducible first | refine then_n ?_ | refine CW_seq ?_ | refine CW_region ?_)))
    rename_i b3 _
    replace hs : Sat W _ (RowOf eB 5 1 A2 c2 (writeJ j) :: Cl b3 [.int .i64 kk1, .int .i64 ii1, sv tt1, .slice NA1 ns1.length nc1, .slice IA1 xs1.length ic1] 31 :: R1) := hs
    (repeat' (first | (refine isLW ?_; first | refine LW_nil ?_ | (refine isLstore ?_; first | (refine LW_storeCA 0 TOK hs rfl rfl rfl rfl rfl (oneV _ _ _ _ _ _ _ _ _) rfl (Nat.le_of_ble_eq_true rfl) ?_; clear hs; intro w hs)) | (refine isLcall ?_; first | (refine LW_call (cap := []) rfl rfl ent12 (num_call _ _ (by omega) (by omega)) ?_; rintro _ w2 ⟨rfl, rfl⟩) | (refine LW_call (cap := []) rfl rfl ent20 (canonL_call (tabs_of hU hs) (Tab.to hT hs) (hs.rd 0 rfl) (Sat.rowCap hs) hbk hlw) ?_; rintro _ w2 ⟨A4, c4, rfl, hs2⟩; replace hs := hs.and1 hs2; clear hs2) | (refine LW_call (cap := []) rfl rfl ent18 (parseL_call (tabs_of hU hs) (Tab.to hT hs) (hs.rd 1 rfl) (Sat.rowCap (hs.picks [1])) hpb) ?_; rintro _ w2 ⟨x3, rfl, hx3j, hs2⟩; obtain ⟨R3, hR3⟩ : ∃ R3, x3.rows = R3 := ⟨_, rfl⟩; rw [hR3] at hs2; replace hs := (hs.andThen hs2).perm List.perm_append_comm; clear hs2; obtain ⟨kk3, ii3, tt3, NA3, nc3, ns3, IA3, ic3, xs3⟩ := x3)) | (refine isLbin ?_; first | (refine LW_cmp rfl (fun _ => ?_) (fun _ => ?_) <;> try (exfalso; omega))) | refine LW_pure TOK rfl ?_ | (refine LW_alloc TOK hs rfl rfl ?_; clear hs; intro _ w hs)) | (with_reducible first | refine then_n ?_ | refine CW_seq ?_ | refine CW_region ?_ | refine CW_skip ?_) | refine CW_false rfl ?_))
    rename_i b8 _
    replace hs : Sat W _ (Cl b8 [.int .i64 kk3, .int .i64 ii3, sv tt3, .slice NA3 ns3.length nc3, .slice IA3 xs3.length ic3] 31 :: RowOf eB 5 1 A4 c4 (writeJ j) :: RowOf eB 5 1 A2 c2 (writeJ j) :: Cl b3 [.int .i64 kk1, .int .i64 ii1, sv tt1, .slice NA1 ns1.length nc1, .slice IA1 xs1.length ic1] 31 :: (R1 ++ R3)) := hs
    have hx1 : ∀ w, Sat W w (Cl b8 [.int .i64 kk3, .int .i64 ii3, sv tt3, .slice NA3 ns3.length nc3, .slice IA3 xs3.length ic3] 31 :: RowOf eB 5 1 A4 c4 (writeJ j) :: RowOf eB 5 1 A2 c2 (writeJ j) :: Cl b3 [.int .i64 kk1, .int .i64 ii1, sv tt1, .slice NA1 ns1.length nc1, .slice IA1 xs1.length ic1] 31 :: (R1 ++ R3)) → RdV w (RV.mk kk1 ii1 tt1 NA1 nc1 ns1 IA1 ic1 xs1) := fun w hs => rdV_of _ (Cl b8 [.int .i64 kk3, .int .i64 ii3, sv tt3, .slice NA3 ns3.length nc3, .slice IA3 xs3.length ic3] 31 :: RowOf eB 5 1 A4 c4 (writeJ j) :: RowOf eB 5 1 A2 c2 (writeJ j) :: Cl b3 [.int .i64 kk1, .int .i64 ii1, sv tt1, .slice NA1 ns1.length nc1, .slice IA1 xs1.length ic1] 31 :: R3) (by rw [hR1]; exact hs.perm (by classical exact List.perm_iff_count.2 fun x => by simp only [List.count_append, List.count_cons, List.count_nil]; ac_rfl))
    have hx3 : ∀ w, Sat W w (Cl b8 [.int .i64 kk3, .int .i64 ii3, sv tt3, .slice NA3 ns3.length nc3, .slice IA3 xs3.length ic3] 31 :: RowOf eB 5 1 A4 c4 (writeJ j) :: RowOf eB 5 1 A2 c2 (writeJ j) :: Cl b3 [.int .i64 kk1, .int .i64 ii1, sv tt1, .slice NA1 ns1.length nc1, .slice IA1 xs1.length ic1] 31 :: (R1 ++ R3)) → RdV w (RV.mk kk3 ii3 tt3 NA3 nc3 ns3 IA3 ic3 xs3) := fun w hs => rdV_of _ (Cl b8 [.int .i64 kk3, .int .i64 ii3, sv tt3, .slice NA3 ns3.length nc3, .slice IA3 xs3.length ic3] 31 :: RowOf eB 5 1 A4 c4 (writeJ j) :: RowOf eB 5 1 A2 c2 (writeJ j) :: Cl b3 [.int .i64 kk1, .int .i64 ii1, sv tt1, .slice NA1 ns1.length nc1, .slice IA1 xs1.length ic1] 31 :: R1) (by rw [hR3]; exact hs.perm (by classical exact List.perm_iff_count.2 fun x => by simp only [List.count_append, List.count_cons, List.count_nil]; ac_rfl))
    (repeat' (first | (refine isLW ?_; first | refine LW_nil ?_ | (refine isLg ?_; first | refine LW_take rfl ?_) | (refine isLload ?_; first | refine LW_loadCAE 3 [.int .i64 kk1, .int .i64 ii1, sv tt1, .slice NA1 ns1.length nc1, .slice IA1 xs1.length ic1] TOK hs rfl rfl rfl rfl (Nat.le_of_ble_eq_true rfl) rfl ?_ | refine LW_loadCAE 0 [.int .i64 kk3, .int .i64 ii3, sv tt3, .slice NA3 ns3.length nc3, .slice IA3 xs3.length ic3] TOK hs rfl rfl rfl rfl (Nat.le_of_ble_eq_true rfl) rfl ?_) | (refine isLcall ?_; first | (refine LW_call (cap := []) rfl rfl ent12 (num_call _ _ (by omega) (by omega)) ?_; rintro _ w2 ⟨rfl, rfl⟩) | (refine LW_call (cap := []) rfl rfl ent13 (started_call (tabs_of hU hs) (Tab.to hT hs)) ?_; rintro _ w2 ⟨rfl, hs2⟩; replace hs := hs.and0 hs2; clear hs2) | (refine LW_call (cap := []) rfl rfl ent19 (same_call _ (writeJ j) (writeJ j) _ _ _ _ (hs.rd 2 rfl) (hs.rd 1 rfl)) ?_; rintro _ w2 ⟨rfl, hs2⟩; rw [decide_eq_true (rfl : writeJ j = writeJ j)]; replace hs := hs.and0 hs2; clear hs2) | (refine LW_call (cap := []) rfl rfl ent14 (sameV_call (hx1 _ hs) (RV.mk kk3 ii3 tt3 NA3 nc3 ns3 IA3 ic3 xs3) [] _ (hx3 _ hs) (by rw [hx1j, hx3j]) (by rw [hx1j]; exact h2.2.2.1) (Sat.start _)) ?_; rintro _ w2 ⟨rfl, hs2⟩; replace hs := hs.and0 hs2; clear hs2)) | (refine isLbin ?_; first | (refine LW_cmp rfl (fun _ => ?_) (fun _ => ?_) <;> try (exfalso; omega))) | refine LW_pure TOK rfl ?_) | (with_reducible first | refine then_n ?_ | refine CW_ret ?_) | refine RET1 Tryd.results7 rfl ?_))
    exact ⟨rfl, hs.firsts 0⟩
  · have hce : canonM b = .error (2, 16777216) := by unfold canonM; rw [hm]; dsimp only; rw [if_pos (by omega)]
    have hca2 := fun w L (hs : Sat W w L) => canonE_call (tabs_of hU hs) (Tab.to hT hs) (rb.of hs) hcb hce
    dsimp only at hca2
    (repeat' (first | (refine isLW ?_; first | refine LW_nil ?_ | (refine isLstore ?_; first | (refine LW_storeCA 0 TOK hs rfl rfl rfl rfl rfl (oneV _ _ _ _ _ _ _ _ _) rfl (Nat.le_of_ble_eq_true rfl) ?_; clear hs; intro w hs)) | (refine isLcall ?_; first | (refine LW_call (cap := []) rfl rfl ent11 (hll _ _ hs) ?_; rintro _ w2 ⟨x1, rfl, hx1j, hs2⟩; obtain ⟨R1, hR1⟩ : ∃ R1, x1.rows = R1 := ⟨_, rfl⟩; rw [hR1] at hs2; replace hs := (hs.andThen hs2).perm List.perm_append_comm; clear hs2; obtain ⟨kk1, ii1, tt1, NA1, nc1, ns1, IA1, ic1, xs1⟩ := x1) | (refine LW_call (cap := []) rfl rfl ent20 (hca2 _ _ hs) ?_; rintro _ w2 ⟨A2, c2, rfl, hs2⟩; replace hs := hs.and1 hs2; clear hs2) | (refine LW_call (cap := []) rfl rfl ent12 (num_call _ _ (by omega) (by omega)) ?_; rintro _ w2 ⟨rfl, rfl⟩) | (refine LW_call (cap := []) rfl rfl ent13 (started_call (tabs_of hU hs) (Tab.to hT hs)) ?_; rintro _ w2 ⟨rfl, hs2⟩; replace hs := hs.and0 hs2; clear hs2)) | (refine isLbin ?_; first | (refine LW_cmp rfl (fun _ => ?_) (fun _ => ?_) <;> try (exfalso; omega))) | refine LW_pure TOK rfl ?_ | (refine LW_alloc TOK hs rfl rfl ?_; clear hs; intro _ w hs)) | (with_reducible first | refine then_n ?_ | refine CW_seq ?_ | refine CW_region ?_ | refine CW_skip ?_ | refine CW_ret ?_ | refine then_r ?_) | refine CW_true rfl ?_ | refine CW_false rfl ?_ | refine RET1 Tryd.results7 rfl ?_))
    exact ⟨rfl, hs.firsts 0⟩
end
end Go.Proofs.YtbmeafeojcgndaaDoor
