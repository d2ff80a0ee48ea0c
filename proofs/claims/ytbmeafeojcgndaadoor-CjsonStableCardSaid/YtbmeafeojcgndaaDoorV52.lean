/- The law of one text: what Parse reads is what Print writes. -/
import Derived.Test.YtbmeafeojcgndaaDoorV51
import Derived.Test.YtbmeafeojcgndaaDoorP5
set_option linter.unusedVariables false
set_option linter.unusedSimpArgs false
namespace Go.Proofs.YtbmeafeojcgndaaDoor
open Go Go.Sl Go.RowKit
set_option maxRecDepth 100000
attribute [local irreducible] CW LW DW FR DP Calls Res Ret
theorem parse_err_code {b : List UInt8} {e : Er} (h : parseM b = .error e) : 0 ≤ e.1 ∧ e.1 ≤ 1000 ∧ e.1 ≠ 0 := by
  unfold parseM at h
  split at h
  · rename_i e2 he
    injection h with h
    subst h
    have := loose_err_code he
    omega
  · split at h
    · cases h
    · injection h with h
      rw [← h]
      dsimp only; omega
theorem parse_ok {b : List UInt8} {j : J} (h : parseM b = .ok j) : looseM b = .ok j ∧ writeJ j = b := by
  unfold parseM at h
  split at h
  · cases h
  · rename_i j2 hj
    split at h
    · rename_i hb
      injection h with h
      subst h
      exact ⟨hj, hb.symm⟩
    · cases h
theorem print_ok {b : List UInt8} {j : J} (h : looseM b = .ok j) (hl : (writeJ j).length ≤ 16777216) : printM j = .ok (writeJ j) := by
  unfold printM
  rw [if_pos (loose_sound h), if_neg (by omega)]
theorem canon_ok {b : List UInt8} {j : J} (h : looseM b = .ok j) (hl : (writeJ j).length ≤ 16777216) : canonM b = .ok (writeJ j) := by
  unfold canonM
  rw [h]
  dsimp only
  rw [if_neg (by omega)]
section
variable {W : World} {b : List UInt8} {B : Option Addr} {c : Nat}
/-- What Print says of a value that was read. -/
theorem printL_call {j : J} (hU : Lib.Utf8Tabs 1 2 W) (hT : Tab W) {x : RV} (hx : RdV W x) (hj : x.j = j) (h : looseM b = .ok j) (hl : (writeJ j).length ≤ 16777216) :
    Calls Tryd.prog 17 [Value.agg (eV x).toArray].toArray W (Ret fun v w' => ∃ A c, v = .tuple #[.slice A (writeJ j).length c, .int .i64 0] ∧ Sat W w' [RowOf eB 5 1 A c (writeJ j)]) := by
  have h2 := loose_ok h
  have := print_call hU hT hx W (fun _ => by rw [hj]; exact h2.2.1) (by rw [hj]; exact h2.2.2.1) (fun _ => by rw [hj]; omega) (Sat.start W)
  rw [hj, print_ok h hl] at this
  exact this
theorem canonL_call {j : J} (hU : Lib.Utf8Tabs 1 2 W) (hT : Tab W) (rb : Rd eB W B b) (hcb : b.length ≤ c) (h : looseM b = .ok j) (hl : (writeJ j).length ≤ 16777216) :
    Calls Tryd.prog 20 [Value.slice B b.length c].toArray W (Ret fun v w' => ∃ A c', v = .tuple #[.slice A (writeJ j).length c', .int .i64 0, .int .i64 (0 : Nat)] ∧ Sat W w' [RowOf eB 5 1 A c' (writeJ j)]) := by
  have := canon_call hU hT rb hcb
  rw [canon_ok h hl] at this
  exact this
theorem looseL_call {j : J} (hU : Lib.Utf8Tabs 1 2 W) (rb : Rd eB W B b) (hcb : b.length ≤ c) (h : looseM b = .ok j) :
    Calls Tryd.prog 11 [Value.slice B b.length c].toArray W (Ret fun v w' => ∃ x : RV, v = .tuple #[.agg (eV x).toArray, .int .i64 0, .int .i64 (0 : Nat)] ∧ x.j = j ∧ Sat W w' x.rows) := by
  have := loose_call hU rb hcb
  rw [h] at this
  exact this
theorem parseL_call {j : J} (hU : Lib.Utf8Tabs 1 2 W) (hT : Tab W) (rb : Rd eB W B b) (hcb : b.length ≤ c) (h : parseM b = .ok j) :
    Calls Tryd.prog 18 [Value.slice B b.length c].toArray W (Ret fun v w' => ∃ x : RV, v = .tuple #[.agg (eV x).toArray, .int .i64 0, .int .i64 (0 : Nat)] ∧ x.j = j ∧ Sat W w' x.rows) := by
  have := parse_call hU hT rb hcb
  rw [h] at this
  exact this
theorem parseE_call {e : Er} (hU : Lib.Utf8Tabs 1 2 W) (hT : Tab W) (rb : Rd eB W B b) (hcb : b.length ≤ c) (h : parseM b = .error e) :
    Calls Tryd.prog 18 [Value.slice B b.length c].toArray W (Ret fun v w' => ∃ x : RV, v = .tuple #[.agg (eV x).toArray, .int .i64 e.1, .int .i64 e.2] ∧ x.j = zeroJ ∧ Sat W w' x.rows) := by
  have := parse_call hU hT rb hcb
  rw [h] at this
  exact this
set_option maxHeartbeats 8000000 in
theorem CjsonOneText_call (hU : Lib.Utf8Tabs 1 2 W) (hT : Tab W) (rb : Rd eB W B b) (hcb : b.length ≤ c) :
    Calls Tryd.prog 6 [Value.slice B b.length c].toArray W (Ret fun v w' => v = .bool true ∧ Sat W w' []) := by
  have hs := Sat.start W
  refine Calls_of Tryd.func6 rfl 87 Tryd.ntmps6 rfl ?_
  rcases hm : parseM b with e | j
  · obtain ⟨e1, e2⟩ := e
    obtain ⟨he0, he1, he2⟩ := parse_err_code hm
    dsimp only at he0 he1 he2
    have hpa := fun w L (hs : Sat W w L) => parseE_call (tabs_of hU hs) (Tab.to hT hs) (rb.of hs) hcb hm
    dsimp only at hpa
    (repeat' (first | (refine isLW ?_; first | refine LW_nil ?_ | (refine isLstore ?_; first | (refine LW_storeCA 0 TOK hs rfl rfl rfl rfl rfl (oneV _ _ _ _ _ _ _ _ _) rfl (Nat.le_of_ble_eq_true rfl) ?_; clear hs; intro w hs)) | (refine isLcall ?_; first | (refine LW_call (cap := []) rfl rfl ent18 (hpa _ _ hs) ?_; rintro _ w2 ⟨x1, rfl, hx1j, hs2⟩; obtain ⟨R1, hR1⟩ : ∃ R1, x1.rows = R1 := ⟨_, rfl⟩; rw [hR1] at hs2; replace hs := (hs.andThen hs2).perm List.perm_append_comm; clear hs2; obtain ⟨kk1, ii1, tt1, NA1, nc1, ns1, IA1, ic1, xs1⟩ := x1) | (refine LW_call (cap := []) rfl rfl ent12 (num_call _ _ (by omega) (by omega)) ?_; rintro _ w2 ⟨rfl, rfl⟩)) | (refine isLbin ?_; first | (refine LW_cmp rfl (fun _ => ?_) (fun _ => ?_) <;> try (exfalso; omega))) | refine LW_pure TOK rfl ?_ | (refine LW_alloc TOK hs rfl rfl ?_; clear hs; intro _ w hs)) | (with_reducible first | refine then_n ?_ | refine CW_seq ?_ | refine CW_region ?_) | refine CW_true rfl ?_))
    rename_i _ b3 _
    replace hs : Sat W _ (Cl b3 [.int .i64 kk1, .int .i64 ii1, sv tt1, .slice NA1 ns1.length nc1, .slice IA1 xs1.length ic1] 31 :: R1) := hs
    have hx1 : ∀ w, Sat W w (Cl b3 [.int .i64 kk1, .int .i64 ii1, sv tt1, .slice NA1 ns1.length nc1, .slice IA1 xs1.length ic1] 31 :: R1) → RdV w (RV.mk kk1 ii1 tt1 NA1 nc1 ns1 IA1 ic1 xs1) := fun w hs => rdV_of _ [Cl b3 [.int .i64 kk1, .int .i64 ii1, sv tt1, .slice NA1 ns1.length nc1, .slice IA1 xs1.length ic1] 31] (by rw [hR1]; exact hs.perm (by classical exact List.perm_iff_count.2 fun x => by simp only [List.count_append, List.count_cons, List.count_nil]; ac_rfl))
    (repeat' (first | (refine isLW ?_; first | refine LW_nil ?_ | (refine isLg ?_; first | refine LW_take rfl ?_) | (refine isLload ?_; first | refine LW_loadCAE 0 [.int .i64 kk1, .int .i64 ii1, sv tt1, .slice NA1 ns1.length nc1, .slice IA1 xs1.length ic1] TOK hs rfl rfl rfl rfl (Nat.le_of_ble_eq_true rfl) rfl ?_) | (refine isLcall ?_; first | (refine LW_call (cap := []) rfl rfl ent13 (started_call (tabs_of hU hs) (Tab.to hT hs)) ?_; rintro _ w2 ⟨rfl, hs2⟩; replace hs := hs.and0 hs2; clear hs2) | (refine LW_call (cap := []) rfl rfl ent14 (sameV_call (hx1 _ hs) (RV.mk 0 0 [] none 0 [] none 0 []) [] _ (.mk (.nil _ _ _) (.nil _ _ _) (Nat.le_refl _) (Nat.le_refl _) (fun x hx => by cases hx)) (by rw [hx1j]; rfl) (by rw [hx1j]; exact .mk (by simp) (by simp) (by simp) (by simp) (by simp)) (Sat.start _)) ?_; rintro _ w2 ⟨rfl, hs2⟩; replace hs := hs.and0 hs2; clear hs2)) | refine LW_pure TOK rfl ?_ | refine LW_build TOK rfl rfl rfl rfl rfl rfl ?_) | (with_reducible first | refine then_n ?_ | refine CW_ret ?_ | refine then_r ?_) | refine RET1 Tryd.results6 rfl ?_))
    exact ⟨rfl, hs.firsts 0⟩
  obtain ⟨hlo, hwj⟩ := parse_ok hm
  have h2 := loose_ok hlo
  have hlw : (writeJ j).length ≤ 16777216 := by rw [hwj]; exact h2.1
  have hpa := fun w L (hs : Sat W w L) => parseL_call (tabs_of hU hs) (Tab.to hT hs) (rb.of hs) hcb hm
  have hll := fun w L (hs : Sat W w L) => looseL_call (tabs_of hU hs) (rb.of hs) hcb hlo
  have hca := fun w L (hs : Sat W w L) => canonL_call (tabs_of hU hs) (Tab.to hT hs) (rb.of hs) hcb hlo hlw
  (repeat' (first | (refine isLW ?_; first | refine LW_nil ?_ | (refine isLstore ?_; first | (refine LW_storeCA 0 TOK hs rfl rfl rfl rfl rfl (oneV _ _ _ _ _ _ _ _ _) rfl (Nat.le_of_ble_eq_true rfl) ?_; clear hs; intro w hs)) | (refine isLcall ?_; first | (refine LW_call (cap := []) rfl rfl ent18 (hpa _ _ hs) ?_; rintro _ w2 ⟨x1, rfl, hx1j, hs2⟩; obtain ⟨R1, hR1⟩ : ∃ R1, x1.rows = R1 := ⟨_, rfl⟩; rw [hR1] at hs2; replace hs := (hs.andThen hs2).perm List.perm_append_comm; clear hs2; obtain ⟨kk1, ii1, tt1, NA1, nc1, ns1, IA1, ic1, xs1⟩ := x1) | (refine LW_call (cap := []) rfl rfl ent12 (num_call _ _ (by omega) (by omega)) ?_; rintro _ w2 ⟨rfl, rfl⟩)) | (refine isLbin ?_; first | (refine LW_cmp rfl (fun _ => ?_) (fun _ => ?_) <;> try (exfalso; omega))) | refine LW_pure TOK rfl ?_ | (refine LW_alloc TOK hs rfl rfl ?_; clear hs; intro _ w hs)) | (with_reducible first | refine then_n ?_ | refine CW_seq ?_ | refine CW_region ?_ | refine CW_skip ?_) | refine CW_false rfl ?_))
  rename_i _ b3 _
  replace hs : Sat W _ (Cl b3 [.int .i64 kk1, .int .i64 ii1, sv tt1, .slice NA1 ns1.length nc1, .slice IA1 xs1.length ic1] 31 :: R1) := hs
  have hx1 : ∀ w, Sat W w (Cl b3 [.int .i64 kk1, .int .i64 ii1, sv tt1, .slice NA1 ns1.length nc1, .slice IA1 xs1.length ic1] 31 :: R1) → RdV w (RV.mk kk1 ii1 tt1 NA1 nc1 ns1 IA1 ic1 xs1) := fun w hs => rdV_of _ [Cl b3 [.int .i64 kk1, .int .i64 ii1, sv tt1, .slice NA1 ns1.length nc1, .slice IA1 xs1.length ic1] 31] (by rw [hR1]; exact hs.perm (by classical exact List.perm_iff_count.2 fun x => by simp only [List.count_append, List.count_cons, List.count_nil]; ac_rfl))
  (repeat' (first | (refine isLW ?_; first | refine LW_nil ?_ | (refine isLload ?_; first | refine LW_loadCAE 0 [.int .i64 kk1, .int .i64 ii1, sv tt1, .slice NA1 ns1.length nc1, .slice IA1 xs1.length ic1] TOK hs rfl rfl rfl rfl (Nat.le_of_ble_eq_true rfl) rfl ?_) | (refine isLstore ?_; first | (refine LW_storeCA 0 TOK hs rfl rfl rfl rfl rfl (oneV _ _ _ _ _ _ _ _ _) rfl (Nat.le_of_ble_eq_true rfl) ?_; clear hs; intro w hs)) | (refine isLcall ?_; first | (refine LW_call (cap := []) rfl rfl ent17 (printL_call (tabs_of hU hs) (Tab.to hT hs) (hx1 _ hs) hx1j hlo hlw) ?_; rintro _ w2 ⟨A2, c2, rfl, hs2⟩; replace hs := hs.and1 hs2; clear hs2) | (refine LW_call (cap := []) rfl rfl ent11 (hll _ _ hs) ?_; rintro _ w2 ⟨x3, rfl, hx3j, hs2⟩; obtain ⟨R3, hR3⟩ : ∃ R3, x3.rows = R3 := ⟨_, rfl⟩; rw [hR3] at hs2; replace hs := (hs.andThen hs2).perm List.perm_append_comm; clear hs2; obtain ⟨kk3, ii3, tt3, NA3, nc3, ns3, IA3, ic3, xs3⟩ := x3) | (refine LW_call (cap := []) rfl rfl ent20 (hca _ _ hs) ?_; rintro _ w2 ⟨A4, c4, rfl, hs2⟩; replace hs := hs.and1 hs2; clear hs2)) | refine LW_pure TOK rfl ?_ | (refine LW_alloc TOK hs rfl rfl ?_; clear hs; intro _ w hs)) | (with_reducible first | refine then_n ?_ | refine CW_seq ?_ | refine CW_region ?_)))
  rename_i b8 _
  replace hs : Sat W _ (RowOf eB 5 1 A4 c4 (writeJ j) :: Cl b8 [.int .i64 kk3, .int .i64 ii3, sv tt3, .slice NA3 ns3.length nc3, .slice IA3 xs3.length ic3] 31 :: RowOf eB 5 1 A2 c2 (writeJ j) :: Cl b3 [.int .i64 kk1, .int .i64 ii1, sv tt1, .slice NA1 ns1.length nc1, .slice IA1 xs1.length ic1] 31 :: (R1 ++ R3)) := hs
  have hx1' : ∀ w, Sat W w (RowOf eB 5 1 A4 c4 (writeJ j) :: Cl b8 [.int .i64 kk3, .int .i64 ii3, sv tt3, .slice NA3 ns3.length nc3, .slice IA3 xs3.length ic3] 31 :: RowOf eB 5 1 A2 c2 (writeJ j) :: Cl b3 [.int .i64 kk1, .int .i64 ii1, sv tt1, .slice NA1 ns1.length nc1, .slice IA1 xs1.length ic1] 31 :: (R1 ++ R3)) → RdV w (RV.mk kk1 ii1 tt1 NA1 nc1 ns1 IA1 ic1 xs1) := fun w hs => rdV_of _ (RowOf eB 5 1 A4 c4 (writeJ j) :: Cl b8 [.int .i64 kk3, .int .i64 ii3, sv tt3, .slice NA3 ns3.length nc3, .slice IA3 xs3.length ic3] 31 :: RowOf eB 5 1 A2 c2 (writeJ j) :: Cl b3 [.int .i64 kk1, .int .i64 ii1, sv tt1, .slice NA1 ns1.length nc1, .slice IA1 xs1.length ic1] 31 :: R3) (by rw [hR1]; exact hs.perm (by classical exact List.perm_iff_count.2 fun x => by simp only [List.count_append, List.count_cons, List.count_nil]; ac_rfl))
  have hx3 : ∀ w, Sat W w (RowOf eB 5 1 A4 c4 (writeJ j) :: Cl b8 [.int .i64 kk3, .int .i64 ii3, sv tt3, .slice NA3 ns3.length nc3, .slice IA3 xs3.length ic3] 31 :: RowOf eB 5 1 A2 c2 (writeJ j) :: Cl b3 [.int .i64 kk1, .int .i64 ii1, sv tt1, .slice NA1 ns1.length nc1, .slice IA1 xs1.length ic1] 31 :: (R1 ++ R3)) → RdV w (RV.mk kk3 ii3 tt3 NA3 nc3 ns3 IA3 ic3 xs3) := fun w hs => rdV_of _ (RowOf eB 5 1 A4 c4 (writeJ j) :: Cl b8 [.int .i64 kk3, .int .i64 ii3, sv tt3, .slice NA3 ns3.length nc3, .slice IA3 xs3.length ic3] 31 :: RowOf eB 5 1 A2 c2 (writeJ j) :: Cl b3 [.int .i64 kk1, .int .i64 ii1, sv tt1, .slice NA1 ns1.length nc1, .slice IA1 xs1.length ic1] 31 :: R1) (by rw [hR3]; exact hs.perm (by classical exact List.perm_iff_count.2 fun x => by simp only [List.count_append, List.count_cons, List.count_nil]; ac_rfl))
  clear hx1
  have hx1 := hx1'
  (repeat' (first | (refine isLW ?_; first | refine LW_nil ?_ | (refine isLg ?_; first | refine LW_take rfl ?_) | (refine isLload ?_; first | refine LW_loadCAE 3 [.int .i64 kk1, .int .i64 ii1, sv tt1, .slice NA1 ns1.length nc1, .slice IA1 xs1.length ic1] TOK hs rfl rfl rfl rfl (Nat.le_of_ble_eq_true rfl) rfl ?_ | refine LW_loadCAE 1 [.int .i64 kk3, .int .i64 ii3, sv tt3, .slice NA3 ns3.length nc3, .slice IA3 xs3.length ic3] TOK hs rfl rfl rfl rfl (Nat.le_of_ble_eq_true rfl) rfl ?_) | (refine isLcall ?_; first | (refine LW_call (cap := []) rfl rfl ent12 (num_call _ _ (by omega) (by omega)) ?_; rintro _ w2 ⟨rfl, rfl⟩) | (refine LW_call (cap := []) rfl rfl ent13 (started_call (tabs_of hU hs) (Tab.to hT hs)) ?_; rintro _ w2 ⟨rfl, hs2⟩; replace hs := hs.and0 hs2; clear hs2) | (refine LW_call (cap := []) rfl rfl ent19 (same_call _ (writeJ j) b _ _ _ _ (hs.rd 2 rfl) (rb.of hs)) ?_; rintro _ w2 ⟨rfl, hs2⟩; rw [decide_eq_true hwj]; replace hs := hs.and0 hs2; clear hs2) | (refine LW_call (cap := []) rfl rfl ent19 (same_call _ (writeJ j) b _ _ _ _ (hs.rd 0 rfl) (rb.of hs)) ?_; rintro _ w2 ⟨rfl, hs2⟩; rw [decide_eq_true hwj]; replace hs := hs.and0 hs2; clear hs2) | (refine LW_call (cap := []) rfl rfl ent14 (sameV_call (hx1 _ hs) (RV.mk kk3 ii3 tt3 NA3 nc3 ns3 IA3 ic3 xs3) [] _ (hx3 _ hs) (by rw [hx1j, hx3j]) (by rw [hx1j]; exact h2.2.2.1) (Sat.start _)) ?_; rintro _ w2 ⟨rfl, hs2⟩; replace hs := hs.and0 hs2; clear hs2)) | (refine isLbin ?_; first | (refine LW_cmp rfl (fun _ => ?_) (fun _ => ?_) <;> try (exfalso; omega))) | refine LW_pure TOK rfl ?_) | (with_reducible first | refine then_n ?_ | refine CW_seq ?_ | refine CW_region ?_ | refine CW_skip ?_ | refine CW_ret ?_) | refine CW_false rfl ?_ | refine RET1 Tryd.results6 rfl ?_))
  exact ⟨rfl, hs.firsts 0⟩
end
end Go.Proofs.YtbmeafeojcgndaaDoor
