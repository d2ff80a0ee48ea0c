/- Bytes of a constant text: the conversion of a row to its own type marks the place behind it. -/
import Derived.Test.YtbmeafeojcgndaaDoorSlB
import Derived.Test.YtbmeafeojcgndaaDoorV50
set_option linter.unusedVariables false
set_option linter.unusedSimpArgs false
namespace Go.Sl
open Go.RowKit
/-- A block of cells that bears the mark. -/
abbrev ClM (b : Nat) (vs : List Value) (t : TypeId) : HProp := Bk b (.cells vs.toArray t (vs.length, vs.length + 1))
section
variable {r : Option Nat} {P : Program} {T : List (Nat × TI)} {ops : Array Oper} {Q : Exit → Act → World → Prop} {rest : List Oper} {n : Nat} {s : List (Nat × Value)} {τ : Nat → Value} {ds : List Deferred} {w W : World} {L : List HProp} {d : Nat} {ty : TypeId} {ps : String} {af : Array Edge}
theorem run_convMark {t e ee : TypeId} {b m c : Nat} {cs : List Value} (ht : P.underlying t = some (.slice e)) (he : P.underlying e = some (.int .u8)) (hb : w.heap[b]? = some (.cells cs.toArray ee (0, 0))) :
    ∃ w', (convert t t (.slice (some ⟨b, 0, none⟩) m c)).run P w = .ok (.slice (some ⟨b, 0, none⟩) m c) w' ∧ w.grownBy w' (some b) ∧ w'.heap[b]? = some (.cells cs.toArray ee (cs.length, cs.length + 1)) := by
  have hsh : w.shape? b = some (ee, cs.length) := by
    unfold World.shape?
    rw [hb]; simp
  refine ⟨w.freeze ⟨b, cs.length, none⟩ 1, ?_, ?_, ?_⟩
  · simp [convert, run_underlying ht, run_underlying he, markStringish, hsh]
  · refine ⟨rfl, rfl, rfl, by simp [World.freeze], fun k hk hne => ?_⟩
    have hne' : b ≠ k := fun e => hne (by rw [e])
    simp [World.freeze, Array.getElem?_modify, hne']
  · simp [World.freeze, Array.getElem?_modify, hb]
theorem LW_convMark (i : Nat) {t e ee : TypeId} {x : Operand} {ti te : TI} {b m c : Nat} {cs : List Value} (hT : TyOK P T) (hs : Sat W w L) (hx : EVO n s x = some (.slice (some ⟨b, 0, none⟩) m c)) (ht : lookT T t = some ti) (hu : ti.u = .slice e) (he : lookT T e = some te) (hue : te.u = .int .u8) (hi : getA L i = some (Cl b cs ee))
    (k : ∀ w', Sat W w' (L.set i (ClM b cs ee)) → LW r P ops Q rest (FR n ((d, .slice (some ⟨b, 0, none⟩) m c) :: s) τ ds) w') :
    LW r P ops Q (⟨some d, .convert t t x, ty, ps, af, none⟩ :: rest) (FR n s τ ds) w := by
  rw [getA_eq] at hi
  have u1 := (ty_info (hT _ _ ht)).1
  have u2 := (ty_info (hT _ _ he)).1
  rw [hu] at u1
  rw [hue] at u2
  obtain ⟨w', h1, h2, h3⟩ := run_convMark (m := m) (c := c) u1 u2 (hs.at i hi).2
  refine LW_run (v := .slice (some ⟨b, 0, none⟩) m c) (w' := w') rfl (fun c e => by cases e) ?_ (by rw [put_FR]; exact k w' (hs.turn i hi _ h2 h3))
  show Sem.run P (do let v ← convert t t ((FR n s τ ds).eval x); pure (Next.value v)) w = _
  rw [eval_of hx, Sem.run_bind, h1]; rfl
theorem Sat.rdM {α : Type} {enc : α → List Value} {xs : List α} {b : Nat} {t : TypeId} {f : Nat × Nat} (hs : Sat W w L) (i : Nat) (hi : getA L i = some (Bk b (.cells (xs.flatMap enc).toArray t f))) : Rd enc w (some ⟨b, 0, none⟩) xs := by
  rw [getA_eq] at hi
  refine .inr ⟨b, 0, rfl, fun j u h => ?_⟩
  have hb := (hs.at i hi).2
  simp only [World.cell?, hb, Nat.zero_add]
  simpa using h
end
end Go.Sl

/- Walks: the book's own tests. -/
set_option linter.unusedVariables false
set_option linter.unusedSimpArgs false
namespace Go.Proofs.YtbmeafeojcgndaaDoor
open Go Go.Sl Go.RowKit
set_option maxRecDepth 100000
attribute [local irreducible] CW LW DW FR DP Calls Res Ret
section
variable {W : World}
theorem first_call (W : World) :
    Calls Tryd.prog 28 [].toArray W (Ret fun v w' => ∃ (x : RV) (A : Option Addr) (c : Nat) (L : List HProp), v = .tuple #[.agg (eV x).toArray, .slice A wantL.length c] ∧ x.j = jF ∧ RdV w' x ∧ Rd eB w' A wantL ∧ wantL.length ≤ c ∧ Sat W w' L) := by
  have hs := Sat.start W
  refine Calls_of Tryd.func28 rfl 14 Tryd.ntmps28 rfl ?_
  (repeat' (first | (refine LW_buildSlice TOK hs rfl rfl rfl rfl rfl rfl rfl ?_; clear hs; intro bb w hs) | (refine isLW ?_; first | refine LW_nil ?_ | (refine isLstore ?_; first | (refine LW_storeCA 0 TOK hs rfl rfl rfl rfl rfl (oneV _ _ _ _ _ _ _ _ _) rfl (Nat.le_of_ble_eq_true rfl) ?_; clear hs; intro w hs)) | refine LW_pure TOK rfl ?_ | (refine LW_alloc TOK hs rfl rfl ?_; clear hs; intro _ w hs) | refine LW_build TOK rfl rfl rfl rfl rfl rfl ?_) | (with_reducible first | refine then_n ?_ | refine CW_seq ?_ | refine CW_region ?_)))
  rename_i b0 _ bn _ b7 _ _ b2 _
  (repeat' (first | (refine LW_buildSlice TOK hs rfl rfl rfl rfl rfl rfl rfl ?_; clear hs; intro b12 w hs) | (refine LW_convMark 0 TOK hs rfl rfl rfl rfl rfl rfl ?_; clear hs; intro w hs) | (refine isLW ?_; first | refine LW_nil ?_ | (refine isLload ?_; first | refine LW_loadCAE 0 [.int .i64 5, .int .i64 0, sv [], .slice (some ⟨bn, 0, none⟩) 2 2, .slice (some ⟨bb, 0, none⟩) 2 2] TOK hs rfl rfl rfl rfl (Nat.le_of_ble_eq_true rfl) rfl ?_) | (refine isLstore ?_; first | (refine LW_storeCA 5 TOK hs rfl rfl rfl rfl rfl (oneV _ _ _ _ _ _ _ _ _) rfl (Nat.le_of_ble_eq_true rfl) ?_; clear hs; intro w hs)) | refine LW_pure TOK rfl ?_) | (with_reducible first | refine then_n ?_ | refine CW_ret ?_) | refine RETA2 5 hs TOK Tryd.results28 rfl rfl rfl rfl rfl rfl ?_))
  refine ⟨.mk 5 0 [] (some ⟨bn, 0, none⟩) 2 [[98], [97]] (some ⟨bb, 0, none⟩) 2 [.mk 2 (-7) [] none 0 [] none 0 [], .mk 4 0 [] none 0 [] (some ⟨b7, 0, none⟩) 2 [.mk 1 1 [] none 0 [] none 0 [], .mk 0 0 [] none 0 [] none 0 []]], some ⟨b12, 0, none⟩, 24, _, rfl, by simp [RV.j, RV.js, jF], ?_, hs.rdM 0 rfl, by decide, hs⟩
  have h0 : ∀ (k i : Int), RdV w (.mk k i [] none 0 [] none 0 []) := fun k i => .mk (.nil _ _ _) (.nil _ _ _) (Nat.le_refl _) (Nat.le_refl _) (fun x hx => by cases hx)
  refine .mk (hs.rdC 4 rfl) (hs.rdC 2 rfl) (Nat.le_refl _) (Nat.le_refl _) ?_
  intro x hx
  simp only [List.mem_cons, List.not_mem_nil, or_false] at hx
  rcases hx with rfl | rfl
  · exact h0 _ _
  · refine .mk (.nil _ _ _) (hs.rdC 3 rfl) (Nat.le_refl _) (Nat.le_refl _) (fun x hx => ?_)
    simp only [List.mem_cons, List.not_mem_nil, or_false] at hx
    rcases hx with rfl | rfl <;> exact h0 _ _
theorem f_sm2 : SmJ 1099511627776 (resJ (Except.ok jO : Mo J)) := (loose_ok f_loose).2.2.1
set_option maxHeartbeats 8000000 in
theorem started_call (hU : Lib.Utf8Tabs 1 2 W) (hT : Tab W) :
    Calls Tryd.prog 13 [].toArray W (Ret fun v w' => v = .bool true ∧ Sat W w' []) := by
  have hs := Sat.start W
  refine Calls_of Tryd.func13 rfl 73 Tryd.ntmps13 rfl ?_
  (repeat' (first | (refine isLW ?_; first | refine LW_nil ?_ | (refine isLcall ?_; first | (refine LW_call (cap := []) rfl rfl ent28 (first_call _) ?_; rintro _ V ⟨x, A1, c1, L1, rfl, hxj, hxr, hr1, hc1, hs1⟩; have hV := hs.andThen hs1; have hUV := tabs_of hU hV; have hTV := Tab.to hT hV; clear hs hs1; have hs := Sat.start V; obtain ⟨kk, ii, tt, NA0, nc0, ns0, IA0, ic0, xs0⟩ := x)) | refine LW_pure TOK rfl ?_ | (refine LW_alloc TOK hs rfl rfl ?_; clear hs; intro _ w hs)) | (with_reducible first | refine then_n ?_ | refine CW_seq ?_ | refine CW_region ?_)))
  have hpr := fun w L (hs : Sat V w L) => print_call hUV hTV hxr w (fun _ => by rw [hxj]; exact f_wf) (by rw [hxj]; exact f_sm) (fun _ => by rw [hxj, f_write]; decide) hs
  rw [hxj, f_print] at hpr
  have hpa := fun w L (hs : Sat V w L) => parse_call (tabs_of hUV hs) (Tab.to hTV hs) (hr1.of hs) hc1
  rw [f_parse] at hpa
  have hlo := fun w L A (hs : Sat V w L) (hr : Rd eB w A inL) => loose_call (c := 29) (tabs_of hUV hs) hr (by decide)
  rw [f_in] at hlo
  (repeat' (first | (refine LW_buildSlice TOK hs rfl rfl rfl rfl rfl rfl rfl ?_; clear hs; intro bi w hs) | (refine LW_convMark 0 TOK hs rfl rfl rfl rfl rfl rfl ?_; clear hs; intro w hs) | (refine isLW ?_; first | refine LW_nil ?_ | (refine isLload ?_; first | refine LW_loadCAE 0 [.int .i64 kk, .int .i64 ii, sv tt, .slice NA0 ns0.length nc0, .slice IA0 xs0.length ic0] TOK hs rfl rfl rfl rfl (Nat.le_of_ble_eq_true rfl) rfl ?_ | refine LW_loadCAE 4 [.int .i64 kk, .int .i64 ii, sv tt, .slice NA0 ns0.length nc0, .slice IA0 xs0.length ic0] TOK hs rfl rfl rfl rfl (Nat.le_of_ble_eq_true rfl) rfl ?_) | (refine isLstore ?_; first | (refine LW_storeCA 0 TOK hs rfl rfl rfl rfl rfl (oneV _ _ _ _ _ _ _ _ _) rfl (Nat.le_of_ble_eq_true rfl) ?_; clear hs; intro w hs)) | (refine isLcall ?_; first | (refine LW_call (cap := []) rfl rfl ent17 (hpr _ _ hs) ?_; clear hs; rintro _ w2 ⟨A2, c2, rfl, hs⟩; rw [show resB (Except.ok wantL : Mo (List UInt8)) = wantL from rfl] at hs; rw [show resB (Except.ok wantL : Mo (List UInt8)) = wantL from rfl, show resE (Except.ok wantL : Mo (List UInt8)) = 0 from rfl]) | (refine LW_call (cap := []) rfl rfl ent18 (hpa _ _ hs) ?_; rintro _ w2 ⟨x2, rfl, hx2j, hs2⟩; obtain ⟨R2, hR2⟩ : ∃ R2, x2.rows = R2 := ⟨_, rfl⟩; rw [hR2] at hs2; rw [show resE (Except.ok jO : Mo J) = 0 from rfl, show resP (Except.ok jO : Mo J) = 0 from rfl]; replace hs := (hs.andThen hs2).perm List.perm_append_comm; clear hs2; obtain ⟨kk2, ii2, tt2, NA2, nc2, ns2, IA2, ic2, xs2⟩ := x2) | (refine LW_call (cap := []) rfl rfl ent11 (hlo _ _ _ hs (hs.rdM 0 rfl)) ?_; rintro _ w2 ⟨x3, rfl, hx3j, hs2⟩; obtain ⟨R3, hR3⟩ : ∃ R3, x3.rows = R3 := ⟨_, rfl⟩; rw [hR3] at hs2; rw [show resE (Except.ok jO : Mo J) = 0 from rfl, show resP (Except.ok jO : Mo J) = 0 from rfl]; replace hs := (hs.andThen hs2).perm List.perm_append_comm; clear hs2; obtain ⟨kk3, ii3, tt3, NA3, nc3, ns3, IA3, ic3, xs3⟩ := x3) | (refine LW_call (cap := []) rfl rfl ent29 (order_call hxr _ _ (by rw [hxj]; exact f_wf) (by rw [hxj]; exact f_sm) hs) ?_; clear hs; rintro _ w2 ⟨x4, rfl, hx4j, hs⟩; obtain ⟨R4, hR4⟩ : ∃ R4, x4.rows = R4 := ⟨_, rfl⟩; rw [hR4] at hs; replace hs := hs.perm List.perm_append_comm; obtain ⟨kk4, ii4, tt4, NA4, nc4, ns4, IA4, ic4, xs4⟩ := x4)) | refine LW_pure TOK rfl ?_ | (refine LW_alloc TOK hs rfl rfl ?_; clear hs; intro _ w hs)) | (with_reducible first | refine then_n ?_ | refine CW_seq ?_ | refine CW_region ?_)))
  rename_i b1 _ _ _ _ b5 _ _ _ _ _ b8 _ _ b11 _
  replace hs : Sat V w (Cl b11 [.int .i64 kk4, .int .i64 ii4, sv tt4, .slice NA4 ns4.length nc4, .slice IA4 xs4.length ic4] 31 :: Cl b8 [.int .i64 kk3, .int .i64 ii3, sv tt3, .slice NA3 ns3.length nc3, .slice IA3 xs3.length ic3] 31 :: ClM bi (inL.flatMap eB) 5 :: Cl b5 [.int .i64 kk2, .int .i64 ii2, sv tt2, .slice NA2 ns2.length nc2, .slice IA2 xs2.length ic2] 31 :: RowOf eB 5 1 A2 c2 wantL :: Cl b1 [.int .i64 kk, .int .i64 ii, sv tt, .slice NA0 ns0.length nc0, .slice IA0 xs0.length ic0] 31 :: ((R2 ++ R3) ++ R4)) := hs
  have hx2 : ∀ w, Sat V w (Cl b11 [.int .i64 kk4, .int .i64 ii4, sv tt4, .slice NA4 ns4.length nc4, .slice IA4 xs4.length ic4] 31 :: Cl b8 [.int .i64 kk3, .int .i64 ii3, sv tt3, .slice NA3 ns3.length nc3, .slice IA3 xs3.length ic3] 31 :: ClM bi (inL.flatMap eB) 5 :: Cl b5 [.int .i64 kk2, .int .i64 ii2, sv tt2, .slice NA2 ns2.length nc2, .slice IA2 xs2.length ic2] 31 :: RowOf eB 5 1 A2 c2 wantL :: Cl b1 [.int .i64 kk, .int .i64 ii, sv tt, .slice NA0 ns0.length nc0, .slice IA0 xs0.length ic0] 31 :: ((R2 ++ R3) ++ R4)) → RdV w (RV.mk kk2 ii2 tt2 NA2 nc2 ns2 IA2 ic2 xs2) := fun w hs => rdV_of _ (Cl b11 [.int .i64 kk4, .int .i64 ii4, sv tt4, .slice NA4 ns4.length nc4, .slice IA4 xs4.length ic4] 31 :: Cl b8 [.int .i64 kk3, .int .i64 ii3, sv tt3, .slice NA3 ns3.length nc3, .slice IA3 xs3.length ic3] 31 :: ClM bi (inL.flatMap eB) 5 :: Cl b5 [.int .i64 kk2, .int .i64 ii2, sv tt2, .slice NA2 ns2.length nc2, .slice IA2 xs2.length ic2] 31 :: RowOf eB 5 1 A2 c2 wantL :: Cl b1 [.int .i64 kk, .int .i64 ii, sv tt, .slice NA0 ns0.length nc0, .slice IA0 xs0.length ic0] 31 :: (R3 ++ R4)) (by rw [hR2]; exact hs.perm (by classical exact List.perm_iff_count.2 fun x => by simp only [List.count_append, List.count_cons, List.count_nil]; ac_rfl))
  have hx3 : ∀ w, Sat V w (Cl b11 [.int .i64 kk4, .int .i64 ii4, sv tt4, .slice NA4 ns4.length nc4, .slice IA4 xs4.length ic4] 31 :: Cl b8 [.int .i64 kk3, .int .i64 ii3, sv tt3, .slice NA3 ns3.length nc3, .slice IA3 xs3.length ic3] 31 :: ClM bi (inL.flatMap eB) 5 :: Cl b5 [.int .i64 kk2, .int .i64 ii2, sv tt2, .slice NA2 ns2.length nc2, .slice IA2 xs2.length ic2] 31 :: RowOf eB 5 1 A2 c2 wantL :: Cl b1 [.int .i64 kk, .int .i64 ii, sv tt, .slice NA0 ns0.length nc0, .slice IA0 xs0.length ic0] 31 :: ((R2 ++ R3) ++ R4)) → RdV w (RV.mk kk3 ii3 tt3 NA3 nc3 ns3 IA3 ic3 xs3) := fun w hs => rdV_of _ (Cl b11 [.int .i64 kk4, .int .i64 ii4, sv tt4, .slice NA4 ns4.length nc4, .slice IA4 xs4.length ic4] 31 :: Cl b8 [.int .i64 kk3, .int .i64 ii3, sv tt3, .slice NA3 ns3.length nc3, .slice IA3 xs3.length ic3] 31 :: ClM bi (inL.flatMap eB) 5 :: Cl b5 [.int .i64 kk2, .int .i64 ii2, sv tt2, .slice NA2 ns2.length nc2, .slice IA2 xs2.length ic2] 31 :: RowOf eB 5 1 A2 c2 wantL :: Cl b1 [.int .i64 kk, .int .i64 ii, sv tt, .slice NA0 ns0.length nc0, .slice IA0 xs0.length ic0] 31 :: (R2 ++ R4)) (by rw [hR3]; exact hs.perm (by classical exact List.perm_iff_count.2 fun x => by simp only [List.count_append, List.count_cons, List.count_nil]; ac_rfl))
  have hx4 : ∀ w, Sat V w (Cl b11 [.int .i64 kk4, .int .i64 ii4, sv tt4, .slice NA4 ns4.length nc4, .slice IA4 xs4.length ic4] 31 :: Cl b8 [.int .i64 kk3, .int .i64 ii3, sv tt3, .slice NA3 ns3.length nc3, .slice IA3 xs3.length ic3] 31 :: ClM bi (inL.flatMap eB) 5 :: Cl b5 [.int .i64 kk2, .int .i64 ii2, sv tt2, .slice NA2 ns2.length nc2, .slice IA2 xs2.length ic2] 31 :: RowOf eB 5 1 A2 c2 wantL :: Cl b1 [.int .i64 kk, .int .i64 ii, sv tt, .slice NA0 ns0.length nc0, .slice IA0 xs0.length ic0] 31 :: ((R2 ++ R3) ++ R4)) → RdV w (RV.mk kk4 ii4 tt4 NA4 nc4 ns4 IA4 ic4 xs4) := fun w hs => rdV_of _ (Cl b11 [.int .i64 kk4, .int .i64 ii4, sv tt4, .slice NA4 ns4.length nc4, .slice IA4 xs4.length ic4] 31 :: Cl b8 [.int .i64 kk3, .int .i64 ii3, sv tt3, .slice NA3 ns3.length nc3, .slice IA3 xs3.length ic3] 31 :: ClM bi (inL.flatMap eB) 5 :: Cl b5 [.int .i64 kk2, .int .i64 ii2, sv tt2, .slice NA2 ns2.length nc2, .slice IA2 xs2.length ic2] 31 :: RowOf eB 5 1 A2 c2 wantL :: Cl b1 [.int .i64 kk, .int .i64 ii, sv tt, .slice NA0 ns0.length nc0, .slice IA0 xs0.length ic0] 31 :: (R2 ++ R3)) (by rw [hR4]; exact hs.perm (by classical exact List.perm_iff_count.2 fun x => by simp only [List.count_append, List.count_cons, List.count_nil]; ac_rfl))
  (repeat' (first | (refine isLW ?_; first | refine LW_nil ?_ | (refine isLg ?_; first | refine LW_take rfl ?_) | (refine isLload ?_; first | refine LW_loadCAE 0 [.int .i64 kk4, .int .i64 ii4, sv tt4, .slice NA4 ns4.length nc4, .slice IA4 xs4.length ic4] TOK hs rfl rfl rfl rfl (Nat.le_of_ble_eq_true rfl) rfl ?_ | refine LW_loadCAE 3 [.int .i64 kk2, .int .i64 ii2, sv tt2, .slice NA2 ns2.length nc2, .slice IA2 xs2.length ic2] TOK hs rfl rfl rfl rfl (Nat.le_of_ble_eq_true rfl) rfl ?_ | refine LW_loadCAE 1 [.int .i64 kk3, .int .i64 ii3, sv tt3, .slice NA3 ns3.length nc3, .slice IA3 xs3.length ic3] TOK hs rfl rfl rfl rfl (Nat.le_of_ble_eq_true rfl) rfl ?_) | (refine isLcall ?_; first | (refine LW_call (cap := []) rfl rfl ent12 (num_call _ 0 (by omega) (by omega)) ?_; rintro _ w2 ⟨rfl, rfl⟩) | (refine LW_call (cap := []) rfl rfl ent19 (same_call _ wantL wantL _ _ _ _ (hs.rd 4 rfl) (hr1.of hs)) ?_; rintro _ w2 ⟨rfl, hs2⟩; rw [decide_eq_true (rfl : wantL = wantL)]; replace hs := hs.and0 hs2; clear hs2) | (refine LW_call (cap := []) rfl rfl ent14 (sameV_call (hx2 _ hs) (RV.mk kk4 ii4 tt4 NA4 nc4 ns4 IA4 ic4 xs4) [] _ (hx4 _ hs) (by rw [hx2j, hx4j, hxj, f_order]; rfl) (by rw [hx2j]; exact f_sm2) (Sat.start _)) ?_; rintro _ w2 ⟨rfl, hs2⟩; replace hs := hs.and0 hs2; clear hs2) | (refine LW_call (cap := []) rfl rfl ent14 (sameV_call (hx3 _ hs) (RV.mk kk4 ii4 tt4 NA4 nc4 ns4 IA4 ic4 xs4) [] _ (hx4 _ hs) (by rw [hx3j, hx4j, hxj, f_order]; rfl) (by rw [hx3j]; exact f_sm2) (Sat.start _)) ?_; rintro _ w2 ⟨rfl, hs2⟩; replace hs := hs.and0 hs2; clear hs2) | (refine LW_call (cap := []) rfl rfl ent30 (both_call (tabs_of hUV hs)) ?_; rintro _ w2 ⟨rfl, hs2⟩; replace hs := hs.and0 hs2; clear hs2)) | (refine isLbin ?_; first | (refine LW_cmp rfl (fun _ => ?_) (fun _ => ?_) <;> try (exfalso; omega))) | refine LW_pure TOK rfl ?_) | (with_reducible first | refine then_n ?_ | refine CW_seq ?_ | refine CW_region ?_ | refine CW_skip ?_ | refine CW_ret ?_) | refine CW_false rfl ?_ | refine RET1 Tryd.results13 rfl ?_))
  exact ⟨rfl, (hV.andThen hs).firsts 0⟩
end
end Go.Proofs.YtbmeafeojcgndaaDoor
