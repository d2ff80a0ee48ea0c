/- The document's disk; walks: refused. -/
import Derived.Test.YtoodgenbcfdloaaQ10
set_option linter.unusedVariables false
set_option linter.unusedSimpArgs false
namespace Go.Proofs.Ytoodgenbcfdloaa
open Go Go.Sl Go.RowKit
set_option maxRecDepth 100000
attribute [local irreducible] CW LW DW FR DP Calls

/-- How many calls are left, as the document tells it. -/
def leftI : Option Nat → Int
  | none => -1
  | some n => n
/-- A value of the document that tells a disk. -/
structure RepK (D : DS) (k : RDk) : Prop where
  q : k.q = D.quota
  rep : Rep D k.S
  left : k.left = leftI D.left
  down : k.down = D.down
/-- What the walks of a disk ask for. -/
structure KH (W : World) (D : DS) (k : RDk) (pool : List HProp) : Prop where
  rd : RdS W k.S
  ins : InS pool k.S
  repk : RepK D k
  good : Good D
  fs : D.fs.length ≤ 1099511627776
  now : D.now.length ≤ 1099511627776
  chs : D.chs.length ≤ 1099511627776
  lft : leftI D.left ≤ 9223372036854775807
section
variable {W : World} {D : DS} {k : RDk} {pool : List HProp} {o : RAct}
set_option maxHeartbeats 4000000 in
theorem refused1 (h : KH W D k pool) (hd : D.down = false) (hk : o.kind = 1) (hdl : o.data.length ≤ 4611686018427387904) (hal : o.a.length ≤ 140737488355328) (hbl : o.b.length ≤ 140737488355328) : Calls Try.prog 93 [Value.agg (eK k).toArray, .agg (eA o).toArray].toArray W (Ret fun v w' => v = .int .i64 (refC D 1 o.a o.b o.n o.data) ∧ Sat W w' []) := by
  refine Calls_of Try.func93 rfl 77 Try.ntmps93 rfl ?_
  have hs := Sat.start W
  obtain ⟨rd, ins, ⟨rq, rep, rleft, rdown⟩, good, hfs, hnow, hchs, _⟩ := h
  have hna : k.S.na.length ≤ 1099511627776 := by rw [rep.na]; exact hnow
  have hth : k.S.th.length ≤ 1099511627776 := by rw [rep.len]; exact hfs
  have rdn := rd.na
  have rdt := rd.th
  have htk : takenT k.S.th = D.taken := rep.taken good
  have hroom := good.room
  have hquota := good.quota
  have hfree : D.free = (D.quota : Int) - (takenT k.S.th : Int) := by unfold DS.free; rw [if_neg (by simp [hd]), htk]
  unfold eA
  rw [hk]
  cases hp : pathB o.a
  · have e : refC D 1 o.a o.b o.n o.data = 61 := by simp [refC, hp]
    rw [e]
    (repeat' (first | (refine isLW ?_; first | refine LW_nil ?_ | (refine isLload ?_; first | refine LW_loadC 0 TOK hs rfl rfl rfl rfl rfl ?_) | (refine isLcall ?_; first | (refine LW_call (cap := []) rfl rfl ent61 (rpath_call _ o.a hal) ?_; rintro _ w2 ⟨rfl, hs2⟩; replace hs := hs.and0 hs2; clear hs2; rw [hp])) | (refine isLbin ?_; first | (refine LW_cmp rfl (fun _ => ?_) (fun _ => ?_) <;> try (exfalso; omega))) | refine LW_pure TOK rfl ?_ | (refine LW_box hs rfl rfl ?_; clear hs; intro _ w hs)) | (with_reducible first | refine then_n ?_ | refine CW_seq ?_ | refine CW_region ?_ | refine CW_skip ?_ | refine CW_ret ?_ | refine then_r ?_) | refine CW_true rfl ?_ | refine CW_false rfl ?_ | refine RET1 Try.results93 rfl ?_))
    exact ⟨rfl, Sat.keeps hs []⟩
  rcases placeE_fnd (l := k.S.na) (n := o.a) with ⟨g1, g0⟩ | ⟨j, g1, g2, g3⟩
  · have g1x := g1
    rw [rep.na] at g0
    have e : refC D 1 o.a o.b o.n o.data = 0 := by simp [refC, hp, g0]
    rw [e]
    (repeat' (first | (refine isLW ?_; first | refine LW_nil ?_ | (refine isLload ?_; first | refine LW_loadCAE 1 (eS k.S) TOK hs rfl rfl rfl rfl (Nat.le_of_ble_eq_true rfl) rfl ?_ | refine LW_loadC 0 TOK hs rfl rfl rfl rfl rfl ?_ | refine LW_loadC 1 TOK hs rfl rfl rfl rfl rfl ?_) | (refine isLstore ?_; first | (refine LW_storeCA 0 TOK hs rfl rfl rfl rfl rfl (eS_ok.2 k.S) rfl (Nat.le_of_ble_eq_true rfl) ?_; clear hs; intro w hs)) | (refine isLcall ?_; first | (refine LW_call (cap := []) rfl rfl ent61 (rpath_call _ o.a hal) ?_; rintro _ w2 ⟨rfl, hs2⟩; replace hs := hs.and0 hs2; clear hs2; rw [hp]) | (refine LW_call (cap := []) rfl rfl ent84 (rfind_call _ k.S.na k.S.NA k.S.nc o.a (rdn.of hs) (by omega)) ?_; rintro _ w2 ⟨rfl, hs2⟩; replace hs := hs.and0 hs2; clear hs2; rw [g1]; dsimp only [optE])) | (refine isLbin ?_; first | (refine LW_cmp rfl (fun _ => ?_) (fun _ => ?_) <;> try (exfalso; omega))) | refine LW_pure TOK rfl ?_ | (refine LW_box hs rfl rfl ?_; clear hs; intro _ w hs) | (refine LW_alloc TOK hs rfl rfl ?_; clear hs; intro _ w hs)) | (with_reducible first | refine then_n ?_ | refine CW_seq ?_ | refine CW_region ?_ | refine CW_skip ?_ | refine CW_ret ?_ | refine then_r ?_) | refine CW_true rfl ?_ | refine CW_false rfl ?_ | refine RET1 Try.results93 rfl ?_))
    exact ⟨rfl, Sat.keeps hs []⟩
  · rw [rep.na] at g3
    have hjr : Go.Sl.rd k.S.na (j : Int) = k.S.na[j] := rd_at g2
    have hgm : k.S.na[j] ∈ D.now := by rw [← rep.na]; exact List.getElem_mem g2
    have hmem : (Go.Sl.rd k.S.na (j : Int)).2 ∈ D.now.map (·.2) := by
      rw [hjr]; exact List.mem_map.2 ⟨k.S.na[j], hgm, rfl⟩
    have hi2 : (D.now.getD j default).2 = (Go.Sl.rd k.S.na (j : Int)).2 := by
      rw [hjr]
      have : D.now = k.S.na := rep.na.symm
      rw [this]; simp [List.getD, g2]
    rw [hi2] at g3
    obtain ⟨i, hi⟩ : ∃ i, (Go.Sl.rd k.S.na (j : Int)).2 = i := ⟨_, rfl⟩
    rw [hi] at g3 hmem
    have hids : i ∈ D.ids := good.subNow hmem
    obtain ⟨hk2, e1, e2, e3⟩ := rep.get good hids
    have hlt : (Go.Sl.rd k.S.na (j : Int)).2 < k.S.th.length := by rw [hi]; exact hk2
    have hbd := dat_bd good hids
    have hdd : (Go.Sl.rd k.S.th ((Go.Sl.rd k.S.na (j : Int)).2 : Int)).d.length = (D.dat i).length := by rw [hi, rd_at hk2, e1]
    have e : refC D 1 o.a o.b o.n o.data = 62 := by simp [refC, hp, g3]
    rw [e]
    (repeat' (first | (refine isLW ?_; first | refine LW_nil ?_ | (refine isLload ?_; first | refine LW_loadCAE 1 (eS k.S) TOK hs rfl rfl rfl rfl (Nat.le_of_ble_eq_true rfl) rfl ?_ | refine LW_loadC 0 TOK hs rfl rfl rfl rfl rfl ?_ | refine LW_loadC 1 TOK hs rfl rfl rfl rfl rfl ?_) | (refine isLstore ?_; first | (refine LW_storeCA 0 TOK hs rfl rfl rfl rfl rfl (eS_ok.2 k.S) rfl (Nat.le_of_ble_eq_true rfl) ?_; clear hs; intro w hs)) | (refine isLcall ?_; first | (refine LW_call (cap := []) rfl rfl ent61 (rpath_call _ o.a hal) ?_; rintro _ w2 ⟨rfl, hs2⟩; replace hs := hs.and0 hs2; clear hs2; rw [hp]) | (refine LW_call (cap := []) rfl rfl ent84 (rfind_call _ k.S.na k.S.NA k.S.nc o.a (rdn.of hs) (by omega)) ?_; rintro _ w2 ⟨rfl, hs2⟩; replace hs := hs.and0 hs2; clear hs2; rw [g1]; dsimp only [optE])) | (refine isLbin ?_; first | (refine LW_cmp rfl (fun _ => ?_) (fun _ => ?_) <;> try (exfalso; omega))) | refine LW_pure TOK rfl ?_ | (refine LW_box hs rfl rfl ?_; clear hs; intro _ w hs) | (refine LW_alloc TOK hs rfl rfl ?_; clear hs; intro _ w hs)) | (with_reducible first | refine then_n ?_ | refine CW_seq ?_ | refine CW_region ?_ | refine CW_skip ?_ | refine CW_ret ?_ | refine then_r ?_) | refine CW_true rfl ?_ | refine CW_false rfl ?_ | refine RET1 Try.results93 rfl ?_))
    exact ⟨rfl, Sat.keeps hs []⟩
set_option maxHeartbeats 4000000 in
theorem refused2 (h : KH W D k pool) (hd : D.down = false) (hk : o.kind = 2) (hdl : o.data.length ≤ 4611686018427387904) (hal : o.a.length ≤ 140737488355328) (hbl : o.b.length ≤ 140737488355328) : Calls Try.prog 93 [Value.agg (eK k).toArray, .agg (eA o).toArray].toArray W (Ret fun v w' => v = .int .i64 (refC D 2 o.a o.b o.n o.data) ∧ Sat W w' []) := by
  refine Calls_of Try.func93 rfl 77 Try.ntmps93 rfl ?_
  have hs := Sat.start W
  obtain ⟨rd, ins, ⟨rq, rep, rleft, rdown⟩, good, hfs, hnow, hchs, _⟩ := h
  have hna : k.S.na.length ≤ 1099511627776 := by rw [rep.na]; exact hnow
  have hth : k.S.th.length ≤ 1099511627776 := by rw [rep.len]; exact hfs
  have rdn := rd.na
  have rdt := rd.th
  have htk : takenT k.S.th = D.taken := rep.taken good
  have hroom := good.room
  have hquota := good.quota
  have hfree : D.free = (D.quota : Int) - (takenT k.S.th : Int) := by unfold DS.free; rw [if_neg (by simp [hd]), htk]
  unfold eA
  rw [hk]
  cases hp : pathB o.a
  · have e : refC D 2 o.a o.b o.n o.data = 61 := by simp [refC, hp]
    rw [e]
    (repeat' (first | (refine isLW ?_; first | refine LW_nil ?_ | (refine isLload ?_; first | refine LW_loadC 0 TOK hs rfl rfl rfl rfl rfl ?_) | (refine isLcall ?_; first | (refine LW_call (cap := []) rfl rfl ent61 (rpath_call _ o.a hal) ?_; rintro _ w2 ⟨rfl, hs2⟩; replace hs := hs.and0 hs2; clear hs2; rw [hp])) | (refine isLbin ?_; first | (refine LW_cmp rfl (fun _ => ?_) (fun _ => ?_) <;> try (exfalso; omega))) | refine LW_pure TOK rfl ?_ | (refine LW_box hs rfl rfl ?_; clear hs; intro _ w hs)) | (with_reducible first | refine then_n ?_ | refine CW_seq ?_ | refine CW_region ?_ | refine CW_skip ?_ | refine CW_ret ?_ | refine then_r ?_) | refine CW_true rfl ?_ | refine CW_false rfl ?_ | refine RET1 Try.results93 rfl ?_))
    exact ⟨rfl, Sat.keeps hs []⟩
  rcases placeE_fnd (l := k.S.na) (n := o.a) with ⟨g1, g0⟩ | ⟨j, g1, g2, g3⟩
  · have g1x := g1
    rw [rep.na] at g0
    have e : refC D 2 o.a o.b o.n o.data = 63 := by simp [refC, hp, g0]
    rw [e]
    (repeat' (first | (refine isLW ?_; first | refine LW_nil ?_ | (refine isLload ?_; first | refine LW_loadCAE 1 (eS k.S) TOK hs rfl rfl rfl rfl (Nat.le_of_ble_eq_true rfl) rfl ?_ | refine LW_loadC 0 TOK hs rfl rfl rfl rfl rfl ?_ | refine LW_loadC 1 TOK hs rfl rfl rfl rfl rfl ?_) | (refine isLstore ?_; first | (refine LW_storeCA 0 TOK hs rfl rfl rfl rfl rfl (eS_ok.2 k.S) rfl (Nat.le_of_ble_eq_true rfl) ?_; clear hs; intro w hs)) | (refine isLcall ?_; first | (refine LW_call (cap := []) rfl rfl ent61 (rpath_call _ o.a hal) ?_; rintro _ w2 ⟨rfl, hs2⟩; replace hs := hs.and0 hs2; clear hs2; rw [hp]) | (refine LW_call (cap := []) rfl rfl ent84 (rfind_call _ k.S.na k.S.NA k.S.nc o.a (rdn.of hs) (by omega)) ?_; rintro _ w2 ⟨rfl, hs2⟩; replace hs := hs.and0 hs2; clear hs2; rw [g1]; dsimp only [optE])) | (refine isLbin ?_; first | (refine LW_cmp rfl (fun _ => ?_) (fun _ => ?_) <;> try (exfalso; omega))) | refine LW_pure TOK rfl ?_ | (refine LW_box hs rfl rfl ?_; clear hs; intro _ w hs) | (refine LW_alloc TOK hs rfl rfl ?_; clear hs; intro _ w hs)) | (with_reducible first | refine then_n ?_ | refine CW_seq ?_ | refine CW_region ?_ | refine CW_skip ?_ | refine CW_ret ?_ | refine then_r ?_) | refine CW_true rfl ?_ | refine CW_false rfl ?_ | refine RET1 Try.results93 rfl ?_))
    exact ⟨rfl, Sat.keeps hs []⟩
  · rw [rep.na] at g3
    have hjr : Go.Sl.rd k.S.na (j : Int) = k.S.na[j] := rd_at g2
    have hgm : k.S.na[j] ∈ D.now := by rw [← rep.na]; exact List.getElem_mem g2
    have hmem : (Go.Sl.rd k.S.na (j : Int)).2 ∈ D.now.map (·.2) := by
      rw [hjr]; exact List.mem_map.2 ⟨k.S.na[j], hgm, rfl⟩
    have hi2 : (D.now.getD j default).2 = (Go.Sl.rd k.S.na (j : Int)).2 := by
      rw [hjr]
      have : D.now = k.S.na := rep.na.symm
      rw [this]; simp [List.getD, g2]
    rw [hi2] at g3
    obtain ⟨i, hi⟩ : ∃ i, (Go.Sl.rd k.S.na (j : Int)).2 = i := ⟨_, rfl⟩
    rw [hi] at g3 hmem
    have hids : i ∈ D.ids := good.subNow hmem
    obtain ⟨hk2, e1, e2, e3⟩ := rep.get good hids
    have hlt : (Go.Sl.rd k.S.na (j : Int)).2 < k.S.th.length := by rw [hi]; exact hk2
    have hbd := dat_bd good hids
    have hdd : (Go.Sl.rd k.S.th ((Go.Sl.rd k.S.na (j : Int)).2 : Int)).d.length = (D.dat i).length := by rw [hi, rd_at hk2, e1]
    have e : refC D 2 o.a o.b o.n o.data = if D.free < o.data.length then 64 else 0 := by simp [refC, hp, g3]
    rw [e]
    by_cases hn1 : D.free < o.data.length
    · rw [if_pos hn1]
      (repeat' (first | (refine isDe rfl ?_; refine DP_eff rfl rfl (by repeat' (first | exact Inv.nil | refine Inv.keepO 0 hs rfl ?_ | refine Inv.keepC 0 hs rfl rfl ?_ | refine Inv.keepC 1 hs rfl rfl ?_ | refine Inv.keepC 2 hs rfl rfl ?_ | refine Inv.gone (by kernel_rfl) ?_)) ?_) | (refine isDnil ?_; refine DP_end (by repeat' (first | exact Inv.nil | refine Inv.keepO 0 hs rfl ?_ | refine Inv.keepC 0 hs rfl rfl ?_ | refine Inv.keepC 1 hs rfl rfl ?_ | refine Inv.keepC 2 hs rfl rfl ?_ | refine Inv.gone (by kernel_rfl) ?_)) ?_) | (refine isLW ?_; first | refine LW_nil ?_ | (refine isLg ?_; first | refine LW_take rfl ?_) | (refine isLload ?_; first | refine LW_loadCAE 1 (eS k.S) TOK hs rfl rfl rfl rfl (Nat.le_of_ble_eq_true rfl) rfl ?_ | refine LW_loadC 0 TOK hs rfl rfl rfl rfl rfl ?_ | refine LW_loadC 1 TOK hs rfl rfl rfl rfl rfl ?_) | (refine isLstore ?_; first | (refine LW_storeCA 0 TOK hs rfl rfl rfl rfl rfl (eS_ok.2 k.S) rfl (Nat.le_of_ble_eq_true rfl) ?_; clear hs; intro w hs)) | (refine isLcall ?_; first | (refine LW_call (cap := []) rfl rfl ent61 (rpath_call _ o.a hal) ?_; rintro _ w2 ⟨rfl, hs2⟩; replace hs := hs.and0 hs2; clear hs2; rw [hp]) | (refine LW_call (cap := []) rfl rfl ent84 (rfind_call _ k.S.na k.S.NA k.S.nc o.a (rdn.of hs) (by omega)) ?_; rintro _ w2 ⟨rfl, hs2⟩; replace hs := hs.and0 hs2; clear hs2; rw [g1]; dsimp only [optE]) | (refine LW_call (cap := []) rfl rfl ent101 (taken_call _ k.S (rdt.of hs) (by omega) (by omega)) ?_; rintro _ w2 ⟨rfl, hs2⟩; replace hs := hs.and0 hs2; clear hs2)) | (refine isLbin ?_; first | (refine LW_cmp rfl (fun _ => ?_) (fun _ => ?_) <;> try (exfalso; omega))) | refine LW_pure TOK rfl ?_ | (refine LW_box hs rfl rfl ?_; clear hs; intro _ w hs) | (refine LW_alloc TOK hs rfl rfl ?_; clear hs; intro _ w hs)) | (refine isDP ?_; first | (refine isDg rfl ?_; first | refine DP_pass rfl rfl rfl rfl ?_ | refine DP_passU (j' := 0) rfl rfl rfl rfl rfl ?_) | (refine isDload rfl ?_; first | refine DP_loadCA 0 (eS k.S) hs TOK rfl rfl rfl rfl rfl rfl rfl (Nat.le_of_ble_eq_true rfl) rfl (by repeat' (first | exact Inv.nil | refine Inv.keepO 0 hs rfl ?_ | refine Inv.keepC 0 hs rfl rfl ?_ | refine Inv.keepC 1 hs rfl rfl ?_ | refine Inv.keepC 2 hs rfl rfl ?_ | refine Inv.gone (by kernel_rfl) ?_)) ?_ | refine DP_loadC 1 hs TOK rfl rfl (by first | exact trivial | rfl) rfl rfl rfl rfl rfl ?_ ?_ | refine DP_loadC 2 hs TOK rfl rfl (by first | exact trivial | rfl) rfl rfl rfl rfl rfl ?_ ?_) | (refine isDbin rfl ?_; first | (refine DP_cmp rfl rfl (by first | exact trivial | rfl) rfl (fun _ => ?_) (fun _ => ?_) <;> try (exfalso; omega)) | refine DP_i64 rfl rfl (by first | exact trivial | rfl) rfl (by omega) (by omega) ?_) | refine DP_pure TOK rfl rfl (by first | exact trivial | rfl) rfl ?_) | (refine isI0 ?_; exact Inv.nil) | (refine isI1 ?_; first | refine Inv.keepC 1 hs rfl rfl ?_) | (with_reducible first | refine then_n ?_ | refine CW_seq ?_ | refine CW_region ?_ | refine CW_skip ?_ | refine CW_ret ?_ | refine then_r ?_) | refine CW_true rfl ?_ | refine CW_false rfl ?_ | (refine CW_drawP (id := 18) [] [0, 1, 2, 3, 4, 5, 6, 7, 8, 9, 10, 11, 12, 13, 14, 15, 16, 17, 18, 19, 20, 21, 22, 23, 24] mixed (by kernel_rfl) hs ?_; clear hs; intro hs) | (refine CW_drawP (id := 20) [10] [0, 1, 2, 3, 4, 5, 6, 7, 8, 9, 10, 11, 12, 13] mixed (by kernel_rfl) hs ?_; clear hs; intro hs) | refine RET1 Try.results93 rfl ?_))
      all_goals exact ⟨rfl, Sat.keeps hs []⟩
    · rw [if_neg hn1]
      (repeat' (first | (refine isDe rfl ?_; refine DP_eff rfl rfl (by repeat' (first | exact Inv.nil | refine Inv.keepO 0 hs rfl ?_ | refine Inv.keepC 0 hs rfl rfl ?_ | refine Inv.keepC 1 hs rfl rfl ?_ | refine Inv.keepC 2 hs rfl rfl ?_ | refine Inv.gone (by kernel_rfl) ?_)) ?_) | (refine isDnil ?_; refine DP_end (by repeat' (first | exact Inv.nil | refine Inv.keepO 0 hs rfl ?_ | refine Inv.keepC 0 hs rfl rfl ?_ | refine Inv.keepC 1 hs rfl rfl ?_ | refine Inv.keepC 2 hs rfl rfl ?_ | refine Inv.gone (by kernel_rfl) ?_)) ?_) | (refine isLW ?_; first | refine LW_nil ?_ | (refine isLg ?_; first | refine LW_take rfl ?_) | (refine isLload ?_; first | refine LW_loadCAE 1 (eS k.S) TOK hs rfl rfl rfl rfl (Nat.le_of_ble_eq_true rfl) rfl ?_ | refine LW_loadC 0 TOK hs rfl rfl rfl rfl rfl ?_ | refine LW_loadC 1 TOK hs rfl rfl rfl rfl rfl ?_) | (refine isLstore ?_; first | (refine LW_storeCA 0 TOK hs rfl rfl rfl rfl rfl (eS_ok.2 k.S) rfl (Nat.le_of_ble_eq_true rfl) ?_; clear hs; intro w hs)) | (refine isLcall ?_; first | (refine LW_call (cap := []) rfl rfl ent61 (rpath_call _ o.a hal) ?_; rintro _ w2 ⟨rfl, hs2⟩; replace hs := hs.and0 hs2; clear hs2; rw [hp]) | (refine LW_call (cap := []) rfl rfl ent84 (rfind_call _ k.S.na k.S.NA k.S.nc o.a (rdn.of hs) (by omega)) ?_; rintro _ w2 ⟨rfl, hs2⟩; replace hs := hs.and0 hs2; clear hs2; rw [g1]; dsimp only [optE]) | (refine LW_call (cap := []) rfl rfl ent101 (taken_call _ k.S (rdt.of hs) (by omega) (by omega)) ?_; rintro _ w2 ⟨rfl, hs2⟩; replace hs := hs.and0 hs2; clear hs2)) | (refine isLbin ?_; first | (refine LW_cmp rfl (fun _ => ?_) (fun _ => ?_) <;> try (exfalso; omega))) | refine LW_pure TOK rfl ?_ | (refine LW_box hs rfl rfl ?_; clear hs; intro _ w hs) | (refine LW_alloc TOK hs rfl rfl ?_; clear hs; intro _ w hs)) | (refine isDP ?_; first | (refine isDg rfl ?_; first | refine DP_pass rfl rfl rfl rfl ?_ | refine DP_passU (j' := 0) rfl rfl rfl rfl rfl ?_) | (refine isDload rfl ?_; first | refine DP_loadCA 0 (eS k.S) hs TOK rfl rfl rfl rfl rfl rfl rfl (Nat.le_of_ble_eq_true rfl) rfl (by repeat' (first | exact Inv.nil | refine Inv.keepO 0 hs rfl ?_ | refine Inv.keepC 0 hs rfl rfl ?_ | refine Inv.keepC 1 hs rfl rfl ?_ | refine Inv.keepC 2 hs rfl rfl ?_ | refine Inv.gone (by kernel_rfl) ?_)) ?_ | refine DP_loadC 1 hs TOK rfl rfl (by first | exact trivial | rfl) rfl rfl rfl rfl rfl ?_ ?_ | refine DP_loadC 2 hs TOK rfl rfl (by first | exact trivial | rfl) rfl rfl rfl rfl rfl ?_ ?_) | (refine isDbin rfl ?_; first | (refine DP_cmp rfl rfl (by first | exact trivial | rfl) rfl (fun _ => ?_) (fun _ => ?_) <;> try (exfalso; omega)) | refine DP_i64 rfl rfl (by first | exact trivial | rfl) rfl (by omega) (by omega) ?_) | refine DP_pure TOK rfl rfl (by first | exact trivial | rfl) rfl ?_) | (refine isI0 ?_; exact Inv.nil) | (refine isI1 ?_; first | refine Inv.keepC 1 hs rfl rfl ?_) | (with_reducible first | refine then_n ?_ | refine CW_seq ?_ | refine CW_region ?_ | refine CW_skip ?_ | refine CW_ret ?_) | refine CW_false rfl ?_ | (refine CW_drawP (id := 18) [] [0, 1, 2, 3, 4, 5, 6, 7, 8, 9, 10, 11, 12, 13, 14, 15, 16, 17, 18, 19, 20, 21, 22, 23, 24] mixed (by kernel_rfl) hs ?_; clear hs; intro hs) | (refine CW_drawP (id := 20) [10] [0, 1, 2, 3, 4, 5, 6, 7, 8, 9, 10, 11, 12, 13] mixed (by kernel_rfl) hs ?_; clear hs; intro hs) | refine RET1 Try.results93 rfl ?_))
      all_goals exact ⟨rfl, Sat.keeps hs []⟩
set_option maxHeartbeats 4000000 in
theorem refused3 (h : KH W D k pool) (hd : D.down = false) (hk : o.kind = 3) (hdl : o.data.length ≤ 4611686018427387904) (hal : o.a.length ≤ 140737488355328) (hbl : o.b.length ≤ 140737488355328) : Calls Try.prog 93 [Value.agg (eK k).toArray, .agg (eA o).toArray].toArray W (Ret fun v w' => v = .int .i64 (refC D 3 o.a o.b o.n o.data) ∧ Sat W w' []) := by
  refine Calls_of Try.func93 rfl 77 Try.ntmps93 rfl ?_
  have hs := Sat.start W
  obtain ⟨rd, ins, ⟨rq, rep, rleft, rdown⟩, good, hfs, hnow, hchs, _⟩ := h
  have hna : k.S.na.length ≤ 1099511627776 := by rw [rep.na]; exact hnow
  have hth : k.S.th.length ≤ 1099511627776 := by rw [rep.len]; exact hfs
  have rdn := rd.na
  have rdt := rd.th
  have htk : takenT k.S.th = D.taken := rep.taken good
  have hroom := good.room
  have hquota := good.quota
  have hfree : D.free = (D.quota : Int) - (takenT k.S.th : Int) := by unfold DS.free; rw [if_neg (by simp [hd]), htk]
  unfold eA
  rw [hk]
  cases hp : pathB o.a
  · have e : refC D 3 o.a o.b o.n o.data = 61 := by simp [refC, hp]
    rw [e]
    (repeat' (first | (refine isLW ?_; first | refine LW_nil ?_ | (refine isLload ?_; first | refine LW_loadC 0 TOK hs rfl rfl rfl rfl rfl ?_) | (refine isLcall ?_; first | (refine LW_call (cap := []) rfl rfl ent61 (rpath_call _ o.a hal) ?_; rintro _ w2 ⟨rfl, hs2⟩; replace hs := hs.and0 hs2; clear hs2; rw [hp])) | (refine isLbin ?_; first | (refine LW_cmp rfl (fun _ => ?_) (fun _ => ?_) <;> try (exfalso; omega))) | refine LW_pure TOK rfl ?_ | (refine LW_box hs rfl rfl ?_; clear hs; intro _ w hs)) | (with_reducible first | refine then_n ?_ | refine CW_seq ?_ | refine CW_region ?_ | refine CW_skip ?_ | refine CW_ret ?_ | refine then_r ?_) | refine CW_true rfl ?_ | refine CW_false rfl ?_ | refine RET1 Try.results93 rfl ?_))
    exact ⟨rfl, Sat.keeps hs []⟩
  rcases placeE_fnd (l := k.S.na) (n := o.a) with ⟨g1, g0⟩ | ⟨j, g1, g2, g3⟩
  · have g1x := g1
    rw [rep.na] at g0
    have e : refC D 3 o.a o.b o.n o.data = 63 := by simp [refC, hp, g0]
    rw [e]
    (repeat' (first | (refine isLW ?_; first | refine LW_nil ?_ | (refine isLload ?_; first | refine LW_loadCAE 1 (eS k.S) TOK hs rfl rfl rfl rfl (Nat.le_of_ble_eq_true rfl) rfl ?_ | refine LW_loadC 0 TOK hs rfl rfl rfl rfl rfl ?_ | refine LW_loadC 1 TOK hs rfl rfl rfl rfl rfl ?_) | (refine isLstore ?_; first | (refine LW_storeCA 0 TOK hs rfl rfl rfl rfl rfl (eS_ok.2 k.S) rfl (Nat.le_of_ble_eq_true rfl) ?_; clear hs; intro w hs)) | (refine isLcall ?_; first | (refine LW_call (cap := []) rfl rfl ent61 (rpath_call _ o.a hal) ?_; rintro _ w2 ⟨rfl, hs2⟩; replace hs := hs.and0 hs2; clear hs2; rw [hp]) | (refine LW_call (cap := []) rfl rfl ent84 (rfind_call _ k.S.na k.S.NA k.S.nc o.a (rdn.of hs) (by omega)) ?_; rintro _ w2 ⟨rfl, hs2⟩; replace hs := hs.and0 hs2; clear hs2; rw [g1]; dsimp only [optE])) | (refine isLbin ?_; first | (refine LW_cmp rfl (fun _ => ?_) (fun _ => ?_) <;> try (exfalso; omega))) | refine LW_pure TOK rfl ?_ | (refine LW_box hs rfl rfl ?_; clear hs; intro _ w hs) | (refine LW_alloc TOK hs rfl rfl ?_; clear hs; intro _ w hs)) | (with_reducible first | refine then_n ?_ | refine CW_seq ?_ | refine CW_region ?_ | refine CW_skip ?_ | refine CW_ret ?_ | refine then_r ?_) | refine CW_true rfl ?_ | refine CW_false rfl ?_ | refine RET1 Try.results93 rfl ?_))
    exact ⟨rfl, Sat.keeps hs []⟩
  · rw [rep.na] at g3
    have hjr : Go.Sl.rd k.S.na (j : Int) = k.S.na[j] := rd_at g2
    have hgm : k.S.na[j] ∈ D.now := by rw [← rep.na]; exact List.getElem_mem g2
    have hmem : (Go.Sl.rd k.S.na (j : Int)).2 ∈ D.now.map (·.2) := by
      rw [hjr]; exact List.mem_map.2 ⟨k.S.na[j], hgm, rfl⟩
    have hi2 : (D.now.getD j default).2 = (Go.Sl.rd k.S.na (j : Int)).2 := by
      rw [hjr]
      have : D.now = k.S.na := rep.na.symm
      rw [this]; simp [List.getD, g2]
    rw [hi2] at g3
    obtain ⟨i, hi⟩ : ∃ i, (Go.Sl.rd k.S.na (j : Int)).2 = i := ⟨_, rfl⟩
    rw [hi] at g3 hmem
    have hids : i ∈ D.ids := good.subNow hmem
    obtain ⟨hk2, e1, e2, e3⟩ := rep.get good hids
    have hlt : (Go.Sl.rd k.S.na (j : Int)).2 < k.S.th.length := by rw [hi]; exact hk2
    have hbd := dat_bd good hids
    have hdd : (Go.Sl.rd k.S.th ((Go.Sl.rd k.S.na (j : Int)).2 : Int)).d.length = (D.dat i).length := by rw [hi, rd_at hk2, e1]
    have e : refC D 3 o.a o.b o.n o.data = 0 := by simp [refC, hp, g3]
    rw [e]
    (repeat' (first | (refine isLW ?_; first | refine LW_nil ?_ | (refine isLg ?_; first | refine LW_pass rfl rfl ?_) | (refine isLload ?_; first | refine LW_loadCAE 1 (eS k.S) TOK hs rfl rfl rfl rfl (Nat.le_of_ble_eq_true rfl) rfl ?_ | refine LW_loadC 0 TOK hs rfl rfl rfl rfl rfl ?_ | refine LW_loadC 1 TOK hs rfl rfl rfl rfl rfl ?_) | (refine isLstore ?_; first | (refine LW_storeCA 0 TOK hs rfl rfl rfl rfl rfl (eS_ok.2 k.S) rfl (Nat.le_of_ble_eq_true rfl) ?_; clear hs; intro w hs)) | (refine isLcall ?_; first | (refine LW_call (cap := []) rfl rfl ent61 (rpath_call _ o.a hal) ?_; rintro _ w2 ⟨rfl, hs2⟩; replace hs := hs.and0 hs2; clear hs2; rw [hp]) | (refine LW_call (cap := []) rfl rfl ent84 (rfind_call _ k.S.na k.S.NA k.S.nc o.a (rdn.of hs) (by omega)) ?_; rintro _ w2 ⟨rfl, hs2⟩; replace hs := hs.and0 hs2; clear hs2; rw [g1]; dsimp only [optE])) | (refine isLbin ?_; first | (refine LW_cmp rfl (fun _ => ?_) (fun _ => ?_) <;> try (exfalso; omega))) | refine LW_pure TOK rfl ?_ | (refine LW_box hs rfl rfl ?_; clear hs; intro _ w hs) | (refine LW_alloc TOK hs rfl rfl ?_; clear hs; intro _ w hs)) | (refine isDP ?_; first | (refine isDnil ?_; first | refine DP_end ?_ ?_) | (refine isDe rfl ?_; first | refine DP_eff rfl rfl ?_ ?_) | (refine isDg rfl ?_; first | refine DP_pass rfl rfl rfl rfl ?_ | refine DP_passU (j' := 0) rfl rfl rfl rfl rfl ?_) | (refine isDload rfl ?_; first | refine DP_loadC 1 hs TOK rfl rfl (by first | exact trivial | rfl) rfl rfl rfl rfl rfl ?_ ?_) | (refine isDbin rfl ?_; first | (refine DP_cmp rfl rfl (by first | exact trivial | rfl) rfl (fun _ => ?_) (fun _ => ?_) <;> try (exfalso; omega))) | refine DP_pure TOK rfl rfl (by first | exact trivial | rfl) rfl ?_) | (refine isI0 ?_; exact Inv.nil) | (refine isI1 ?_; first | refine Inv.keepC 1 hs rfl rfl ?_) | (with_reducible first | refine then_n ?_ | refine CW_seq ?_ | refine CW_region ?_ | refine CW_skip ?_ | refine CW_ret ?_) | refine CW_false rfl ?_ | (refine CW_drawP (id := 18) [] [0, 1, 2, 3, 4, 5, 6, 7, 8, 9, 10, 11, 12, 13, 14, 15, 16, 17, 18, 19, 20, 21, 22, 23, 24] mixed (by kernel_rfl) hs ?_; clear hs; intro hs) | (refine CW_drawP (id := 20) [10] [0, 1, 2, 3, 4, 5, 6, 7, 8, 9, 10, 11, 12, 13] mixed (by kernel_rfl) hs ?_; clear hs; intro hs) | refine RET1 Try.results93 rfl ?_))
    exact ⟨rfl, Sat.keeps hs []⟩
set_option maxHeartbeats 4000000 in
theorem refused4 (h : KH W D k pool) (hd : D.down = false) (hk : o.kind = 4) (hdl : o.data.length ≤ 4611686018427387904) (hal : o.a.length ≤ 140737488355328) (hbl : o.b.length ≤ 140737488355328) : Calls Try.prog 93 [Value.agg (eK k).toArray, .agg (eA o).toArray].toArray W (Ret fun v w' => v = .int .i64 (refC D 4 o.a o.b o.n o.data) ∧ Sat W w' []) := by
  refine Calls_of Try.func93 rfl 77 Try.ntmps93 rfl ?_
  have hs := Sat.start W
  obtain ⟨rd, ins, ⟨rq, rep, rleft, rdown⟩, good, hfs, hnow, hchs, _⟩ := h
  have hna : k.S.na.length ≤ 1099511627776 := by rw [rep.na]; exact hnow
  have hth : k.S.th.length ≤ 1099511627776 := by rw [rep.len]; exact hfs
  have rdn := rd.na
  have rdt := rd.th
  have htk : takenT k.S.th = D.taken := rep.taken good
  have hroom := good.room
  have hquota := good.quota
  have hfree : D.free = (D.quota : Int) - (takenT k.S.th : Int) := by unfold DS.free; rw [if_neg (by simp [hd]), htk]
  unfold eA
  rw [hk]
  cases hp : pathB o.a
  · have e : refC D 4 o.a o.b o.n o.data = 61 := by simp [refC, hp]
    rw [e]
    (repeat' (first | (refine isLW ?_; first | refine LW_nil ?_ | (refine isLload ?_; first | refine LW_loadC 0 TOK hs rfl rfl rfl rfl rfl ?_) | (refine isLcall ?_; first | (refine LW_call (cap := []) rfl rfl ent61 (rpath_call _ o.a hal) ?_; rintro _ w2 ⟨rfl, hs2⟩; replace hs := hs.and0 hs2; clear hs2; rw [hp])) | (refine isLbin ?_; first | (refine LW_cmp rfl (fun _ => ?_) (fun _ => ?_) <;> try (exfalso; omega))) | refine LW_pure TOK rfl ?_ | (refine LW_box hs rfl rfl ?_; clear hs; intro _ w hs)) | (with_reducible first | refine then_n ?_ | refine CW_seq ?_ | refine CW_region ?_ | refine CW_skip ?_ | refine CW_ret ?_ | refine then_r ?_) | refine CW_true rfl ?_ | refine CW_false rfl ?_ | refine RET1 Try.results93 rfl ?_))
    exact ⟨rfl, Sat.keeps hs []⟩
  rcases placeE_fnd (l := k.S.na) (n := o.a) with ⟨g1, g0⟩ | ⟨j, g1, g2, g3⟩
  · have g1x := g1
    rw [rep.na] at g0
    have e : refC D 4 o.a o.b o.n o.data = 63 := by simp [refC, hp, g0]
    rw [e]
    (repeat' (first | (refine isLW ?_; first | refine LW_nil ?_ | (refine isLload ?_; first | refine LW_loadCAE 1 (eS k.S) TOK hs rfl rfl rfl rfl (Nat.le_of_ble_eq_true rfl) rfl ?_ | refine LW_loadC 0 TOK hs rfl rfl rfl rfl rfl ?_ | refine LW_loadC 1 TOK hs rfl rfl rfl rfl rfl ?_) | (refine isLstore ?_; first | (refine LW_storeCA 0 TOK hs rfl rfl rfl rfl rfl (eS_ok.2 k.S) rfl (Nat.le_of_ble_eq_true rfl) ?_; clear hs; intro w hs)) | (refine isLcall ?_; first | (refine LW_call (cap := []) rfl rfl ent61 (rpath_call _ o.a hal) ?_; rintro _ w2 ⟨rfl, hs2⟩; replace hs := hs.and0 hs2; clear hs2; rw [hp]) | (refine LW_call (cap := []) rfl rfl ent84 (rfind_call _ k.S.na k.S.NA k.S.nc o.a (rdn.of hs) (by omega)) ?_; rintro _ w2 ⟨rfl, hs2⟩; replace hs := hs.and0 hs2; clear hs2; rw [g1]; dsimp only [optE])) | (refine isLbin ?_; first | (refine LW_cmp rfl (fun _ => ?_) (fun _ => ?_) <;> try (exfalso; omega))) | refine LW_pure TOK rfl ?_ | (refine LW_box hs rfl rfl ?_; clear hs; intro _ w hs) | (refine LW_alloc TOK hs rfl rfl ?_; clear hs; intro _ w hs)) | (with_reducible first | refine then_n ?_ | refine CW_seq ?_ | refine CW_region ?_ | refine CW_skip ?_ | refine CW_ret ?_ | refine then_r ?_) | refine CW_true rfl ?_ | refine CW_false rfl ?_ | refine RET1 Try.results93 rfl ?_))
    exact ⟨rfl, Sat.keeps hs []⟩
  · rw [rep.na] at g3
    have hjr : Go.Sl.rd k.S.na (j : Int) = k.S.na[j] := rd_at g2
    have hgm : k.S.na[j] ∈ D.now := by rw [← rep.na]; exact List.getElem_mem g2
    have hmem : (Go.Sl.rd k.S.na (j : Int)).2 ∈ D.now.map (·.2) := by
      rw [hjr]; exact List.mem_map.2 ⟨k.S.na[j], hgm, rfl⟩
    have hi2 : (D.now.getD j default).2 = (Go.Sl.rd k.S.na (j : Int)).2 := by
      rw [hjr]
      have : D.now = k.S.na := rep.na.symm
      rw [this]; simp [List.getD, g2]
    rw [hi2] at g3
    obtain ⟨i, hi⟩ : ∃ i, (Go.Sl.rd k.S.na (j : Int)).2 = i := ⟨_, rfl⟩
    rw [hi] at g3 hmem
    have hids : i ∈ D.ids := good.subNow hmem
    obtain ⟨hk2, e1, e2, e3⟩ := rep.get good hids
    have hlt : (Go.Sl.rd k.S.na (j : Int)).2 < k.S.th.length := by rw [hi]; exact hk2
    have hbd := dat_bd good hids
    have hdd : (Go.Sl.rd k.S.th ((Go.Sl.rd k.S.na (j : Int)).2 : Int)).d.length = (D.dat i).length := by rw [hi, rd_at hk2, e1]
    have e : refC D 4 o.a o.b o.n o.data = if (o.n < 0 ∨ ((D.dat i).length : Int) < o.n) then 65 else 0 := by simp [refC, hp, g3]
    rw [e]
    by_cases hn0 : o.n < 0
    · rw [if_pos (.inl hn0)]
      (repeat' (first | (refine isLW ?_; first | refine LW_nil ?_ | (refine isLload ?_; first | refine LW_loadCAE 1 (eS k.S) TOK hs rfl rfl rfl rfl (Nat.le_of_ble_eq_true rfl) rfl ?_ | refine LW_loadC 0 TOK hs rfl rfl rfl rfl rfl ?_ | refine LW_loadC 1 TOK hs rfl rfl rfl rfl rfl ?_) | (refine isLstore ?_; first | (refine LW_storeCA 0 TOK hs rfl rfl rfl rfl rfl (eS_ok.2 k.S) rfl (Nat.le_of_ble_eq_true rfl) ?_; clear hs; intro w hs)) | (refine isLcall ?_; first | (refine LW_call (cap := []) rfl rfl ent61 (rpath_call _ o.a hal) ?_; rintro _ w2 ⟨rfl, hs2⟩; replace hs := hs.and0 hs2; clear hs2; rw [hp]) | (refine LW_call (cap := []) rfl rfl ent84 (rfind_call _ k.S.na k.S.NA k.S.nc o.a (rdn.of hs) (by omega)) ?_; rintro _ w2 ⟨rfl, hs2⟩; replace hs := hs.and0 hs2; clear hs2; rw [g1]; dsimp only [optE])) | (refine isLbin ?_; first | (refine LW_cmp rfl (fun _ => ?_) (fun _ => ?_) <;> try (exfalso; omega))) | refine LW_pure TOK rfl ?_ | (refine LW_box hs rfl rfl ?_; clear hs; intro _ w hs) | (refine LW_alloc TOK hs rfl rfl ?_; clear hs; intro _ w hs)) | (refine isDP ?_; first | (refine isDnil ?_; first | refine DP_end ?_ ?_) | (refine isDg rfl ?_; first | refine DP_pass rfl rfl rfl rfl ?_) | (refine isDload rfl ?_; first | refine DP_loadC 1 hs TOK rfl rfl (by first | exact trivial | rfl) rfl rfl rfl rfl rfl ?_ ?_) | (refine isDbin rfl ?_; first | (refine DP_cmp rfl rfl (by first | exact trivial | rfl) rfl (fun _ => ?_) (fun _ => ?_) <;> try (exfalso; omega))) | refine DP_pure TOK rfl rfl (by first | exact trivial | rfl) rfl ?_) | (refine isI0 ?_; exact Inv.nil) | (refine isI1 ?_; first | refine Inv.keepC 1 hs rfl rfl ?_) | (with_reducible first | refine then_n ?_ | refine CW_seq ?_ | refine CW_region ?_ | refine CW_skip ?_ | refine CW_ret ?_ | refine then_r ?_) | refine CW_true rfl ?_ | refine CW_false rfl ?_ | (refine CW_drawP (id := 18) [] [0, 1, 2, 3, 4, 5, 6, 7, 8, 9, 10, 11, 12, 13, 14, 15, 16, 17, 18, 19, 20, 21, 22, 23, 24] mixed (by kernel_rfl) hs ?_; clear hs; intro hs) | refine RET1 Try.results93 rfl ?_))
      all_goals exact ⟨rfl, Sat.keeps hs []⟩
    by_cases hn1 : ((D.dat i).length : Int) < o.n
    · rw [if_pos (.inr hn1)]
      (repeat' (first | (refine isLW ?_; first | refine LW_nil ?_ | (refine isLload ?_; first | refine LW_loadCAE 1 (eS k.S) TOK hs rfl rfl rfl rfl (Nat.le_of_ble_eq_true rfl) rfl ?_ | refine LW_loadC 0 TOK hs rfl rfl rfl rfl rfl ?_ | refine LW_loadC 1 TOK hs rfl rfl rfl rfl rfl ?_) | (refine isLstore ?_; first | (refine LW_storeCA 0 TOK hs rfl rfl rfl rfl rfl (eS_ok.2 k.S) rfl (Nat.le_of_ble_eq_true rfl) ?_; clear hs; intro w hs)) | (refine isLcall ?_; first | (refine LW_call (cap := []) rfl rfl ent61 (rpath_call _ o.a hal) ?_; rintro _ w2 ⟨rfl, hs2⟩; replace hs := hs.and0 hs2; clear hs2; rw [hp]) | (refine LW_call (cap := []) rfl rfl ent84 (rfind_call _ k.S.na k.S.NA k.S.nc o.a (rdn.of hs) (by omega)) ?_; rintro _ w2 ⟨rfl, hs2⟩; replace hs := hs.and0 hs2; clear hs2; rw [g1]; dsimp only [optE])) | (refine isLbin ?_; first | (refine LW_cmp rfl (fun _ => ?_) (fun _ => ?_) <;> try (exfalso; omega))) | refine LW_pure TOK rfl ?_ | (refine LW_box hs rfl rfl ?_; clear hs; intro _ w hs) | (refine LW_alloc TOK hs rfl rfl ?_; clear hs; intro _ w hs)) | (refine isDP ?_; first | (refine isDnil ?_; first | refine DP_end ?_ ?_) | (refine isDload rfl ?_; first | refine DP_loadC 0 hs TOK rfl rfl (by first | exact trivial | rfl) rfl rfl rfl rfl rfl ?_ ?_ | refine DP_loadC 1 hs TOK rfl rfl (by first | exact trivial | rfl) rfl rfl rfl rfl rfl ?_ ?_ | refine DP_loadRd rdn (fun _ => rfl) hs TOK rfl rfl (by first | exact trivial | rfl) rfl (by assumption) rfl rfl (by omega) (by omega) rfl ?_ ?_ | refine DP_loadRd rdt (fun _ => rfl) hs TOK rfl rfl (by first | exact trivial | rfl) rfl (by assumption) rfl rfl (by omega) (by omega) rfl ?_ ?_) | (refine isDidx rfl ?_; first | (refine DP_indexRd (rdn.of hs) TOK rfl rfl (by first | exact trivial | rfl) rfl rfl rfl rfl rfl (by omega) (by omega) ?_; intro _ _ _) | (refine DP_indexRd (rdt.of hs) TOK rfl rfl (by first | exact trivial | rfl) rfl rfl rfl rfl rfl (by omega) (by omega) ?_; intro _ _ _)) | (refine isDbin rfl ?_; first | (refine DP_cmp rfl rfl (by first | exact trivial | rfl) rfl (fun _ => ?_) (fun _ => ?_) <;> try (exfalso; omega))) | refine DP_pure TOK rfl rfl (by first | exact trivial | rfl) rfl ?_) | (refine isI0 ?_; exact Inv.nil) | (refine isI1 ?_; first | refine Inv.keepB hs ?_ | refine Inv.keepC 0 hs rfl rfl ?_ | refine Inv.keepC 1 hs rfl rfl ?_) | (with_reducible first | refine then_n ?_ | refine CW_seq ?_ | refine CW_region ?_ | refine CW_skip ?_ | refine CW_ret ?_ | refine then_r ?_) | refine CW_true rfl ?_ | refine CW_false rfl ?_ | (refine CW_drawP (id := 18) [] [0, 1, 2, 3, 4, 5, 6, 7, 8, 9, 10, 11, 12, 13, 14, 15, 16, 17, 18, 19, 20, 21, 22, 23, 24] mixed (by kernel_rfl) hs ?_; clear hs; intro hs) | refine RET1 Try.results93 rfl ?_))
      all_goals exact ⟨rfl, Sat.keeps hs []⟩
    · rw [if_neg (by omega)]
      (repeat' (first | (refine isLW ?_; first | refine LW_nil ?_ | (refine isLg ?_; first | refine LW_pass rfl rfl ?_) | (refine isLload ?_; first | refine LW_loadCAE 1 (eS k.S) TOK hs rfl rfl rfl rfl (Nat.le_of_ble_eq_true rfl) rfl ?_ | refine LW_loadC 0 TOK hs rfl rfl rfl rfl rfl ?_ | refine LW_loadC 1 TOK hs rfl rfl rfl rfl rfl ?_) | (refine isLstore ?_; first | (refine LW_storeCA 0 TOK hs rfl rfl rfl rfl rfl (eS_ok.2 k.S) rfl (Nat.le_of_ble_eq_true rfl) ?_; clear hs; intro w hs)) | (refine isLcall ?_; first | (refine LW_call (cap := []) rfl rfl ent61 (rpath_call _ o.a hal) ?_; rintro _ w2 ⟨rfl, hs2⟩; replace hs := hs.and0 hs2; clear hs2; rw [hp]) | (refine LW_call (cap := []) rfl rfl ent84 (rfind_call _ k.S.na k.S.NA k.S.nc o.a (rdn.of hs) (by omega)) ?_; rintro _ w2 ⟨rfl, hs2⟩; replace hs := hs.and0 hs2; clear hs2; rw [g1]; dsimp only [optE])) | (refine isLbin ?_; first | (refine LW_cmp rfl (fun _ => ?_) (fun _ => ?_) <;> try (exfalso; omega))) | refine LW_pure TOK rfl ?_ | (refine LW_box hs rfl rfl ?_; clear hs; intro _ w hs) | (refine LW_alloc TOK hs rfl rfl ?_; clear hs; intro _ w hs)) | (refine isDP ?_; first | (refine isDnil ?_; first | refine DP_end ?_ ?_) | (refine isDe rfl ?_; first | refine DP_eff rfl rfl ?_ ?_) | (refine isDg rfl ?_; first | refine DP_pass rfl rfl rfl rfl ?_) | (refine isDload rfl ?_; first | refine DP_loadC 0 hs TOK rfl rfl (by first | exact trivial | rfl) rfl rfl rfl rfl rfl ?_ ?_ | refine DP_loadC 1 hs TOK rfl rfl (by first | exact trivial | rfl) rfl rfl rfl rfl rfl ?_ ?_ | refine DP_loadRd rdn (fun _ => rfl) hs TOK rfl rfl (by first | exact trivial | rfl) rfl (by assumption) rfl rfl (by omega) (by omega) rfl ?_ ?_ | refine DP_loadRd rdt (fun _ => rfl) hs TOK rfl rfl (by first | exact trivial | rfl) rfl (by assumption) rfl rfl (by omega) (by omega) rfl ?_ ?_) | (refine isDidx rfl ?_; first | (refine DP_indexRd (rdn.of hs) TOK rfl rfl (by first | exact trivial | rfl) rfl rfl rfl rfl rfl (by omega) (by omega) ?_; intro _ _ _) | (refine DP_indexRd (rdt.of hs) TOK rfl rfl (by first | exact trivial | rfl) rfl rfl rfl rfl rfl (by omega) (by omega) ?_; intro _ _ _)) | (refine isDbin rfl ?_; first | (refine DP_cmp rfl rfl (by first | exact trivial | rfl) rfl (fun _ => ?_) (fun _ => ?_) <;> try (exfalso; omega))) | refine DP_pure TOK rfl rfl (by first | exact trivial | rfl) rfl ?_) | (refine isI0 ?_; exact Inv.nil) | (refine isI1 ?_; first | refine Inv.keepB hs ?_ | refine Inv.keepC 0 hs rfl rfl ?_ | refine Inv.keepC 1 hs rfl rfl ?_) | (with_reducible first | refine then_n ?_ | refine CW_seq ?_ | refine CW_region ?_ | refine CW_skip ?_ | refine CW_ret ?_) | refine CW_false rfl ?_ | (refine CW_drawP (id := 18) [] [0, 1, 2, 3, 4, 5, 6, 7, 8, 9, 10, 11, 12, 13, 14, 15, 16, 17, 18, 19, 20, 21, 22, 23, 24] mixed (by kernel_rfl) hs ?_; clear hs; intro hs) | (refine CW_drawP (id := 20) [10] [0, 1, 2, 3, 4, 5, 6, 7, 8, 9, 10, 11, 12, 13] mixed (by kernel_rfl) hs ?_; clear hs; intro hs) | refine RET1 Try.results93 rfl ?_))
      all_goals exact ⟨rfl, Sat.keeps hs []⟩
set_option maxHeartbeats 4000000 in
theorem refused5 (h : KH W D k pool) (hd : D.down = false) (hk : o.kind = 5) (hdl : o.data.length ≤ 4611686018427387904) (hal : o.a.length ≤ 140737488355328) (hbl : o.b.length ≤ 140737488355328) : Calls Try.prog 93 [Value.agg (eK k).toArray, .agg (eA o).toArray].toArray W (Ret fun v w' => v = .int .i64 (refC D 5 o.a o.b o.n o.data) ∧ Sat W w' []) := by
  refine Calls_of Try.func93 rfl 77 Try.ntmps93 rfl ?_
  have hs := Sat.start W
  obtain ⟨rd, ins, ⟨rq, rep, rleft, rdown⟩, good, hfs, hnow, hchs, _⟩ := h
  have hna : k.S.na.length ≤ 1099511627776 := by rw [rep.na]; exact hnow
  have hth : k.S.th.length ≤ 1099511627776 := by rw [rep.len]; exact hfs
  have rdn := rd.na
  have rdt := rd.th
  have htk : takenT k.S.th = D.taken := rep.taken good
  have hroom := good.room
  have hquota := good.quota
  have hfree : D.free = (D.quota : Int) - (takenT k.S.th : Int) := by unfold DS.free; rw [if_neg (by simp [hd]), htk]
  unfold eA
  rw [hk]
  cases hp : pathB o.a
  · have e : refC D 5 o.a o.b o.n o.data = 61 := by simp [refC, hp]
    rw [e]
    (repeat' (first | (refine isLW ?_; first | refine LW_nil ?_ | (refine isLload ?_; first | refine LW_loadC 0 TOK hs rfl rfl rfl rfl rfl ?_) | (refine isLcall ?_; first | (refine LW_call (cap := []) rfl rfl ent61 (rpath_call _ o.a hal) ?_; rintro _ w2 ⟨rfl, hs2⟩; replace hs := hs.and0 hs2; clear hs2; rw [hp])) | (refine isLbin ?_; first | (refine LW_cmp rfl (fun _ => ?_) (fun _ => ?_) <;> try (exfalso; omega))) | refine LW_pure TOK rfl ?_ | (refine LW_box hs rfl rfl ?_; clear hs; intro _ w hs)) | (with_reducible first | refine then_n ?_ | refine CW_seq ?_ | refine CW_region ?_ | refine CW_skip ?_ | refine CW_ret ?_ | refine then_r ?_) | refine CW_true rfl ?_ | refine CW_false rfl ?_ | refine RET1 Try.results93 rfl ?_))
    exact ⟨rfl, Sat.keeps hs []⟩
  cases hb : pathB o.b
  · have e : refC D 5 o.a o.b o.n o.data = 61 := by simp [refC, hp, hb]
    rw [e]
    (repeat' (first | (refine isLW ?_; first | refine LW_nil ?_ | (refine isLload ?_; first | refine LW_loadC 0 TOK hs rfl rfl rfl rfl rfl ?_) | (refine isLcall ?_; first | (refine LW_call (cap := []) rfl rfl ent61 (rpath_call _ o.a hal) ?_; rintro _ w2 ⟨rfl, hs2⟩; replace hs := hs.and0 hs2; clear hs2; rw [hp]) | (refine LW_call (cap := []) rfl rfl ent61 (rpath_call _ o.b hbl) ?_; rintro _ w2 ⟨rfl, hs2⟩; replace hs := hs.and0 hs2; clear hs2; rw [hb])) | (refine isLbin ?_; first | (refine LW_cmp rfl (fun _ => ?_) (fun _ => ?_) <;> try (exfalso; omega))) | refine LW_pure TOK rfl ?_ | (refine LW_box hs rfl rfl ?_; clear hs; intro _ w hs)) | (with_reducible first | refine then_n ?_ | refine CW_seq ?_ | refine CW_region ?_ | refine CW_skip ?_ | refine CW_ret ?_ | refine then_r ?_) | refine CW_true rfl ?_ | refine CW_false rfl ?_ | refine RET1 Try.results93 rfl ?_))
    exact ⟨rfl, Sat.keeps hs []⟩
  rcases placeE_fnd (l := k.S.na) (n := o.a) with ⟨g1, g0⟩ | ⟨j, g1, g2, g3⟩
  · have g1x := g1
    rw [rep.na] at g0
    have e : refC D 5 o.a o.b o.n o.data = 63 := by simp [refC, hp, g0, hb]
    rw [e]
    (repeat' (first | (refine isLW ?_; first | refine LW_nil ?_ | (refine isLload ?_; first | refine LW_loadCAE 1 (eS k.S) TOK hs rfl rfl rfl rfl (Nat.le_of_ble_eq_true rfl) rfl ?_ | refine LW_loadC 0 TOK hs rfl rfl rfl rfl rfl ?_ | refine LW_loadC 1 TOK hs rfl rfl rfl rfl rfl ?_) | (refine isLstore ?_; first | (refine LW_storeCA 0 TOK hs rfl rfl rfl rfl rfl (eS_ok.2 k.S) rfl (Nat.le_of_ble_eq_true rfl) ?_; clear hs; intro w hs)) | (refine isLcall ?_; first | (refine LW_call (cap := []) rfl rfl ent61 (rpath_call _ o.a hal) ?_; rintro _ w2 ⟨rfl, hs2⟩; replace hs := hs.and0 hs2; clear hs2; rw [hp]) | (refine LW_call (cap := []) rfl rfl ent61 (rpath_call _ o.b hbl) ?_; rintro _ w2 ⟨rfl, hs2⟩; replace hs := hs.and0 hs2; clear hs2; rw [hb]) | (refine LW_call (cap := []) rfl rfl ent84 (rfind_call _ k.S.na k.S.NA k.S.nc o.a (rdn.of hs) (by omega)) ?_; rintro _ w2 ⟨rfl, hs2⟩; replace hs := hs.and0 hs2; clear hs2; rw [g1]; dsimp only [optE])) | (refine isLbin ?_; first | (refine LW_cmp rfl (fun _ => ?_) (fun _ => ?_) <;> try (exfalso; omega))) | refine LW_pure TOK rfl ?_ | (refine LW_box hs rfl rfl ?_; clear hs; intro _ w hs) | (refine LW_alloc TOK hs rfl rfl ?_; clear hs; intro _ w hs)) | (with_reducible first | refine then_n ?_ | refine CW_seq ?_ | refine CW_region ?_ | refine CW_skip ?_ | refine CW_ret ?_ | refine then_r ?_) | refine CW_true rfl ?_ | refine CW_false rfl ?_ | refine RET1 Try.results93 rfl ?_))
    exact ⟨rfl, Sat.keeps hs []⟩
  · rw [rep.na] at g3
    have hjr : Go.Sl.rd k.S.na (j : Int) = k.S.na[j] := rd_at g2
    have hgm : k.S.na[j] ∈ D.now := by rw [← rep.na]; exact List.getElem_mem g2
    have hmem : (Go.Sl.rd k.S.na (j : Int)).2 ∈ D.now.map (·.2) := by
      rw [hjr]; exact List.mem_map.2 ⟨k.S.na[j], hgm, rfl⟩
    have hi2 : (D.now.getD j default).2 = (Go.Sl.rd k.S.na (j : Int)).2 := by
      rw [hjr]
      have : D.now = k.S.na := rep.na.symm
      rw [this]; simp [List.getD, g2]
    rw [hi2] at g3
    obtain ⟨i, hi⟩ : ∃ i, (Go.Sl.rd k.S.na (j : Int)).2 = i := ⟨_, rfl⟩
    rw [hi] at g3 hmem
    have hids : i ∈ D.ids := good.subNow hmem
    obtain ⟨hk2, e1, e2, e3⟩ := rep.get good hids
    have hlt : (Go.Sl.rd k.S.na (j : Int)).2 < k.S.th.length := by rw [hi]; exact hk2
    have hbd := dat_bd good hids
    have hdd : (Go.Sl.rd k.S.th ((Go.Sl.rd k.S.na (j : Int)).2 : Int)).d.length = (D.dat i).length := by rw [hi, rd_at hk2, e1]
    have e : refC D 5 o.a o.b o.n o.data = 0 := by simp [refC, hp, g3, hb]
    rw [e]
    (repeat' (first | (refine isLW ?_; first | refine LW_nil ?_ | (refine isLg ?_; first | refine LW_pass rfl rfl ?_) | (refine isLload ?_; first | refine LW_loadCAE 1 (eS k.S) TOK hs rfl rfl rfl rfl (Nat.le_of_ble_eq_true rfl) rfl ?_ | refine LW_loadC 0 TOK hs rfl rfl rfl rfl rfl ?_ | refine LW_loadC 1 TOK hs rfl rfl rfl rfl rfl ?_) | (refine isLstore ?_; first | (refine LW_storeCA 0 TOK hs rfl rfl rfl rfl rfl (eS_ok.2 k.S) rfl (Nat.le_of_ble_eq_true rfl) ?_; clear hs; intro w hs)) | (refine isLcall ?_; first | (refine LW_call (cap := []) rfl rfl ent61 (rpath_call _ o.a hal) ?_; rintro _ w2 ⟨rfl, hs2⟩; replace hs := hs.and0 hs2; clear hs2; rw [hp]) | (refine LW_call (cap := []) rfl rfl ent61 (rpath_call _ o.b hbl) ?_; rintro _ w2 ⟨rfl, hs2⟩; replace hs := hs.and0 hs2; clear hs2; rw [hb]) | (refine LW_call (cap := []) rfl rfl ent84 (rfind_call _ k.S.na k.S.NA k.S.nc o.a (rdn.of hs) (by omega)) ?_; rintro _ w2 ⟨rfl, hs2⟩; replace hs := hs.and0 hs2; clear hs2; rw [g1]; dsimp only [optE])) | (refine isLbin ?_; first | (refine LW_cmp rfl (fun _ => ?_) (fun _ => ?_) <;> try (exfalso; omega))) | refine LW_pure TOK rfl ?_ | (refine LW_box hs rfl rfl ?_; clear hs; intro _ w hs) | (refine LW_alloc TOK hs rfl rfl ?_; clear hs; intro _ w hs)) | (refine isDP ?_; first | (refine isDnil ?_; first | refine DP_end ?_ ?_) | (refine isDe rfl ?_; first | refine DP_eff rfl rfl ?_ ?_) | (refine isDg rfl ?_; first | refine DP_pass rfl rfl rfl rfl ?_ | refine DP_passU (j' := 0) rfl rfl rfl rfl rfl ?_) | (refine isDload rfl ?_; first | refine DP_loadC 1 hs TOK rfl rfl (by first | exact trivial | rfl) rfl rfl rfl rfl rfl ?_ ?_) | (refine isDbin rfl ?_; first | (refine DP_cmp rfl rfl (by first | exact trivial | rfl) rfl (fun _ => ?_) (fun _ => ?_) <;> try (exfalso; omega))) | refine DP_pure TOK rfl rfl (by first | exact trivial | rfl) rfl ?_) | (refine isI0 ?_; exact Inv.nil) | (refine isI1 ?_; first | refine Inv.keepC 1 hs rfl rfl ?_) | (with_reducible first | refine then_n ?_ | refine CW_seq ?_ | refine CW_region ?_ | refine CW_skip ?_ | refine CW_ret ?_) | refine CW_true rfl ?_ | refine CW_false rfl ?_ | (refine CW_drawP (id := 18) [] [0, 1, 2, 3, 4, 5, 6, 7, 8, 9, 10, 11, 12, 13, 14, 15, 16, 17, 18, 19, 20, 21, 22, 23, 24] mixed (by kernel_rfl) hs ?_; clear hs; intro hs) | (refine CW_drawP (id := 20) [10] [0, 1, 2, 3, 4, 5, 6, 7, 8, 9, 10, 11, 12, 13] mixed (by kernel_rfl) hs ?_; clear hs; intro hs) | refine RET1 Try.results93 rfl ?_))
    exact ⟨rfl, Sat.keeps hs []⟩
set_option maxHeartbeats 4000000 in
theorem refused6 (h : KH W D k pool) (hd : D.down = false) (hk : o.kind = 6) (hdl : o.data.length ≤ 4611686018427387904) (hal : o.a.length ≤ 140737488355328) (hbl : o.b.length ≤ 140737488355328) : Calls Try.prog 93 [Value.agg (eK k).toArray, .agg (eA o).toArray].toArray W (Ret fun v w' => v = .int .i64 (refC D 6 o.a o.b o.n o.data) ∧ Sat W w' []) := by
  refine Calls_of Try.func93 rfl 77 Try.ntmps93 rfl ?_
  have hs := Sat.start W
  obtain ⟨rd, ins, ⟨rq, rep, rleft, rdown⟩, good, hfs, hnow, hchs, _⟩ := h
  have hna : k.S.na.length ≤ 1099511627776 := by rw [rep.na]; exact hnow
  have hth : k.S.th.length ≤ 1099511627776 := by rw [rep.len]; exact hfs
  have rdn := rd.na
  have rdt := rd.th
  have htk : takenT k.S.th = D.taken := rep.taken good
  have hroom := good.room
  have hquota := good.quota
  have hfree : D.free = (D.quota : Int) - (takenT k.S.th : Int) := by unfold DS.free; rw [if_neg (by simp [hd]), htk]
  unfold eA
  rw [hk]
  cases hp : pathB o.a
  · have e : refC D 6 o.a o.b o.n o.data = 61 := by simp [refC, hp]
    rw [e]
    (repeat' (first | (refine isLW ?_; first | refine LW_nil ?_ | (refine isLload ?_; first | refine LW_loadC 0 TOK hs rfl rfl rfl rfl rfl ?_) | (refine isLcall ?_; first | (refine LW_call (cap := []) rfl rfl ent61 (rpath_call _ o.a hal) ?_; rintro _ w2 ⟨rfl, hs2⟩; replace hs := hs.and0 hs2; clear hs2; rw [hp])) | (refine isLbin ?_; first | (refine LW_cmp rfl (fun _ => ?_) (fun _ => ?_) <;> try (exfalso; omega))) | refine LW_pure TOK rfl ?_ | (refine LW_box hs rfl rfl ?_; clear hs; intro _ w hs)) | (with_reducible first | refine then_n ?_ | refine CW_seq ?_ | refine CW_region ?_ | refine CW_skip ?_ | refine CW_ret ?_ | refine then_r ?_) | refine CW_true rfl ?_ | refine CW_false rfl ?_ | refine RET1 Try.results93 rfl ?_))
    exact ⟨rfl, Sat.keeps hs []⟩
  rcases placeE_fnd (l := k.S.na) (n := o.a) with ⟨g1, g0⟩ | ⟨j, g1, g2, g3⟩
  · have g1x := g1
    rw [rep.na] at g0
    have e : refC D 6 o.a o.b o.n o.data = 63 := by simp [refC, hp, g0]
    rw [e]
    (repeat' (first | (refine isLW ?_; first | refine LW_nil ?_ | (refine isLload ?_; first | refine LW_loadCAE 1 (eS k.S) TOK hs rfl rfl rfl rfl (Nat.le_of_ble_eq_true rfl) rfl ?_ | refine LW_loadC 0 TOK hs rfl rfl rfl rfl rfl ?_ | refine LW_loadC 1 TOK hs rfl rfl rfl rfl rfl ?_) | (refine isLstore ?_; first | (refine LW_storeCA 0 TOK hs rfl rfl rfl rfl rfl (eS_ok.2 k.S) rfl (Nat.le_of_ble_eq_true rfl) ?_; clear hs; intro w hs)) | (refine isLcall ?_; first | (refine LW_call (cap := []) rfl rfl ent61 (rpath_call _ o.a hal) ?_; rintro _ w2 ⟨rfl, hs2⟩; replace hs := hs.and0 hs2; clear hs2; rw [hp]) | (refine LW_call (cap := []) rfl rfl ent84 (rfind_call _ k.S.na k.S.NA k.S.nc o.a (rdn.of hs) (by omega)) ?_; rintro _ w2 ⟨rfl, hs2⟩; replace hs := hs.and0 hs2; clear hs2; rw [g1]; dsimp only [optE])) | (refine isLbin ?_; first | (refine LW_cmp rfl (fun _ => ?_) (fun _ => ?_) <;> try (exfalso; omega))) | refine LW_pure TOK rfl ?_ | (refine LW_box hs rfl rfl ?_; clear hs; intro _ w hs) | (refine LW_alloc TOK hs rfl rfl ?_; clear hs; intro _ w hs)) | (with_reducible first | refine then_n ?_ | refine CW_seq ?_ | refine CW_region ?_ | refine CW_skip ?_ | refine CW_ret ?_ | refine then_r ?_) | refine CW_true rfl ?_ | refine CW_false rfl ?_ | refine RET1 Try.results93 rfl ?_))
    exact ⟨rfl, Sat.keeps hs []⟩
  · rw [rep.na] at g3
    have hjr : Go.Sl.rd k.S.na (j : Int) = k.S.na[j] := rd_at g2
    have hgm : k.S.na[j] ∈ D.now := by rw [← rep.na]; exact List.getElem_mem g2
    have hmem : (Go.Sl.rd k.S.na (j : Int)).2 ∈ D.now.map (·.2) := by
      rw [hjr]; exact List.mem_map.2 ⟨k.S.na[j], hgm, rfl⟩
    have hi2 : (D.now.getD j default).2 = (Go.Sl.rd k.S.na (j : Int)).2 := by
      rw [hjr]
      have : D.now = k.S.na := rep.na.symm
      rw [this]; simp [List.getD, g2]
    rw [hi2] at g3
    obtain ⟨i, hi⟩ : ∃ i, (Go.Sl.rd k.S.na (j : Int)).2 = i := ⟨_, rfl⟩
    rw [hi] at g3 hmem
    have hids : i ∈ D.ids := good.subNow hmem
    obtain ⟨hk2, e1, e2, e3⟩ := rep.get good hids
    have hlt : (Go.Sl.rd k.S.na (j : Int)).2 < k.S.th.length := by rw [hi]; exact hk2
    have hbd := dat_bd good hids
    have hdd : (Go.Sl.rd k.S.th ((Go.Sl.rd k.S.na (j : Int)).2 : Int)).d.length = (D.dat i).length := by rw [hi, rd_at hk2, e1]
    have e : refC D 6 o.a o.b o.n o.data = 0 := by simp [refC, hp, g3]
    rw [e]
    (repeat' (first | (refine isLW ?_; first | refine LW_nil ?_ | (refine isLg ?_; first | refine LW_pass rfl rfl ?_) | (refine isLload ?_; first | refine LW_loadCAE 1 (eS k.S) TOK hs rfl rfl rfl rfl (Nat.le_of_ble_eq_true rfl) rfl ?_ | refine LW_loadC 0 TOK hs rfl rfl rfl rfl rfl ?_ | refine LW_loadC 1 TOK hs rfl rfl rfl rfl rfl ?_) | (refine isLstore ?_; first | (refine LW_storeCA 0 TOK hs rfl rfl rfl rfl rfl (eS_ok.2 k.S) rfl (Nat.le_of_ble_eq_true rfl) ?_; clear hs; intro w hs)) | (refine isLcall ?_; first | (refine LW_call (cap := []) rfl rfl ent61 (rpath_call _ o.a hal) ?_; rintro _ w2 ⟨rfl, hs2⟩; replace hs := hs.and0 hs2; clear hs2; rw [hp]) | (refine LW_call (cap := []) rfl rfl ent84 (rfind_call _ k.S.na k.S.NA k.S.nc o.a (rdn.of hs) (by omega)) ?_; rintro _ w2 ⟨rfl, hs2⟩; replace hs := hs.and0 hs2; clear hs2; rw [g1]; dsimp only [optE])) | (refine isLbin ?_; first | (refine LW_cmp rfl (fun _ => ?_) (fun _ => ?_) <;> try (exfalso; omega))) | refine LW_pure TOK rfl ?_ | (refine LW_box hs rfl rfl ?_; clear hs; intro _ w hs) | (refine LW_alloc TOK hs rfl rfl ?_; clear hs; intro _ w hs)) | (refine isDP ?_; first | (refine isDnil ?_; first | refine DP_end ?_ ?_) | (refine isDe rfl ?_; first | refine DP_eff rfl rfl ?_ ?_) | (refine isDg rfl ?_; first | refine DP_pass rfl rfl rfl rfl ?_ | refine DP_passU (j' := 0) rfl rfl rfl rfl rfl ?_) | (refine isDload rfl ?_; first | refine DP_loadC 1 hs TOK rfl rfl (by first | exact trivial | rfl) rfl rfl rfl rfl rfl ?_ ?_) | (refine isDbin rfl ?_; first | (refine DP_cmp rfl rfl (by first | exact trivial | rfl) rfl (fun _ => ?_) (fun _ => ?_) <;> try (exfalso; omega))) | refine DP_pure TOK rfl rfl (by first | exact trivial | rfl) rfl ?_) | (refine isI0 ?_; exact Inv.nil) | (refine isI1 ?_; first | refine Inv.keepC 1 hs rfl rfl ?_) | (with_reducible first | refine then_n ?_ | refine CW_seq ?_ | refine CW_region ?_ | refine CW_skip ?_ | refine CW_ret ?_) | refine CW_false rfl ?_ | (refine CW_drawP (id := 18) [] [0, 1, 2, 3, 4, 5, 6, 7, 8, 9, 10, 11, 12, 13, 14, 15, 16, 17, 18, 19, 20, 21, 22, 23, 24] mixed (by kernel_rfl) hs ?_; clear hs; intro hs) | (refine CW_drawP (id := 20) [10] [0, 1, 2, 3, 4, 5, 6, 7, 8, 9, 10, 11, 12, 13] mixed (by kernel_rfl) hs ?_; clear hs; intro hs) | refine RET1 Try.results93 rfl ?_))
    exact ⟨rfl, Sat.keeps hs []⟩
set_option maxHeartbeats 4000000 in
theorem refused7 (h : KH W D k pool) (hd : D.down = false) (hk : o.kind = 7) (hdl : o.data.length ≤ 4611686018427387904) (hal : o.a.length ≤ 140737488355328) (hbl : o.b.length ≤ 140737488355328) : Calls Try.prog 93 [Value.agg (eK k).toArray, .agg (eA o).toArray].toArray W (Ret fun v w' => v = .int .i64 (refC D 7 o.a o.b o.n o.data) ∧ Sat W w' []) := by
  refine Calls_of Try.func93 rfl 77 Try.ntmps93 rfl ?_
  have hs := Sat.start W
  obtain ⟨rd, ins, ⟨rq, rep, rleft, rdown⟩, good, hfs, hnow, hchs, _⟩ := h
  have hna : k.S.na.length ≤ 1099511627776 := by rw [rep.na]; exact hnow
  have hth : k.S.th.length ≤ 1099511627776 := by rw [rep.len]; exact hfs
  have rdn := rd.na
  have rdt := rd.th
  have htk : takenT k.S.th = D.taken := rep.taken good
  have hroom := good.room
  have hquota := good.quota
  have hfree : D.free = (D.quota : Int) - (takenT k.S.th : Int) := by unfold DS.free; rw [if_neg (by simp [hd]), htk]
  unfold eA
  rw [hk]
  have e : refC D 7 o.a o.b o.n o.data = 0 := rfl
  rw [e]
  (repeat' (first | (refine isLW ?_; first | refine LW_nil ?_ | (refine isLload ?_; first | refine LW_loadC 0 TOK hs rfl rfl rfl rfl rfl ?_) | (refine isLbin ?_; first | (refine LW_cmp rfl (fun _ => ?_) (fun _ => ?_) <;> try (exfalso; omega))) | refine LW_pure TOK rfl ?_ | (refine LW_box hs rfl rfl ?_; clear hs; intro _ w hs)) | (with_reducible first | refine then_n ?_ | refine CW_seq ?_ | refine CW_region ?_ | refine CW_ret ?_ | refine then_r ?_) | refine CW_true rfl ?_ | refine RET1 Try.results93 rfl ?_))
  exact ⟨rfl, Sat.keeps hs []⟩
theorem refused_call (h : KH W D k pool) (hd : D.down = false) (h1 : 1 ≤ o.kind) (h7 : o.kind ≤ 7) (hdl : o.data.length ≤ 4611686018427387904) (hal : o.a.length ≤ 140737488355328) (hbl : o.b.length ≤ 140737488355328) : Calls Try.prog 93 [Value.agg (eK k).toArray, .agg (eA o).toArray].toArray W (Ret fun v w' => v = .int .i64 (refC D o.kind o.a o.b o.n o.data) ∧ Sat W w' []) := by
  have : o.kind = 1 ∨ o.kind = 2 ∨ o.kind = 3 ∨ o.kind = 4 ∨ o.kind = 5 ∨ o.kind = 6 ∨ o.kind = 7 := by omega
  rcases this with e | e | e | e | e | e | e
  · have := refused1 h hd e hdl hal hbl; rw [e]; exact this
  · have := refused2 h hd e hdl hal hbl; rw [e]; exact this
  · have := refused3 h hd e hdl hal hbl; rw [e]; exact this
  · have := refused4 h hd e hdl hal hbl; rw [e]; exact this
  · have := refused5 h hd e hdl hal hbl; rw [e]; exact this
  · have := refused6 h hd e hdl hal hbl; rw [e]; exact this
  · have := refused7 h hd e hdl hal hbl; rw [e]; exact this
end
end Go.Proofs.Ytoodgenbcfdloaa
