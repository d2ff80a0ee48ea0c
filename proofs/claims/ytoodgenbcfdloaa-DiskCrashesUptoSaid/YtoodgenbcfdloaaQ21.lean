/- Two disks side by side; walks: step. -/
import Derived.Test.YtoodgenbcfdloaaQ19
set_option linter.unusedVariables false
set_option linter.unusedSimpArgs false
namespace Go.Proofs.Ytoodgenbcfdloaa
open Go Go.Sl Go.RowKit
set_option maxRecDepth 100000
attribute [local irreducible] CW LW DW FR DP Calls

/-- What a step answers. -/
def StP (W : World) (L : List HProp) (D : DS) (v : Value) (w' : World) : Prop :=
  ∃ d' D' k' pool', v = .tuple #[.agg (eQ (some d') k').toArray, .bool true] ∧ RepK D' k' ∧ InS pool' k'.S ∧ Good D' ∧ D'.fs.length ≤ max D.fs.length 1048576 + 1 ∧ D'.chs.length ≤ D.chs.length + 1 ∧ leftI D'.left ≤ 9223372036854775807 ∧ Sat W w' (HD d' D' :: Big pool' :: L)
section
variable {W w : World} {D : DS} {k : RDk} {pool L : List HProp} {d : Nat}
theorem left_act {D : DS} (hl : leftI D.left ≤ 9223372036854775807) (kk : Int) (a b : Nm) (n : Int) (data : List UInt8) : leftI (D.act kk a b n data).2.left ≤ 9223372036854775807 := by
  by_cases hd : D.down = true
  · rw [act_down hd]; exact hl
  have hd : D.down = false := by simpa using hd
  rw [act_left hd]
  unfold armR
  cases e : D.left with
  | none =>
    split
    · show leftI none ≤ _; decide
    · show leftI none ≤ _; decide
  | some m =>
    rw [e] at hl
    have hm : (m : Int) ≤ 9223372036854775807 := hl
    cases m with
    | zero =>
      split
      · show (0 : Int) ≤ _; omega
      · show (0 : Int) ≤ _; omega
    | succ m =>
      split
      · show (m : Int) ≤ _; omega
      · show ((m + 1 : Nat) : Int) ≤ _; exact hm
set_option maxHeartbeats 8000000 in
theorem stepA (hs : Sat W w (HD d D :: Big pool :: L)) (h : PK D k pool) (o : Op) (ho : o.Ok) (h1 : 1 ≤ o.kind) (h7 : o.kind ≤ 7) (hrD : ∀ w', Sat W w' L → Rd eB w' o.dA o.data) (hdl : o.data.length ≤ 140737488351232) :
    Calls Try.prog 79 [Value.agg (eQ (some d) k).toArray, .agg (eO o).toArray].toArray w (Ret (StP W L D)) := by
  refine Calls_of Try.func79 rfl 134 Try.ntmps79 rfl ?_
  have hal := ho.a
  have hbl := ho.b
  obtain ⟨r, hr⟩ : ∃ r, D.act o.kind o.a o.b o.n o.data = r := ⟨_, rfl⟩
  (repeat' (first | (refine isDe rfl ?_; refine DP_eff rfl rfl (by repeat' (first | exact Inv.nil | refine Inv.keepB hs ?_ | refine Inv.keepO 0 hs rfl ?_ | refine Inv.keepC 0 hs rfl rfl ?_ | refine Inv.keepO 4 hs rfl ?_ | refine Inv.keepC 4 hs rfl rfl ?_ | refine Inv.keepO 5 hs rfl ?_ | refine Inv.keepC 5 hs rfl rfl ?_ | refine Inv.keepO 6 hs rfl ?_ | refine Inv.keepC 6 hs rfl rfl ?_ | refine Inv.gone (by kernel_rfl) ?_)) ?_) | (refine isDnil ?_; refine DP_end (by repeat' (first | exact Inv.nil | refine Inv.keepB hs ?_ | refine Inv.keepO 0 hs rfl ?_ | refine Inv.keepC 0 hs rfl rfl ?_ | refine Inv.keepO 4 hs rfl ?_ | refine Inv.keepC 4 hs rfl rfl ?_ | refine Inv.keepO 5 hs rfl ?_ | refine Inv.keepC 5 hs rfl rfl ?_ | refine Inv.keepO 6 hs rfl ?_ | refine Inv.keepC 6 hs rfl rfl ?_ | refine Inv.gone (by kernel_rfl) ?_)) ?_) | refine DP_loadC 5 hs TOK rfl rfl rfl rfl rfl rfl rfl rfl (by repeat' (first | exact Inv.nil | refine Inv.keepB hs ?_ | refine Inv.keepO 0 hs rfl ?_ | refine Inv.keepC 0 hs rfl rfl ?_ | refine Inv.keepO 4 hs rfl ?_ | refine Inv.keepC 4 hs rfl rfl ?_ | refine Inv.keepO 5 hs rfl ?_ | refine Inv.keepC 5 hs rfl rfl ?_ | refine Inv.keepO 6 hs rfl ?_ | refine Inv.keepC 6 hs rfl rfl ?_ | refine Inv.gone (by kernel_rfl) ?_)) ?_ | (refine isLW ?_; first | refine LW_nil ?_ | (refine isLg ?_; first | refine LW_take rfl ?_) | (refine isLload ?_; first | refine LW_loadCAE 2 (eO o) TOK hs rfl rfl rfl rfl (Nat.le_of_ble_eq_true rfl) rfl ?_ | refine LW_loadCAE 4 (eK k) TOK hs rfl rfl rfl rfl (Nat.le_of_ble_eq_true rfl) rfl ?_ | refine LW_loadCAE 0 (eK k') TOK hs rfl rfl rfl rfl (Nat.le_of_ble_eq_true rfl) rfl ?_ | refine LW_loadC 1 TOK hs rfl rfl rfl rfl rfl ?_ | refine LW_loadC 3 TOK hs rfl rfl rfl rfl rfl ?_) | (refine isLstore ?_; first | (refine LW_storeCA 0 TOK hs rfl rfl rfl rfl rfl (eK_ok.2 k') rfl (Nat.le_of_ble_eq_true rfl) ?_; clear hs; intro w hs) | (refine LW_storeCA 6 TOK hs rfl rfl rfl rfl rfl (eK_ok.2 k') rfl (Nat.le_of_ble_eq_true rfl) ?_; clear hs; intro w hs) | (refine LW_storeCA 4 TOK hs rfl rfl rfl rfl rfl (eQ_ok.2 (some d) k') rfl (Nat.le_of_ble_eq_true rfl) ?_; clear hs; intro w hs)) | (refine isLcall ?_; first | (refine LW_call (cap := []) rfl rfl ent17 (copied_call _ o.data o.dA o.dc (hrD _ (Sat.dropN hs 5)) (by omega)) ?_; rintro _ w2 ⟨A1, c1, rfl, hs2⟩; replace hs := hs.and1 hs2; clear hs2) | (refine LW_call (cap := []) rfl rfl ent34 (act_call W _ _ d D o (hs.picks [4]) h.fit ho (fun w' h => hrD w' (Sat.dropN h 5))) ?_; rw [hr]; clear hs; rintro _ w ⟨rfl, hs⟩) | (refine LW_call (cap := []) rfl rfl ent87 (Do_call (o := ⟨o.kind, o.a, o.b, o.n, A1, c1, o.data⟩) (h.kh (hs.picks [5])) (hs.rd 1 rfl) h1 h7 (by dsimp only; omega) hal hbl) ?_; dsimp only; rw [hr]; rintro _ w2 ⟨k', rfl, rows, hrep', hins', hs2⟩; replace hs := hs.and1 hs2; clear hs2) | (refine LW_call (cap := []) rfl rfl ent27 (alike_call _ o.data o.data A1 o.dA c1 o.dc (hs.rd 3 rfl) (hrD _ (Sat.dropN hs 8)) (by omega)) ?_; rw [decide_eq_true rfl]; rintro _ w2 ⟨rfl, hs2⟩; replace hs := hs.and0 hs2; clear hs2)) | (refine isLbin ?_; first | (refine LW_cmp rfl (fun _ => ?_) (fun _ => ?_) <;> try (exfalso; omega))) | refine LW_pure TOK rfl ?_ | (refine LW_box hs rfl rfl ?_; clear hs; intro _ w hs) | (refine LW_alloc TOK hs rfl rfl ?_; clear hs; intro _ w hs) | refine LW_build TOK rfl rfl rfl rfl rfl rfl ?_) | (refine isDP ?_; first | (refine isDload rfl ?_; first | refine DP_loadCA 6 (eQ (some d) k') hs TOK rfl rfl trivial rfl rfl rfl rfl (Nat.le_of_ble_eq_true rfl) rfl (by repeat' (first | exact Inv.nil | refine Inv.keepB hs ?_ | refine Inv.keepO 0 hs rfl ?_ | refine Inv.keepC 0 hs rfl rfl ?_ | refine Inv.keepO 4 hs rfl ?_ | refine Inv.keepC 4 hs rfl rfl ?_ | refine Inv.keepO 5 hs rfl ?_ | refine Inv.keepC 5 hs rfl rfl ?_ | refine Inv.keepO 6 hs rfl ?_ | refine Inv.keepC 6 hs rfl rfl ?_ | refine Inv.gone (by kernel_rfl) ?_)) ?_) | (refine isDbin rfl ?_; first | (refine DP_cmp rfl rfl (by first | exact trivial | rfl) rfl (fun _ => ?_) (fun _ => ?_) <;> try (exfalso; omega))) | refine DP_pure TOK rfl rfl (by first | exact trivial | rfl) rfl ?_) | (with_reducible first | refine then_n ?_ | refine CW_seq ?_ | refine CW_region ?_ | refine CW_block ?_ | refine CW_ret ?_ | refine then_r ?_ | refine blk_r ?_) | refine RETA2 4 hs TOK Try.results79 rfl rfl rfl rfl rfl rfl ?_ | refine CW_true rfl ?_ | (refine CW_drawP (id := 6) [8, 10] [0, 1, 2, 3, 4, 5, 6, 7, 8, 9, 10, 11] mixed (by kernel_rfl) hs ?_; clear hs; intro hs)))
  have hsm := act_same D o.kind o.a o.b o.n o.data
  have hgd := h.good.act o.kind o.a o.b o.n o.data
  have hlf := left_act h.lft o.kind o.a o.b o.n o.data
  rw [hr] at hsm hgd hlf
  have h2 := Sat.dropN (hs.picks [0, 2, 2, 2, 2]) 5
  have h3 : Sat W w (Big rows :: Big pool :: HD d r.2 :: L) := h2.picks [0, 1]
  exact ⟨d, r.2, k', rows ++ pool, rfl, hrep', hins', hgd, by have := hsm.fs; omega, hsm.chs, hlf, (Sat.bigs h3).picks [1]⟩
theorem PK.stp (h : PK D k pool) {L : List HProp} {w : World} (hs : Sat W w (HD d D :: Big pool :: L)) : StP W L D (.tuple #[.agg (eQ (some d) k).toArray, .bool true]) w :=
  ⟨d, D, k, pool, rfl, h.repk, h.ins, h.good, by omega, by omega, h.lft, hs⟩
set_option maxHeartbeats 8000000 in
theorem stepT (hs : Sat W w (HD d D :: Big pool :: L)) (h : PK D k pool) (o : Op) (ho : o.Ok) (hk : ¬ (1 ≤ o.kind ∧ o.kind ≤ 7) ∧ ¬ o.kind = 12 ∧ ¬ o.kind = 15 ∧ ¬ o.kind = 16 ∧ ¬ o.kind = 17) (hrC : ∀ w', Sat W w' L → Rd eP w' o.cA o.cuts) (hcb : o.cuts.length ≤ 1099511627776) :
    Calls Try.prog 79 [Value.agg (eQ (some d) k).toArray, .agg (eO o).toArray].toArray w (Ret (StP W L D)) := by
  refine Calls_of Try.func79 rfl 134 Try.ntmps79 rfl ?_
  obtain ⟨k17, k12, k15, k16, k17'⟩ := hk
  have hstp : ∀ {w : World} {L : List HProp}, Sat W w (HD d D :: Big pool :: L) → StP W L D (.tuple #[.agg (eQ (some d) k).toArray, .bool true]) w := fun hs => h.stp hs
  (repeat' (first | (refine isLW ?_; first | refine LW_nil ?_ | (refine isLg ?_; first | refine LW_take rfl ?_ | refine LW_pass rfl rfl ?_) | (refine isLload ?_; first | refine LW_loadCAE 1 (eO o) TOK hs rfl rfl rfl rfl (Nat.le_of_ble_eq_true rfl) rfl ?_ | refine LW_loadCAE 2 (eK k) TOK hs rfl rfl rfl rfl (Nat.le_of_ble_eq_true rfl) rfl ?_ | refine LW_loadCAE 2 (eQ (some d) k) TOK hs rfl rfl rfl rfl (Nat.le_of_ble_eq_true rfl) rfl ?_ | refine LW_loadC 1 TOK hs rfl rfl rfl rfl rfl ?_ | refine LW_loadC 2 TOK hs rfl rfl rfl rfl rfl ?_) | (refine isLstore ?_; first | (refine LW_storeCA 0 TOK hs rfl rfl rfl rfl rfl (eQ_ok.2 (some d) k) rfl (Nat.le_of_ble_eq_true rfl) ?_; clear hs; intro w hs)) | (refine isLcall ?_; first | (refine LW_call (cap := []) rfl rfl ent89 (told_call (L := _ :: _ :: _ :: L) (hs.picks [3, 3]) h o ho (fun w' hs => hrC w' (Sat.dropN hs 3)) hcb) ?_; clear hs; rintro _ w ⟨rfl, hs⟩; replace hs := hs.picks [2, 2, 2])) | (refine isLbin ?_; first | (refine LW_cmp rfl (fun _ => ?_) (fun _ => ?_) <;> try (exfalso; omega))) | refine LW_pure TOK rfl ?_ | (refine LW_box hs rfl rfl ?_; clear hs; intro _ w hs) | (refine LW_alloc TOK hs rfl rfl ?_; clear hs; intro _ w hs)) | (with_reducible first | refine then_n ?_ | refine CW_seq ?_ | refine CW_region ?_ | refine CW_block ?_ | refine CW_skip ?_ | refine CW_ret ?_ | refine blk_n ?_) | refine RETA2 0 hs TOK Try.results79 rfl rfl rfl rfl rfl rfl ?_ | refine CW_false rfl ?_))
  all_goals first | exact hstp (Sat.dropN hs 3) | exact absurd (And.intro (by assumption) (by assumption)) k17
end
end Go.Proofs.Ytoodgenbcfdloaa

/- Two disks side by side; walks: step, the other kinds. -/
set_option linter.unusedVariables false
set_option linter.unusedSimpArgs false
namespace Go.Proofs.Ytoodgenbcfdloaa
open Go Go.Sl Go.RowKit
set_option maxRecDepth 100000
attribute [local irreducible] CW LW DW FR DP Calls

section
variable {W w : World} {D : DS} {k : RDk} {pool L : List HProp} {d : Nat}
theorem left_arm (hl : leftI D.left ≤ 9223372036854775807) (n : Int) (hn : n ≤ 9223372036854775807) : leftI (D.arm n).left ≤ 9223372036854775807 := by
  unfold DS.arm
  split
  · exact hl
  · dsimp only
    split
    · show (n.toNat : Int) ≤ _; omega
    · decide
set_option maxHeartbeats 8000000 in
theorem step12 (hs : Sat W w (HD d D :: Big pool :: L)) (h : PK D k pool) (o : Op) (ho : o.Ok) (hk : o.kind = 12) :
    Calls Try.prog 79 [Value.agg (eQ (some d) k).toArray, .agg (eO o).toArray].toArray w (Ret (StP W L D)) := by
  refine Calls_of Try.func79 rfl 134 Try.ntmps79 rfl ?_
  have hn := ho.n
  unfold eO
  rw [hk]
  (repeat' (first | (refine isLW ?_; first | refine LW_nil ?_ | (refine isLg ?_; first | refine LW_take rfl ?_) | (refine isLload ?_; first | refine LW_loadCAE 3 (eK k) TOK hs rfl rfl rfl rfl (Nat.le_of_ble_eq_true rfl) rfl ?_ | refine LW_loadCAE 4 (eQ (some d) k') TOK hs rfl rfl rfl rfl (Nat.le_of_ble_eq_true rfl) rfl ?_ | refine LW_loadC 1 TOK hs rfl rfl rfl rfl rfl ?_ | refine LW_loadC 2 TOK hs rfl rfl rfl rfl rfl ?_) | (refine isLstore ?_; first | (refine LW_storeCA 4 TOK hs rfl rfl rfl rfl rfl (eK_ok.2 k') rfl (Nat.le_of_ble_eq_true rfl) ?_; clear hs; intro w hs) | (refine LW_storeCA 2 TOK hs rfl rfl rfl rfl rfl (eQ_ok.2 (some d) k') rfl (Nat.le_of_ble_eq_true rfl) ?_; clear hs; intro w hs)) | (refine isLcall ?_; first | (refine LW_call (cap := []) rfl rfl ent48 (arm_call W _ _ d D o.n hn (hs.picks [3])) ?_; clear hs; rintro _ w ⟨rfl, hs⟩) | (refine LW_call (cap := []) rfl rfl ent88 (rArm_call (h.kh (hs.picks [4])) o.n hn) ?_; rintro _ w2 ⟨k', rfl, rows, hrep', hins', hs2⟩; replace hs := hs.and1 hs2; clear hs2)) | (refine isLbin ?_; first | (refine LW_cmp rfl (fun _ => ?_) (fun _ => ?_) <;> try (exfalso; omega))) | refine LW_pure TOK rfl ?_ | (refine LW_box hs rfl rfl ?_; clear hs; intro _ w hs) | (refine LW_alloc TOK hs rfl rfl ?_; clear hs; intro _ w hs)) | (with_reducible first | refine then_n ?_ | refine CW_seq ?_ | refine CW_region ?_ | refine CW_block ?_ | refine CW_ret ?_ | refine then_r ?_ | refine blk_r ?_) | refine RETA2 2 hs TOK Try.results79 rfl rfl rfl rfl rfl rfl ?_ | refine CW_true rfl ?_ | refine CW_false rfl ?_))
  have h2 : Sat W w (Big rows :: Big pool :: HD d (D.arm o.n) :: L) := (Sat.dropN (hs.picks [2, 2, 2]) 3).picks [0, 1]
  have hl2 := left_arm h.lft o.n hn.2
  have e1 : (D.arm o.n).fs = D.fs := by unfold DS.arm; split <;> rfl
  have e2 : (D.arm o.n).chs = D.chs := by unfold DS.arm; split <;> rfl
  exact ⟨d, _, k', rows ++ pool, rfl, hrep', hins', h.good.arm o.n, by rw [e1]; omega, by rw [e2]; omega, hl2, (Sat.bigs h2).picks [1]⟩
/-- What loaded answers is what a step answers. -/
theorem LdP.stp {q : Int} {F : List File} (h : PK D k pool) (hF : F.length ≤ max D.fs.length 1048576) (hsum : sumLen F ≤ 9223372036854775807) {v : Value} {w' : World} (hl : LdP W (HD d D :: Big pool :: L) (some d) k (load q (sumW F) F) v w') : StP W L D v w' := by
  rw [sumW_eq F hsum] at hl
  rcases hl with ⟨_, rfl, hs⟩ | ⟨h0, d', k', pool', rfl, hrep, hins, hs⟩
  · exact h.stp hs
  · obtain ⟨hg, fs, now, hst, he⟩ := load_good h0
    refine ⟨d', _, k', pool', rfl, hrep, hins, hg, ?_, ?_, ?_, Sat.dropN (hs.picks [2, 2]) 2⟩
    · rw [he]
      show fs.length ≤ _
      rw [hst.fsE, List.length_map]
      omega
    · rw [he]; exact Nat.zero_le _
    · rw [he]; show leftI none ≤ _; decide
set_option maxHeartbeats 8000000 in
theorem step16 (hs : Sat W w (HD d D :: Big pool :: L)) (h : PK D k pool) (o : Op) (ho : o.Ok) (hk : o.kind = 16) :
    Calls Try.prog 79 [Value.agg (eQ (some d) k).toArray, .agg (eO o).toArray].toArray w (Ret (StP W L D)) := by
  refine Calls_of Try.func79 rfl 134 Try.ntmps79 rfl ?_
  have hn := ho.n
  have hfin : ∀ {v : Value} {w' : World} {L : List HProp}, LdP W (HD d D :: Big pool :: L) (some d) k (load o.n (sumW []) []) v w' → StP W L D v w' := fun hl => LdP.stp h (Nat.zero_le _) (by decide) hl
  unfold eO
  rw [hk]
  (repeat' (first | (refine isLW ?_; first | refine LW_nil ?_ | (refine isLg ?_; first | refine LW_take rfl ?_) | (refine isLload ?_; first | refine LW_loadCAE 2 (eQ (some d) k) TOK hs rfl rfl rfl rfl (Nat.le_of_ble_eq_true rfl) rfl ?_ | refine LW_loadC 1 TOK hs rfl rfl rfl rfl rfl ?_) | (refine isLstore ?_; first | (refine LW_storeCA 2 TOK hs rfl rfl rfl rfl rfl (eQ_ok.2 (some d') k') rfl (Nat.le_of_ble_eq_true rfl) ?_; clear hs; intro w hs)) | (refine isLcall ?_; first | (refine LW_call (cap := []) rfl rfl ent86 (Calls.ret (loadedN_call W _ _ (some d) k o.n (hs.picks [3, 3]) hn) (fun v w' h => hfin h)) ?_; clear hs; rintro _ w ⟨d', D', k', pool', rfl, g1, g2, g3, g4, g5, g6, hs⟩)) | (refine isLbin ?_; first | (refine LW_cmp rfl (fun _ => ?_) (fun _ => ?_) <;> try (exfalso; omega))) | refine LW_pure TOK rfl ?_ | (refine LW_box hs rfl rfl ?_; clear hs; intro _ w hs) | (refine LW_alloc TOK hs rfl rfl ?_; clear hs; intro _ w hs)) | (with_reducible first | refine then_n ?_ | refine CW_seq ?_ | refine CW_region ?_ | refine CW_block ?_ | refine CW_ret ?_ | refine then_r ?_ | refine blk_r ?_) | refine RETA2 2 hs TOK Try.results79 rfl rfl rfl rfl rfl rfl ?_ | refine CW_true rfl ?_ | refine CW_false rfl ?_))
  exact ⟨d', D', k', pool', rfl, g1, g2, g3, g4, g5, g6, (Sat.dropN (hs.picks [2, 2, 2]) 3)⟩
end
end Go.Proofs.Ytoodgenbcfdloaa
