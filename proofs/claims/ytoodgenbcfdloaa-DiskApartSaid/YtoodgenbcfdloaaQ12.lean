/- Plain: an armed disk against one that is not. -/
import Derived.Test.YtoodgenbcfdloaaP8
import Derived.Test.YtoodgenbcfdloaaQ11
set_option linter.unusedVariables false
set_option linter.unusedSimpArgs false
namespace Go.Proofs.Ytoodgenbcfdloaa
def DS.armd (D : DS) (x : Option Nat) : DS := { D with left := x }
def DS.dead (D : DS) : DS := { D with left := some 0, down := true }
/-- What an armed disk answers where the other answers r. -/
def armR (D : DS) (x : Option Nat) (r : Int × DS) : Int × DS :=
  if r.1 = 0 then (match x with
    | none => (0, r.2.armd none)
    | some 0 => (60, D.dead)
    | some (k + 1) => (0, r.2.armd (some k))) else (r.1, D.armd x)
section
variable {D : DS}
theorem note_arm (hl : D.left = none) (x : Option Nat) (c : Chg) : (D.armd x).note c = armR D x (D.note c) := by
  unfold DS.note armR
  rw [turn_none hl]
  dsimp only
  rw [if_pos rfl, if_pos rfl]
  cases x with
  | none => rfl
  | some k => cases k <;> rfl
theorem act_arm (hl : D.left = none) (x : Option Nat) (k : Int) (a b : Nm) (n : Int) (data : List UInt8) : (D.armd x).act k a b n data = armR D x (D.act k a b n data) := by
  have hfi : ∀ n, (D.armd x).find n = D.find n := fun _ => rfl
  have hfr : (D.armd x).free = D.free := rfl
  have hda : ∀ i, (D.armd x).dat i = D.dat i := fun _ => rfl
  have hno : ∀ c, (D.armd x).note c = armR D x (D.note c) := note_arm hl x
  have htx : (D.armd x).turn = match x with
    | none => (0, D.armd none)
    | some 0 => (60, D.dead)
    | some (k + 1) => (0, D.armd (some k)) := by
    cases x with
    | none => rfl
    | some k => cases k <;> rfl
  unfold DS.act
  split
  · unfold DS.create
    rw [hfi, turn_none hl]
    split
    · rfl
    split
    · rw [if_pos rfl, htx]
      cases x with
      | none => rfl
      | some k => cases k <;> rfl
    · rename_i h _; unfold armR; rw [if_neg h]
  split
  · unfold DS.append
    rw [hfi, hfr, turn_none hl]
    split
    · split
      · rfl
      · rw [if_pos rfl, htx]
        cases x with
        | none => rfl
        | some k => cases k <;> rfl
    · rename_i h; unfold armR; rw [if_neg h]
  split
  · unfold DS.sync
    rw [hfi, turn_none hl]
    split
    · rw [if_pos rfl, htx]
      cases x with
      | none => rfl
      | some k => cases k <;> rfl
    · rename_i h; unfold armR; rw [if_neg h]
  split
  · unfold DS.trunc
    rw [hfi, turn_none hl]
    split
    · rw [hda]
      split
      · rfl
      · rw [if_pos rfl, htx]
        cases x with
        | none => rfl
        | some k => cases k <;> rfl
    · rename_i h; unfold armR; rw [if_neg h]
  split
  · unfold DS.rename
    show (if D.down = true then _ else _) = _
    split
    · rfl
    split
    · rfl
    show (if fnd D.now a = none then _ else _) = _
    split
    · rfl
    exact hno _
  split
  · unfold DS.remove
    rw [hfi]
    split
    · exact hno _
    · rename_i h; unfold armR; rw [if_neg h]
  · unfold DS.syncdir
    show (if D.down = true then _ else _) = _
    split
    · rfl
    rw [turn_none hl, if_pos rfl, htx]
    cases x with
    | none => rfl
    | some k => cases k <;> rfl
/-- What is left of n behind k calls. -/
def lefts (n : Int) (k : Nat) : Option Nat := if 0 ≤ n then some (n.toNat - k) else none
theorem arm_lefts (hd : D.down = false) (n : Int) : D.arm n = D.armd (lefts n 0) := by
  unfold DS.arm lefts
  rw [if_neg (by simp [hd])]
  rfl
theorem armR_go {n : Int} {k : Nat} {r : Int × DS} (hr : r.1 ≠ 0 → r.2 = D) (h : n < 0 ∨ r.1 ≠ 0 ∨ (k : Int) < n) : armR D (lefts n k) r = (r.1, r.2.armd (lefts n (if r.1 = 0 then k + 1 else k))) := by
  by_cases h0 : r.1 = 0
  · rw [if_pos h0]
    unfold armR
    rw [if_pos h0, h0]
    by_cases hn : 0 ≤ n
    · have e1 : lefts n k = some (n.toNat - (k + 1) + 1) := by unfold lefts; rw [if_pos hn]; congr 1; omega
      have e2 : lefts n (k + 1) = some (n.toNat - (k + 1)) := by unfold lefts; rw [if_pos hn]
      rw [e1, e2]
    · have e : ∀ k, lefts n k = none := fun k => by unfold lefts; rw [if_neg hn]
      rw [e, e]
  · rw [if_neg h0]
    unfold armR
    rw [if_neg h0, hr h0]
theorem armR_end {n : Int} {k : Nat} {r : Int × DS} (h : ¬ (n < 0 ∨ r.1 ≠ 0 ∨ (k : Int) < n)) : armR D (lefts n k) r = (60, D.dead) := by
  have e : lefts n k = some 0 := by unfold lefts; rw [if_pos (by omega)]; congr 1; omega
  unfold armR
  rw [if_pos (by omega), e]
end
end Go.Proofs.Ytoodgenbcfdloaa

/- The document's disk; walks: Do, Arm, Free, Read. -/
set_option linter.unusedVariables false
set_option linter.unusedSimpArgs false
namespace Go.Proofs.Ytoodgenbcfdloaa
open Go Go.Sl Go.RowKit
set_option maxRecDepth 100000
attribute [local irreducible] CW LW DW FR DP Calls

theorem act_down {D : DS} (hd : D.down = true) (k : Int) (a b : Nm) (n : Int) (data : List UInt8) : D.act k a b n data = (60, D) := by
  have hf : ∀ a, D.find a = (60, 0) := fun a => by unfold DS.find; rw [if_pos hd]
  unfold DS.act DS.create DS.append DS.sync DS.trunc DS.rename DS.remove DS.syncdir
  simp [hf, hd]
theorem act_up {D : DS} (hl : D.left = none) (hd : D.down = false) (k : Int) (a b : Nm) (n : Int) (data : List UInt8) : (D.act k a b n data).2.down = false := by
  rw [(act_same D k a b n data).down hl, hd]
def eK4 (q : Int) (S : RSt) (l : Int) (d : Bool) : List Value := [.int .i64 q, .slice S.TA S.th.length S.tc, .slice S.NA S.na.length S.nc, .slice S.LA S.la.length S.lc, .slice S.CA S.ch.length S.cc, .int .i64 l, .bool d]
theorem hK (q : Int) (S : RSt) (l : Int) (d : Bool) : eK ⟨q, S, l, d⟩ = eK4 q S l d := rfl
/-- A disk that is not down, by one that is not armed. -/
theorem act_left {D : DS} (hd : D.down = false) (k : Int) (a b : Nm) (n : Int) (data : List UInt8) : D.act k a b n data = armR (D.armd none) D.left ((D.armd none).act k a b n data) := by
  have := act_arm (D := D.armd none) rfl D.left k a b n data
  exact this
/-- What the document's call answers: a value that tells the disk behind it. -/
def KP (W : World) (D' : DS) (pool : List HProp) (k' : RDk) (w' : World) : Prop := ∃ rows, RepK D' k' ∧ InS (rows ++ pool) k'.S ∧ Sat W w' [Big rows]
section
variable {W : World} {D : DS} {k : RDk} {pool : List HProp} {o : RAct}
theorem KH.same (h : KH W D k pool) {w' : World} {L : List HProp} (hs : Sat W w' L) : KP W D pool k w' := ⟨[], h.repk, h.ins, Sat.mkBig (l := []) (r := []) (Sat.keeps hs [])⟩
theorem RdS.of {S : RSt} (h : RdS W S) {w : World} {L : List HProp} (hs : Sat W w L) : RdS w S := ⟨h.th.of hs, fun t ht => (h.data t ht).of hs, h.na.of hs, h.la.of hs, h.ch.of hs⟩
theorem KH.of (h : KH W D k pool) {w : World} {L : List HProp} (hs : Sat W w L) : KH w D k pool := { h with rd := h.rd.of hs }
set_option maxHeartbeats 4000000 in
theorem Do_call (h : KH W D k pool) (rdD : Rd eB W o.A o.data) (h1 : 1 ≤ o.kind) (h7 : o.kind ≤ 7) (hdl : o.data.length ≤ 4611686018427387904) (hal : o.a.length ≤ 140737488355328) (hbl : o.b.length ≤ 140737488355328) : Calls Try.prog 87 [Value.agg (eK k).toArray, .agg (eA o).toArray].toArray W (Ret fun v w' => ∃ k', v = .tuple #[.agg (eK k').toArray, .int .i64 (D.act o.kind o.a o.b o.n o.data).1] ∧ KP W (D.act o.kind o.a o.b o.n o.data).2 pool k' w') := by
  refine Calls_of Try.func87 rfl 35 Try.ntmps87 rfl ?_
  have hs := Sat.start W
  obtain ⟨q, S, l, d⟩ := k
  have h' := h
  obtain ⟨rd, ins, ⟨rq, rep, rleft, rdown⟩, good, hfs, hnow, hchs, hlft⟩ := h'
  dsimp only at rq rep rleft rdown rd ins
  subst rleft
  have hL : -1 ≤ leftI D.left ∧ (leftI D.left = 0 ↔ D.left = some 0) := by
    cases e : D.left with
    | none => exact ⟨by decide, by simp [leftI]⟩
    | some n => exact ⟨by show (-1 : Int) ≤ (n : Int); omega, by simp [leftI]⟩
  by_cases hd : D.down = true
  · rw [hd] at rdown
    subst rdown
    rw [act_down hd]
    rw [hK]
    (repeat' (first | (refine isLW ?_; first | refine LW_nil ?_ | (refine isLload ?_; first | refine LW_loadCAE 2 (eK ⟨q, S, leftI D.left, true⟩) TOK hs rfl rfl rfl rfl (Nat.le_of_ble_eq_true rfl) rfl ?_ | refine LW_loadC 2 TOK hs rfl rfl rfl rfl rfl ?_) | (refine isLstore ?_; first | (refine LW_storeCA 0 TOK hs rfl rfl rfl rfl rfl (eK_ok.2 ⟨q, S, leftI D.left, true⟩) rfl (Nat.le_of_ble_eq_true rfl) ?_; clear hs; intro w hs)) | refine LW_pure TOK rfl ?_ | (refine LW_box hs rfl rfl ?_; clear hs; intro _ w hs) | (refine LW_alloc TOK hs rfl rfl ?_; clear hs; intro _ w hs)) | (with_reducible first | refine then_n ?_ | refine CW_seq ?_ | refine CW_region ?_ | refine CW_ret ?_ | refine then_r ?_) | refine RETA2 0 hs TOK Try.results87 rfl rfl rfl rfl rfl rfl ?_ | refine CW_true rfl ?_))
    exact ⟨_, rfl, h.same hs⟩
  have hd : D.down = false := by simpa using hd
  rw [hd] at rdown
  subst rdown
  rw [act_left hd]
  have hg0 : Good (D.armd none) := by have := good.left none D.down; exact this
  have hcd : ((D.armd none).act o.kind o.a o.b o.n o.data).1 = refC D o.kind o.a o.b o.n o.data := by
    rw [act_code (D := D.armd none) rfl hd h1 h7]; rfl
  obtain ⟨r, hr⟩ : ∃ r, (D.armd none).act o.kind o.a o.b o.n o.data = r := ⟨_, rfl⟩
  have hact : ∀ {w : World} {L : List HProp}, Sat W w L → r.1 = 0 → Calls Try.prog 94 [Value.agg (eS S).toArray, .agg (eA o).toArray].toArray w (Ret (ActP w r.2 pool)) := fun hs e => by
    have := ract_call (D := D.armd none) (S := S) (pool := pool) (o := o) ⟨rd.of hs, ins, rep.congr rfl rfl rfl rfl, hg0, rfl, rdD.of hs, hfs, hnow, hchs⟩ h1 h7 (by rw [hr]; exact e)
    rw [hr] at this
    exact this
  rw [hr] at hcd
  rw [hr]
  have href : ∀ {w : World} {L : List HProp}, Sat W w L → Calls Try.prog 93 [Value.agg (eK ⟨q, S, leftI D.left, false⟩).toArray, .agg (eA o).toArray].toArray w (Ret fun v w' => v = .int .i64 r.1 ∧ Sat w w' []) := fun hs => by
    have := refused_call (h.of hs) hd h1 h7 hdl hal hbl
    rw [← hcd] at this
    exact this
  by_cases h0 : r.1 = 0
  · rw [h0] at href
    have hsm : Same (D.armd none) r.2 := by rw [← hr]; exact act_same _ _ _ _ _ _
    have hq2 : r.2.quota = D.quota := by rw [hsm.quota]; rfl
    have hd2 : r.2.down = false := by rw [← hr]; exact act_up (D := D.armd none) rfl hd _ _ _ _ _
    cases hlf : D.left with
    | none =>
      have e : armR (D.armd none) none r = (0, r.2.armd none) := by unfold armR; rw [if_pos h0]
      rw [e]
      rw [hlf] at href
      have el : leftI none = -1 := rfl
      rw [el] at href ⊢
      rw [hK]
      (repeat' (first | (refine isLW ?_; first | refine LW_nil ?_ | (refine isLload ?_; first | refine LW_loadCAE 2 (eK ⟨q, S, -1, false⟩) TOK hs rfl rfl rfl rfl (Nat.le_of_ble_eq_true rfl) rfl ?_ | refine LW_loadCAE 1 (eA o) TOK hs rfl rfl rfl rfl (Nat.le_of_ble_eq_true rfl) rfl ?_ | refine LW_loadCAE 2 (eS S) TOK hs rfl rfl rfl rfl (Nat.le_of_ble_eq_true rfl) rfl ?_ | refine LW_loadCAE 3 (eK ⟨q, S', -1, false⟩) TOK hs rfl rfl rfl rfl (Nat.le_of_ble_eq_true rfl) rfl ?_ | refine LW_loadC 2 TOK hs rfl rfl rfl rfl rfl ?_) | (refine isLstore ?_; first | (refine LW_storeCA 3 TOK hs rfl rfl rfl rfl rfl (eS_ok.2 S') rfl (Nat.le_of_ble_eq_true rfl) ?_; clear hs; intro w hs) | (refine LW_storeCA 1 TOK hs rfl rfl rfl rfl rfl (eK_ok.2 ⟨q, S', -1, false⟩) rfl (Nat.le_of_ble_eq_true rfl) ?_; clear hs; intro w hs)) | (refine isLcall ?_; first | (refine LW_call (cap := []) rfl rfl ent93 (href hs) ?_; rintro _ w2 ⟨rfl, hs2⟩; replace hs := hs.and0 hs2; clear hs2) | (refine LW_call (cap := []) rfl rfl ent94 (hact hs h0) ?_; rintro _ w2 ⟨S', rows, rfl, hrep', hins', hs2⟩; replace hs := hs.and1 hs2; clear hs2)) | (refine isLbin ?_; first | (refine LW_cmp rfl (fun _ => ?_) (fun _ => ?_) <;> try (exfalso; omega))) | refine LW_pure TOK rfl ?_ | (refine LW_box hs rfl rfl ?_; clear hs; intro _ w hs) | (refine LW_alloc TOK hs rfl rfl ?_; clear hs; intro _ w hs)) | (with_reducible first | refine then_n ?_ | refine CW_seq ?_ | refine CW_region ?_ | refine CW_skip ?_ | refine CW_ret ?_) | refine RETA2 1 hs TOK Try.results87 rfl rfl rfl rfl rfl rfl ?_ | refine CW_false rfl ?_))
      exact ⟨⟨q, S', -1, false⟩, rfl, rows, ⟨by show q = _; rw [rq, ← hq2]; rfl, hrep'.congr rfl rfl rfl rfl, rfl, hd2.symm⟩, hins', Sat.keeps hs [0]⟩
    | some n =>
      cases n with
      | zero =>
        have e : armR (D.armd none) (some 0) r = (60, D.dead) := by unfold armR; rw [if_pos h0]; rfl
        rw [e]
        rw [hlf] at href
        have el : leftI (some 0) = 0 := rfl
        rw [el] at href ⊢
        rw [hK]
        (repeat' (first | (refine isLW ?_; first | refine LW_nil ?_ | (refine isLload ?_; first | refine LW_loadCAE 2 (eK ⟨q, S, 0, false⟩) TOK hs rfl rfl rfl rfl (Nat.le_of_ble_eq_true rfl) rfl ?_ | refine LW_loadCAE 1 (eA o) TOK hs rfl rfl rfl rfl (Nat.le_of_ble_eq_true rfl) rfl ?_ | refine LW_loadCAE 2 (eK ⟨q, S, 0, true⟩) TOK hs rfl rfl rfl rfl (Nat.le_of_ble_eq_true rfl) rfl ?_ | refine LW_loadC 2 TOK hs rfl rfl rfl rfl rfl ?_) | (refine isLstore ?_; first | (refine LW_storeCA 0 TOK hs rfl rfl rfl rfl rfl (eK_ok.2 ⟨q, S, 0, true⟩) rfl (Nat.le_of_ble_eq_true rfl) ?_; clear hs; intro w hs) | (refine LW_storeC 2 TOK hs rfl rfl rfl rfl rfl rfl rfl ?_; clear hs; intro w hs)) | (refine isLcall ?_; first | (refine LW_call (cap := []) rfl rfl ent93 (href hs) ?_; rintro _ w2 ⟨rfl, hs2⟩; replace hs := hs.and0 hs2; clear hs2)) | (refine isLbin ?_; first | (refine LW_cmp rfl (fun _ => ?_) (fun _ => ?_) <;> try (exfalso; omega))) | refine LW_pure TOK rfl ?_ | (refine LW_box hs rfl rfl ?_; clear hs; intro _ w hs) | (refine LW_alloc TOK hs rfl rfl ?_; clear hs; intro _ w hs)) | (with_reducible first | refine then_n ?_ | refine CW_seq ?_ | refine CW_region ?_ | refine CW_skip ?_ | refine CW_ret ?_ | refine then_r ?_) | refine RETA2 0 hs TOK Try.results87 rfl rfl rfl rfl rfl rfl ?_ | refine CW_true rfl ?_ | refine CW_false rfl ?_))
        exact ⟨⟨q, S, 0, true⟩, rfl, [], ⟨rq, rep.congr rfl rfl rfl rfl, rfl, rfl⟩, ins, Sat.mkBig (l := []) (r := []) (Sat.keeps hs [])⟩
      | succ n =>
        have e : armR (D.armd none) (some (n + 1)) r = (0, r.2.armd (some n)) := by unfold armR; rw [if_pos h0]
        rw [e]
        rw [hlf] at href
        have el : leftI (some (n + 1)) = (n : Int) + 1 := rfl
        have hln : (n : Int) + 1 ≤ 9223372036854775807 := by rw [← el, ← hlf]; exact hlft
        rw [el] at href ⊢
        rw [hK]
        (repeat' (first | (refine isLW ?_; first | refine LW_nil ?_ | (refine isLload ?_; first | refine LW_loadCAE 2 (eK ⟨q, S, (n : Int) + 1, false⟩) TOK hs rfl rfl rfl rfl (Nat.le_of_ble_eq_true rfl) rfl ?_ | refine LW_loadCAE 1 (eA o) TOK hs rfl rfl rfl rfl (Nat.le_of_ble_eq_true rfl) rfl ?_ | refine LW_loadCAE 2 (eS S) TOK hs rfl rfl rfl rfl (Nat.le_of_ble_eq_true rfl) rfl ?_ | refine LW_loadCAE 3 (eK ⟨q, S', (n : Int) + 1 - 1, false⟩) TOK hs rfl rfl rfl rfl (Nat.le_of_ble_eq_true rfl) rfl ?_ | refine LW_loadC 2 TOK hs rfl rfl rfl rfl rfl ?_) | (refine isLstore ?_; first | (refine LW_storeCA 3 TOK hs rfl rfl rfl rfl rfl (eS_ok.2 S') rfl (Nat.le_of_ble_eq_true rfl) ?_; clear hs; intro w hs) | (refine LW_storeCA 1 TOK hs rfl rfl rfl rfl rfl (eK_ok.2 ⟨q, S', (n : Int) + 1 - 1, false⟩) rfl (Nat.le_of_ble_eq_true rfl) ?_; clear hs; intro w hs) | (refine LW_storeC 2 TOK hs rfl rfl rfl rfl rfl rfl rfl ?_; clear hs; intro w hs)) | (refine isLcall ?_; first | (refine LW_call (cap := []) rfl rfl ent93 (href hs) ?_; rintro _ w2 ⟨rfl, hs2⟩; replace hs := hs.and0 hs2; clear hs2) | (refine LW_call (cap := []) rfl rfl ent94 (hact hs h0) ?_; rintro _ w2 ⟨S', rows, rfl, hrep', hins', hs2⟩; replace hs := hs.and1 hs2; clear hs2)) | (refine isLbin ?_; first | refine LW_i64 rfl (by omega) (by omega) ?_ | (refine LW_cmp rfl (fun _ => ?_) (fun _ => ?_) <;> try (exfalso; omega))) | refine LW_pure TOK rfl ?_ | (refine LW_box hs rfl rfl ?_; clear hs; intro _ w hs) | (refine LW_alloc TOK hs rfl rfl ?_; clear hs; intro _ w hs)) | (with_reducible first | refine then_n ?_ | refine CW_seq ?_ | refine CW_region ?_ | refine CW_skip ?_ | refine CW_ret ?_) | refine RETA2 1 hs TOK Try.results87 rfl rfl rfl rfl rfl rfl ?_ | refine CW_true rfl ?_ | refine CW_false rfl ?_))
        exact ⟨⟨q, S', (n : Int) + 1 - 1, false⟩, rfl, rows, ⟨by show q = _; rw [rq, ← hq2]; rfl, hrep'.congr rfl rfl rfl rfl, by show ((n : Int) + 1 - 1) = (n : Int); omega, hd2.symm⟩, hins', Sat.keeps hs [0]⟩
  · have e : armR (D.armd none) D.left r = (r.1, D) := by unfold armR; rw [if_neg h0]; rfl
    rw [e]
    rw [hK]
    (repeat' (first | (refine isLW ?_; first | refine LW_nil ?_ | (refine isLload ?_; first | refine LW_loadCAE 2 (eK ⟨q, S, leftI D.left, false⟩) TOK hs rfl rfl rfl rfl (Nat.le_of_ble_eq_true rfl) rfl ?_ | refine LW_loadCAE 1 (eA o) TOK hs rfl rfl rfl rfl (Nat.le_of_ble_eq_true rfl) rfl ?_ | refine LW_loadC 2 TOK hs rfl rfl rfl rfl rfl ?_) | (refine isLstore ?_; first | (refine LW_storeCA 0 TOK hs rfl rfl rfl rfl rfl (eK_ok.2 ⟨q, S, leftI D.left, false⟩) rfl (Nat.le_of_ble_eq_true rfl) ?_; clear hs; intro w hs)) | (refine isLcall ?_; first | (refine LW_call (cap := []) rfl rfl ent93 (href hs) ?_; rintro _ w2 ⟨rfl, hs2⟩; replace hs := hs.and0 hs2; clear hs2)) | (refine isLbin ?_; first | (refine LW_cmp rfl (fun _ => ?_) (fun _ => ?_) <;> try (exfalso; omega))) | refine LW_pure TOK rfl ?_ | (refine LW_box hs rfl rfl ?_; clear hs; intro _ w hs) | (refine LW_alloc TOK hs rfl rfl ?_; clear hs; intro _ w hs)) | (with_reducible first | refine then_n ?_ | refine CW_seq ?_ | refine CW_region ?_ | refine CW_skip ?_ | refine CW_ret ?_ | refine then_r ?_) | refine RETA2 0 hs TOK Try.results87 rfl rfl rfl rfl rfl rfl ?_ | refine CW_true rfl ?_ | refine CW_false rfl ?_))
    exact ⟨⟨q, S, leftI D.left, false⟩, rfl, h.same hs⟩
end
end Go.Proofs.Ytoodgenbcfdloaa
