/- A store into one cell of an element of a row of one's own. -/
import Derived.Test.YtoodgenbcfdloaaSlB
import Derived.Test.YtoodgenbcfdloaaQ3
set_option linter.unusedVariables false
set_option linter.unusedSimpArgs false
namespace Go.Sl
open Go.RowKit
theorem set_cut {α : Type} (l : List α) (a sz f : Nat) (e : List α) (u : α) (he : (l.drop a).take sz = e) (hl : e.length = sz) (hf : f < sz) (hfit : a + sz ≤ l.length) :
    l.take (a + f) ++ [u] ++ l.drop (a + f + 1) = l.take a ++ e.set f u ++ l.drop (a + sz) := by
  have h1 : l = l.take a ++ e ++ l.drop (a + sz) := by
    rw [← he, List.append_assoc]
    have : (l.drop a).take sz ++ l.drop (a + sz) = l.drop a := by
      rw [← List.drop_drop, List.take_append_drop]
    rw [this, List.take_append_drop]
  have h2 : (l.take a).length = a := by rw [List.length_take]; omega
  have h3 : e.set f u = e.take f ++ [u] ++ e.drop (f + 1) := by
    rw [List.set_eq_take_append_cons_drop, if_pos (by omega)]; simp
  have h4 : l.take (a + f) = l.take a ++ e.take f := by
    conv => lhs; rw [h1]
    rw [List.append_assoc, List.take_append, h2, List.take_of_length_le (by omega), show a + f - a = f by omega, List.take_append_of_le_length (by omega)]
  have h5 : l.drop (a + f + 1) = e.drop (f + 1) ++ l.drop (a + sz) := by
    conv => lhs; rw [h1]
    rw [List.append_assoc, List.drop_append, h2, List.drop_eq_nil_of_le (by omega), show a + f + 1 - a = f + 1 by omega, List.drop_append_of_le_length (by omega), List.nil_append]
  rw [h3, h4, h5]
  simp [List.append_assoc]
section
variable {r : Option Nat} {P : Program} {T : List (Nat × TI)} {W w : World} {L : List HProp} {n : Nat} {s : List (Nat × Value)} {τ : Nat → Value} {ds : List Deferred} {Q : Exit → Act → World → Prop} {rest : List Oper} {ops : Array Oper} {ty : TypeId} {ps : String} {af : Array Edge}
theorem LW_storeRowF (i f : Nat) {α : Type} [Inhabited α] {enc : α → List Value} {sz : Nat} (hE : (∀ x, (enc x).length = sz) ∧ ∀ x, ∀ u ∈ enc x, u.oneCell' = true) {xs : List α} (z : α) {A : Option Addr} {c b o : Nat} {j : Int} {x y : Operand} {t e : TypeId} {ti : TI} {v u : Value} (hs : Sat W w L) (hT : TyOK P T) (hx : EVO n s x = some (.pointer (some ⟨b, o + j.toNat * sz + f, none⟩))) (hA : A = some ⟨b, o, none⟩) (hy : EVO n s y = some v) (ht : lookT T t = some ti) (hv : cellsO v = some [u]) (h1 : u.oneCell' = true) (hsz : ti.size = 1)
    (hi : getA L i = some (RowOf enc e sz A c xs)) (hf : Nat.blt f sz = true) (hz : (enc (rd xs j)).set f u = enc z) (h0 : 0 ≤ j) (hj : j < xs.length) (k : ∀ w', Sat W w' (L.set i (RowOf enc e sz A c (xs.set j.toNat z))) → LW r P ops Q rest (FR n s τ ds) w') : LW r P ops Q (⟨none, .store t x y, ty, ps, af, none⟩ :: rest) (FR n s τ ds) w := by
  have hf : f < sz := by have := Nat.le_of_ble_eq_true hf; omega
  have hrd : Rd enc w A xs := hs.rd i hi
  rw [getA_eq] at hi
  obtain ⟨g, cur, hA2, hcur, hfit, hnew⟩ := (hs.front i hi).rowSet hE.1 (j := j.toNat) (by omega)
  rw [hA] at hA2
  injection hA2 with hA2
  injection hA2 with hb ho
  subst hb; subst ho
  have hcut : (cur.toList.drop (j.toNat * sz)).take sz = enc (rd xs j) := by
    apply List.ext_getElem?
    intro m
    by_cases hm : m < sz
    · have hmz : m < (enc (rd xs j)).length := by rw [hE.1]; exact hm
      have := hrd.cell hE.1 hA h0 hj (k := m) (v := (enc (rd xs j))[m]) (by rw [getA_eq]; exact List.getElem?_eq_getElem hmz)
      rw [Nat.zero_add] at this
      rw [List.getElem?_take, if_pos hm, List.getElem?_drop, List.getElem?_eq_getElem hmz, ← this]
      simp [World.cell?, hcur]
    · rw [List.getElem?_eq_none (by rw [List.length_take]; omega), List.getElem?_eq_none (by rw [hE.1]; omega)]
  have heq := set_cut cur.toList (j.toNat * sz) sz f (enc (rd xs j)) u hcut (hE.1 _) hf (by simpa using hfit)
  rw [hz] at heq
  refine LW_runSkip (w' := w.setRow b (cur.toList.take (j.toNat * sz) ++ enc z ++ cur.toList.drop (j.toNat * sz + sz)).toArray) rfl (fun c e => by cases e) ?_ (k _ (Sat.back hi (hnew z)))
  show Sem.run P (do Instr.storeAt t ((FR n s τ ds).eval x) ((FR n s τ ds).eval y); pure Next.skip) w = _
  rw [Nat.zero_add] at hx
  rw [eval_of hx, eval_of hy, Sem.run_bind, run_storeW (hT _ _ ht) hv (by rw [hsz]; rfl) hcur (by simp; omega) (by simpa using h1), ← heq]; rfl
end
end Go.Sl

/- The document's disk; walks: named, lasting, begin. -/
set_option linter.unusedVariables false
set_option linter.unusedSimpArgs false
namespace Go.Proofs.Ytoodgenbcfdloaa
open Go Go.Sl Go.RowKit
set_option maxRecDepth 100000
attribute [local irreducible] CW LW DW FR DP Calls

def namedS (S : RSt) (c : Chg) (A1 : Option Addr) (c1 : Nat) (A2 : Option Addr) (c2 : Nat) : RSt := { S with NA := A1, nc := c1, na := doC S.na c, CA := A2, cc := c2, ch := S.ch ++ [c] }
theorem doC_len (l : Names) (c : Chg) : (doC l c).length ≤ l.length + 1 := by
  have h1 : (if c.a = [] then l else wo l c.a).length ≤ l.length := by
    split
    · exact Nat.le_refl _
    · exact List.length_filter_le _ _
  unfold doC
  dsimp only
  split
  · omega
  split
  · omega
  · rename_i f _
    have := (wi_perm (if c.a = [] then l else wo l c.a) c.b f).length_eq
    have h2 : (wo (if c.a = [] then l else wo l c.a) c.b).length ≤ (if c.a = [] then l else wo l c.a).length := List.length_filter_le _ _
    rw [this, List.length_cons]; omega
set_option maxHeartbeats 2000000 in
theorem named_call (W : World) (S : RSt) (c : Chg) (rn : Rd eE W S.NA S.na) (rc : Rd eCh W S.CA S.ch) (hn : S.na.length ≤ 2199023255552) (hc : S.ch.length ≤ 2199023255552) (hok : okC S.na c) (hm : c.made.getD 0 ≤ 4611686018427387904) (hf : ∀ p ∈ S.na, p.2 ≤ 4611686018427387904) :
    Calls Try.prog 102 [Value.agg (eS S).toArray, .agg (eCh c).toArray].toArray W (Ret fun v w' => ∃ A1 c1 A2 c2, v = .agg (eS (namedS S c A1 c1 A2 c2)).toArray ∧ Sat W w' [RowOf eE 113 2 A1 c1 (doC S.na c), RowOf eCh 121 4 A2 c2 (S.ch ++ [c])]) := by
  refine Calls_of Try.func102 rfl 22 Try.ntmps102 rfl ?_
  have hs := (Sat.start W).nilRow 121 4
  have hnl : ([] : List Chg).length = 0 := rfl
  have hnl2 : ([] ++ S.ch : List Chg).length = S.ch.length := rfl
  (repeat' (first | (refine LW_box hs rfl rfl ?_; clear hs; intro bx w hs) | (refine isLW ?_; first | refine LW_nil ?_ | (refine isLload ?_; first | refine LW_loadCAE 1 (eCh c) TOK hs rfl rfl rfl rfl (Nat.le_of_ble_eq_true rfl) rfl ?_ | refine LW_loadCAE 2 (eS (namedS S c A5 c5 A3 c3)) TOK hs rfl rfl rfl rfl (Nat.le_of_ble_eq_true rfl) rfl ?_ | refine LW_loadC 2 TOK hs rfl rfl rfl rfl rfl ?_) | (refine isLstore ?_; first | (refine LW_storeCA 0 TOK hs rfl rfl rfl rfl rfl (eS_ok.2 (namedS S c A5 c5 A3 c3)) rfl (Nat.le_of_ble_eq_true rfl) ?_; clear hs; intro w hs) | (refine LW_storeC 2 TOK hs rfl rfl rfl rfl rfl rfl rfl ?_; clear hs; intro w hs)) | (refine isLcall ?_; first | (refine LW_append 3 (xs := ([] : List Chg)) (ys := S.ch) eCh_ok.1 hs TOK rfl rfl (rc.of hs) eCh_ok.2 rfl rfl rfl rfl rfl rfl rfl (by unfold maxLen; omega) (by simp only []; omega) ?_; clear hs; intro A2 c2 w hs) | (refine LW_append1 3 eCh_ok (z := c) hs TOK rfl rfl rfl rfl rfl rfl rfl rfl rfl rfl (by unfold maxLen; omega) (by simp only []; omega) ?_; clear hs; intro A3 c3 w hs) | (refine LW_call (cap := []) rfl rfl ent67 (changed_call _ S.na S.NA S.nc c (rn.of hs) hn hok hm hf) ?_; rintro _ w2 ⟨A5, c5, rfl, hs2⟩; replace hs := (hs.and1 hs2).picks [1, 1, 1, 1, 0]; clear hs2)) | refine LW_pure TOK rfl ?_ | (refine LW_alloc TOK hs rfl rfl ?_; clear hs; intro _ w hs) | (refine LW_buildSlice TOK hs rfl rfl rfl rfl rfl rfl rfl ?_; clear hs; intro _ w hs)) | (with_reducible first | refine then_n ?_ | refine CW_seq ?_ | refine CW_region ?_ | refine CW_ret ?_) | refine RETA 0 hs TOK Try.results102 rfl rfl rfl rfl rfl ?_))
  exact ⟨A5, c5, A3, c3, rfl, Sat.keeps hs [4, 3]⟩
def noTh : RTh := ⟨none, 0, [], 0, false⟩
/-- The things behind a SyncDir: those that have a name are there. -/
def lastTh (na : Names) (k : Nat) (t : RTh) : RTh := if (na.any fun p => decide (p.2 = k)) = true then { t with there := true } else noTh
def lastT (na : Names) : Nat → List RTh → List RTh
  | _, [] => []
  | k, t :: l => lastTh na k t :: lastT na (k + 1) l
theorem lastT_len (na : Names) : ∀ (k : Nat) (l : List RTh), (lastT na k l).length = l.length
  | _, [] => rfl
  | k, t :: l => by simp [lastT, lastT_len na (k + 1) l]
theorem lastT_snoc (na : Names) : ∀ (l : List RTh) (k : Nat) (t : RTh), lastT na k (l ++ [t]) = lastT na k l ++ [lastTh na (k + l.length) t]
  | [], k, t => rfl
  | x :: l, k, t => by
    show lastTh na k x :: lastT na (k + 1) (l ++ [t]) = _
    rw [lastT_snoc na l (k + 1) t]
    show _ = lastTh na k x :: (lastT na (k + 1) l ++ _)
    rw [show k + 1 + l.length = k + (x :: l).length by simp; omega]
def lastS (S : RSt) (A1 : Option Addr) (c1 : Nat) : RSt := { S with TA := A1, tc := c1, th := lastT S.na 0 S.th, LA := S.NA, lc := S.nc, la := S.na, CA := none, cc := 0, ch := [] }
set_option maxHeartbeats 4000000 in
theorem lasting_call (W : World) (S : RSt) (rt : Rd eT W S.TA S.th) (rn : Rd eE W S.NA S.na) (ht : S.th.length ≤ 2199023255552) (hn : S.na.length ≤ 4611686018427387904) :
    Calls Try.prog 104 [Value.agg (eS S).toArray].toArray W (Ret fun v w' => ∃ A1 c1, v = .agg (eS (lastS S A1 c1)).toArray ∧ Sat W w' [RowOf eT 111 3 A1 c1 (lastT S.na 0 S.th)]) := by
  refine Calls_of Try.func104 rfl 51 Try.ntmps104 rfl ?_
  have hs := (Sat.start W).nilRow 111 3
  (repeat' (first | (refine LW_box hs rfl rfl ?_; clear hs; intro bx w hs) | (refine LW_alloc TOK hs rfl rfl ?_; clear hs; intro bd w hs) | (refine isLW ?_; first | refine LW_nil ?_ | refine LW_pure TOK rfl ?_) | (with_reducible first | refine then_n ?_ | refine CW_seq ?_ | refine CW_region ?_ | refine CW_block ?_)))
  refine CW_loop (γ := Nat × Option Addr × Nat) (fun g => [(1, .pointer (some ⟨bx, 0, none⟩)), (2, .pointer (some ⟨bd, 0, none⟩)), (3, .slice g.2.1 (lastT S.na 0 (S.th.take g.1)).length g.2.2), (4, .int .i64 (g.1 : Int))])
    (fun g w' => Sat W w' [Cl bd [.slice none 0 0, .slice none 0 0, .slice none 0 0, .slice none 0 0] 43, Cl bx (eS S) 43, RowOf eT 111 3 g.2.1 g.2.2 (lastT S.na 0 (S.th.take g.1))] ∧ g.1 ≤ S.th.length) (fun g => S.th.length - g.1) (0, none, 0) ⟨rfl, rfl, rfl, rfl, trivial⟩ ⟨hs, by omega⟩ ?_
  clear hs
  rintro ⟨i, A1, c1⟩ τ w ⟨hs, h1⟩
  try dsimp only at hs h1 ⊢
  have hlen : (lastT S.na 0 (S.th.take i)).length = i := by rw [lastT_len, List.length_take]; omega
  by_cases hlt : i < S.th.length
  · have hru := rd_at hlt
    have hnx : lastT S.na 0 (S.th.take (i + 1)) = lastT S.na 0 (S.th.take i) ++ [lastTh S.na i S.th[i]] := by
      rw [List.take_succ_eq_append_getElem hlt, lastT_snoc, List.length_take, Nat.min_eq_left (by omega), Nat.zero_add]
    obtain ⟨t, hti⟩ : ∃ t, S.th[i] = t := ⟨_, rfl⟩
    rw [hti] at hru hnx
    obtain ⟨anyB, hany⟩ : ∃ anyB : Nat → Bool, ∀ k, anyB k = ((S.na.take k).any fun p => decide (p.2 = i)) := ⟨_, fun _ => rfl⟩
    (repeat' (first | (refine LW_alloc TOK hs rfl rfl ?_; clear hs; intro bt w hs) | (refine isLW ?_; first | refine LW_nil ?_ | (refine isLload ?_; first | refine LW_loadRdA (vs := eT t) (rt.of hs) (fun _ => rfl) TOK rfl (by assumption) rfl rfl rfl (by omega) (by omega) (by rw [hru]) ?_ | refine LW_loadC 1 TOK hs rfl rfl rfl rfl rfl ?_) | (refine isLstore ?_; first | (refine LW_storeCA 0 TOK hs rfl rfl rfl rfl rfl (eT_ok.2 t) rfl (Nat.le_of_ble_eq_true rfl) ?_; clear hs; intro w hs) | (refine LW_storeC 0 TOK hs rfl rfl rfl rfl rfl rfl rfl ?_; clear hs; intro w hs)) | (refine isLcall ?_; first | refine LW_pure TOK rfl ?_) | (refine isLidx ?_; first | (refine LW_indexRd (rt.of hs) TOK rfl rfl rfl rfl rfl (by omega) (by omega) ?_; intro _ _ _)) | (refine isLbin ?_; first | (refine LW_cmp rfl (fun _ => ?_) (fun _ => ?_) <;> try (exfalso; omega))) | refine LW_pure TOK rfl ?_) | (with_reducible first | refine then_n ?_ | refine CW_seq ?_ | refine CW_region ?_ | refine CW_block ?_ | refine CW_skip ?_) | refine CW_true rfl ?_))
    refine CW_loop (γ := Nat) (fun g => [(1, .pointer (some ⟨bx, 0, none⟩)), (2, .pointer (some ⟨bd, 0, none⟩)), (3, .slice A1 (lastT S.na 0 (S.th.take i)).length c1), (4, .int .i64 (i : Int)), (5, .pointer (some ⟨bt, 0, none⟩)), (6, .int .i64 (g : Int))])
      (fun g w' => Sat W w' [Cl bt [.slice t.A t.d.length t.c, .int .i64 (t.syn : Int), .bool (anyB g)] 111, Cl bd [.slice none 0 0, .slice none 0 0, .slice none 0 0, .slice none 0 0] 43, Cl bx (eS S) 43, RowOf eT 111 3 A1 c1 (lastT S.na 0 (S.th.take i))] ∧ g ≤ S.na.length) (fun g => S.na.length - g) 0 ⟨rfl, rfl, rfl, rfl, rfl, rfl, trivial⟩ ⟨by rw [hany]; exact hs, by omega⟩ ?_
    clear hs
    rintro j τ w ⟨hs, h2⟩
    try dsimp only at hs h2 ⊢
    by_cases hlj : j < S.na.length
    · have hrn := rd_at hlj
      have hsk : anyB (j + 1) = (anyB j || decide (S.na[j].2 = i)) := by
        rw [hany, hany, List.take_succ_eq_append_getElem hlj, List.any_append]
        simp
      by_cases he : S.na[j].2 = i
      · have hri : ((rd S.na (j : Int)).2 : Int) = i := by rw [hrn, he]
        rw [decide_eq_true he, Bool.or_true] at hsk
        (repeat' (first | (refine isLW ?_; first | refine LW_nil ?_ | (refine isLload ?_; first | refine LW_loadC 2 TOK hs rfl rfl rfl rfl rfl ?_ | refine LW_loadRd (rn.of hs) (fun _ => rfl) TOK rfl (by assumption) rfl rfl (by omega) (by omega) rfl ?_) | (refine isLstore ?_; first | (refine LW_storeC 0 TOK hs rfl rfl rfl rfl rfl rfl rfl ?_; clear hs; intro w hs)) | (refine isLcall ?_; first | refine LW_pure TOK rfl ?_) | (refine isLidx ?_; first | (refine LW_indexRd (rn.of hs) TOK rfl rfl rfl rfl rfl (by omega) (by omega) ?_; intro _ _ _)) | (refine isLbin ?_; first | refine LW_i64 rfl (by omega) (by omega) ?_ | (refine LW_cmp rfl (fun _ => ?_) (fun _ => ?_) <;> try (exfalso; omega))) | refine LW_pure TOK rfl ?_) | (with_reducible first | refine then_n ?_ | refine CW_seq ?_ | refine CW_region ?_ | refine CW_block ?_ | refine CW_skip ?_ | refine blk_n ?_) | refine CW_true rfl ?_))
        exact ⟨j + 1, _, FR_forget _ ⟨rfl, rfl, rfl, rfl, rfl, by push_cast; rfl, trivial⟩, ⟨by rw [hsk]; exact hs, hlj⟩, by omega⟩
      · have hri : ¬ ((rd S.na (j : Int)).2 : Int) = i := by rw [hrn]; omega
        rw [decide_eq_false he, Bool.or_false] at hsk
        (repeat' (first | (refine isLW ?_; first | refine LW_nil ?_ | (refine isLload ?_; first | refine LW_loadC 2 TOK hs rfl rfl rfl rfl rfl ?_ | refine LW_loadRd (rn.of hs) (fun _ => rfl) TOK rfl (by assumption) rfl rfl (by omega) (by omega) rfl ?_) | (refine isLcall ?_; first | refine LW_pure TOK rfl ?_) | (refine isLidx ?_; first | (refine LW_indexRd (rn.of hs) TOK rfl rfl rfl rfl rfl (by omega) (by omega) ?_; intro _ _ _)) | (refine isLbin ?_; first | refine LW_i64 rfl (by omega) (by omega) ?_ | (refine LW_cmp rfl (fun _ => ?_) (fun _ => ?_) <;> try (exfalso; omega))) | refine LW_pure TOK rfl ?_) | (with_reducible first | refine then_n ?_ | refine CW_seq ?_ | refine CW_region ?_ | refine CW_block ?_ | refine CW_skip ?_ | refine blk_n ?_) | refine CW_true rfl ?_ | refine CW_false rfl ?_))
        exact ⟨j + 1, _, FR_forget _ ⟨rfl, rfl, rfl, rfl, rfl, by push_cast; rfl, trivial⟩, ⟨by rw [hsk]; exact hs, hlj⟩, by omega⟩
    · have hje : anyB j = S.na.any fun p => decide (p.2 = i) := by rw [hany, List.take_of_length_le (by omega)]
      rw [hje] at hs
      by_cases hb : (S.na.any fun p => decide (p.2 = i)) = true
      · have hlt2 : lastTh S.na i t = { t with there := true } := by unfold lastTh; rw [if_pos hb]
        rw [hb] at hs
        (repeat' (first | (refine isLW ?_; first | refine LW_nil ?_ | (refine isLload ?_; first | refine LW_loadCAE 0 (eT (lastTh S.na i t)) TOK hs rfl rfl rfl rfl (Nat.le_of_ble_eq_true rfl) (by rw [hlt2]; rfl) ?_ | refine LW_loadC 0 TOK hs rfl rfl rfl rfl rfl ?_ | refine LW_loadC 2 TOK hs rfl rfl rfl rfl rfl ?_) | (refine isLcall ?_; first | (refine LW_append1 3 eT_ok (z := lastTh S.na i t) hs TOK rfl rfl rfl rfl rfl rfl rfl rfl rfl rfl (by unfold maxLen; omega) (by simp only []; omega) ?_; clear hs; intro A3 c3 w hs) | refine LW_pure TOK rfl ?_) | (refine isLbin ?_; first | refine LW_i64 rfl (by omega) (by omega) ?_ | (refine LW_cmp rfl (fun _ => ?_) (fun _ => ?_) <;> try (exfalso; omega))) | refine LW_pure TOK rfl ?_ | (refine LW_buildSlice TOK hs rfl rfl rfl rfl rfl rfl rfl ?_; clear hs; intro _ w hs)) | (with_reducible first | refine then_n ?_ | refine CW_seq ?_ | refine CW_region ?_ | refine CW_skip ?_ | refine CW_exit ?_ | refine then_e ?_ | refine blk_n ?_ | refine blk_same ?_) | refine CW_false rfl ?_))
        exact ⟨(i + 1, A3, c3), _, FR_forget _ ⟨rfl, rfl, by dsimp only; rw [hnx]; rfl, by push_cast; rfl, trivial⟩, ⟨by dsimp only; rw [hnx]; exact hs.drop1, hlt⟩, by dsimp only; omega⟩
      · have hlt2 : lastTh S.na i t = noTh := by unfold lastTh; rw [if_neg hb]
        have hb2 : (S.na.any fun p => decide (p.2 = i)) = false := (Bool.not_eq_true _).mp hb
        rw [hb2] at hs
        (repeat' (first | (refine isLW ?_; first | refine LW_nil ?_ | (refine isLload ?_; first | refine LW_loadCAE 0 (eT (lastTh S.na i t)) TOK hs rfl rfl rfl rfl (Nat.le_of_ble_eq_true rfl) (by rw [hlt2]; rfl) ?_ | refine LW_loadC 0 TOK hs rfl rfl rfl rfl rfl ?_ | refine LW_loadC 2 TOK hs rfl rfl rfl rfl rfl ?_) | (refine isLstore ?_; first | (refine LW_storeCA 0 TOK hs rfl rfl rfl rfl rfl (eT_ok.2 noTh) rfl (Nat.le_of_ble_eq_true rfl) ?_; clear hs; intro w hs)) | (refine isLcall ?_; first | (refine LW_append1 3 eT_ok (z := lastTh S.na i t) hs TOK rfl rfl rfl rfl rfl rfl rfl rfl rfl rfl (by unfold maxLen; omega) (by simp only []; omega) ?_; clear hs; intro A3 c3 w hs) | refine LW_pure TOK rfl ?_) | (refine isLbin ?_; first | refine LW_i64 rfl (by omega) (by omega) ?_ | (refine LW_cmp rfl (fun _ => ?_) (fun _ => ?_) <;> try (exfalso; omega))) | refine LW_pure TOK rfl ?_ | (refine LW_buildSlice TOK hs rfl rfl rfl rfl rfl rfl rfl ?_; clear hs; intro _ w hs) | refine LW_build TOK rfl rfl rfl rfl rfl rfl ?_) | (with_reducible first | refine then_n ?_ | refine CW_seq ?_ | refine CW_region ?_ | refine CW_exit ?_ | refine then_e ?_ | refine blk_n ?_ | refine blk_same ?_) | refine CW_true rfl ?_ | refine CW_false rfl ?_))
        exact ⟨(i + 1, A3, c3), _, FR_forget _ ⟨rfl, rfl, by dsimp only; rw [hnx]; rfl, by push_cast; rfl, trivial⟩, ⟨by dsimp only; rw [hnx]; exact hs.drop1, hlt⟩, by dsimp only; omega⟩
  · have e : S.th.take i = S.th := List.take_of_length_le (by omega)
    rw [e] at hs ⊢
    (repeat' (first | (refine isLW ?_; first | refine LW_nil ?_ | (refine isLload ?_; first | refine LW_loadCAE 1 (eS (lastS S A1 c1)) TOK hs rfl rfl rfl rfl (Nat.le_of_ble_eq_true rfl) rfl ?_ | refine LW_loadC 1 TOK hs rfl rfl rfl rfl rfl ?_) | (refine isLstore ?_; first | (refine LW_storeCA 0 TOK hs rfl rfl rfl rfl rfl (eS_ok.2 (lastS S A1 c1)) rfl (Nat.le_of_ble_eq_true rfl) ?_; clear hs; intro w hs) | (refine LW_storeC 1 TOK hs rfl rfl rfl rfl rfl rfl rfl ?_; clear hs; intro w hs)) | (refine isLcall ?_; first | refine LW_pure TOK rfl ?_) | (refine isLbin ?_; first | (refine LW_cmp rfl (fun _ => ?_) (fun _ => ?_) <;> try (exfalso; omega))) | refine LW_pure TOK rfl ?_) | (with_reducible first | refine then_n ?_ | refine CW_seq ?_ | refine CW_region ?_ | refine CW_exit ?_ | refine CW_ret ?_ | refine then_e ?_ | refine blk_same ?_) | refine RETA 0 hs TOK Try.results104 rfl rfl rfl rfl rfl ?_ | refine CW_false rfl ?_))
    exact ⟨A1, c1, rfl, Sat.keeps hs [2]⟩
end Go.Proofs.Ytoodgenbcfdloaa
