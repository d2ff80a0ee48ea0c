/- Walks: manifests looked at; files looked up, copied and cut. -/
import Derived.Test.YthhklkpkhaibcaaDoorM3
import Derived.Test.YthhklkpkhaibcaaDoorG15
import Derived.Test.YthhklkpkhaibcaaDoorSlRetC
import Derived.Test.YthhklkpkhaibcaaDoorSlField
import Derived.Test.YthhklkpkhaibcaaDoorSlTake
set_option linter.unusedVariables false
set_option linter.unusedSimpArgs false
namespace Go.Proofs.YthhklkpkhaibcaaDoor
open Go Go.Sl Go.RowKit
set_option maxRecDepth 100000
attribute [local irreducible] CW LW DW FR DP Calls
def eSg (s : Sg) : List Value := [.int .i64 s.num, .int .i64 s.size, .int .i64 s.cnt]
theorem eSg_ok : (∀ x, (eSg x).length = 3) ∧ ∀ x, ∀ u ∈ eSg x, u.oneCell' = true := ⟨fun _ => rfl, fun x u h => by
  simp [eSg] at h
  rcases h with rfl | rfl | rfl <;> rfl⟩
/-- A manifest as it lies. -/
def eM (m : Mn) (A : Option Addr) (c : Nat) : List Value := [.int .i64 m.gen, .int .i64 m.v, .int .i64 m.next, .int .i64 m.top, .slice A m.segs.length c]
theorem eM_one (m : Mn) (A : Option Addr) (c : Nat) : ∀ u ∈ eM m A c, u.oneCell' = true := fun u h => by
  simp [eM] at h
  rcases h with rfl | rfl | rfl | rfl | rfl <;> rfl
structure Mn.In (m : Mn) : Prop where
  gen : -9223372036854775808 ≤ m.gen ∧ m.gen ≤ 9223372036854775807
  v : -9223372036854775808 ≤ m.v ∧ m.v ≤ 9223372036854775807
  next : -9223372036854775808 ≤ m.next ∧ m.next ≤ 9223372036854775807
  top : -9223372036854775808 ≤ m.top ∧ m.top ≤ 9223372036854775807
  len : m.segs.length ≤ 140737488355328
theorem cutData_call (w : World) (A : Option Addr) (b : List UInt8) (c : Nat) (hc : b.length ≤ c) (hb : b.length ≤ 140737488355328) :
    Calls Tryd.prog 27 [Value.slice A b.length c].toArray w (Ret fun v w' => ∃ c', v = .slice A (b.take 4096).length c' ∧ w = w') := by
  refine Calls_of Tryd.func27 rfl 9 Tryd.ntmps27 rfl ?_
  have hs := Sat.start w
  obtain ⟨k, hk⟩ : ∃ k, (b.take 4096).length = k := ⟨_, rfl⟩
  rw [hk]
  rw [List.length_take] at hk
  by_cases h : 4096 < b.length
  · (repeat' (first | (refine isLW ?_; first | refine LW_nil ?_ | (refine isLcall ?_; first | refine LW_pure TOK rfl ?_) | (refine isLbin ?_; first | (refine LW_cmp rfl (fun _ => ?_) (fun _ => ?_) <;> try (exfalso; omega))) | refine LW_sliceH TOK rfl rfl rfl rfl rfl (by omega) (by omega) ?_ | refine LW_pure TOK rfl ?_) | (with_reducible first | refine then_n ?_ | refine CW_seq ?_ | refine CW_region ?_ | refine CW_ret ?_ | refine then_r ?_) | refine CW_true rfl ?_ | refine RET1 Tryd.results27 rfl ?_))
    exact ⟨c, by rw [show k = 4096 by omega]; rfl, rfl⟩
  · (repeat' (first | (refine isLW ?_; first | refine LW_nil ?_ | (refine isLcall ?_; first | refine LW_pure TOK rfl ?_) | (refine isLbin ?_; first | (refine LW_cmp rfl (fun _ => ?_) (fun _ => ?_) <;> try (exfalso; omega))) | refine LW_pure TOK rfl ?_) | (with_reducible first | refine then_n ?_ | refine CW_seq ?_ | refine CW_region ?_ | refine CW_skip ?_ | refine CW_ret ?_) | refine CW_false rfl ?_ | refine RET1 Tryd.results27 rfl ?_))
    exact ⟨c, by rw [show k = b.length by omega], rfl⟩
theorem small_call (w : World) : Calls Tryd.prog 13 #[] w (Ret fun v w' => ∃ A, v = .agg (eM smallM A 1).toArray ∧ Sat w w' [RowOf eSg 60 3 A 1 smallM.segs]) := by
  refine Calls_of (args := []) Tryd.func13 rfl 4 Tryd.ntmps13 rfl ?_
  have hs := Sat.start w
  (repeat' (first | (refine isLW ?_; first | refine LW_nil ?_ | (refine isLstore ?_; first | (refine LW_storeCA 1 TOK hs rfl rfl rfl rfl rfl (eM_one smallM _ 1) rfl (Nat.le_of_ble_eq_true rfl) ?_; clear hs; intro w hs)) | refine LW_build TOK rfl rfl rfl rfl rfl rfl ?_ | (refine LW_alloc TOK hs rfl rfl ?_; clear hs; intro _ w hs) | (refine LW_buildSlice TOK hs rfl rfl rfl rfl rfl rfl rfl ?_; clear hs; intro _ w hs)) | (with_reducible first | refine then_n ?_ | refine CW_seq ?_ | refine CW_region ?_ | refine CW_ret ?_) | refine RETA 1 hs TOK Tryd.results13 rfl rfl rfl rfl rfl ?_))
  exact ⟨_, rfl, Sat.firsts (hs.toRow (sz := 3) (n0 := 1) 0 rfl rfl (by decide)) 1⟩
theorem cutSegs_call (w : World) (m : Mn) (A : Option Addr) (c : Nat) (hi : m.In) (hc : m.segs.length ≤ c) :
    Calls Tryd.prog 11 [Value.agg (eM m A c).toArray].toArray w (Ret fun v w' => v = .agg (eM { m with segs := m.segs.take 300 } A c).toArray ∧ Sat w w' []) := by
  refine Calls_of Tryd.func11 rfl 12 Tryd.ntmps11 rfl ?_
  have hs := Sat.start w
  have hl := hi.len
  by_cases h : 300 < m.segs.length
  · have e : eM { m with segs := m.segs.take 300 } A c = [.int .i64 m.gen, .int .i64 m.v, .int .i64 m.next, .int .i64 m.top, .slice A 300 c] := by
      unfold eM
      dsimp only
      rw [List.length_take, Nat.min_eq_left (by omega)]
    (repeat' (first | (refine isLW ?_; first | refine LW_nil ?_ | (refine isLload ?_; first | refine LW_loadCAE 1 [.int .i64 m.gen, .int .i64 m.v, .int .i64 m.next, .int .i64 m.top, .slice A 300 c] TOK hs rfl rfl rfl rfl (Nat.le_of_ble_eq_true rfl) rfl ?_ | refine LW_loadC 1 TOK hs rfl rfl rfl rfl rfl ?_) | (refine isLstore ?_; first | (refine LW_storeCA 0 TOK hs rfl rfl rfl rfl rfl (e ▸ eM_one _ A c) rfl (Nat.le_of_ble_eq_true rfl) ?_; clear hs; intro w hs) | (refine LW_storeC 1 TOK hs rfl rfl rfl rfl rfl rfl rfl ?_; clear hs; intro w hs)) | (refine isLcall ?_; first | refine LW_pure TOK rfl ?_) | (refine isLbin ?_; first | (refine LW_cmp rfl (fun _ => ?_) (fun _ => ?_) <;> try (exfalso; omega))) | (refine LW_box hs rfl rfl ?_; clear hs; intro b1 w hs) | refine LW_sliceH TOK rfl rfl rfl rfl rfl (by omega) (by omega) ?_ | refine LW_pure TOK rfl ?_ | (refine LW_alloc TOK hs rfl rfl ?_; clear hs; intro _ w hs)) | (with_reducible first | refine then_n ?_ | refine CW_seq ?_ | refine CW_region ?_ | refine CW_ret ?_) | refine RETA 0 hs TOK Tryd.results11 rfl rfl rfl rfl rfl ?_ | refine CW_true rfl ?_))
    exact ⟨by rw [e]; rfl, Sat.nil hs⟩
  · have e : m.segs.take 300 = m.segs := List.take_of_length_le (by omega)
    rw [e]
    (repeat' (first | (refine isLW ?_; first | refine LW_nil ?_ | (refine isLload ?_; first | refine LW_loadCAE 1 (eM m A c) TOK hs rfl rfl rfl rfl (Nat.le_of_ble_eq_true rfl) rfl ?_ | refine LW_loadC 1 TOK hs rfl rfl rfl rfl rfl ?_) | (refine isLstore ?_; first | (refine LW_storeCA 0 TOK hs rfl rfl rfl rfl rfl (eM_one m A c) rfl (Nat.le_of_ble_eq_true rfl) ?_; clear hs; intro w hs)) | (refine isLcall ?_; first | refine LW_pure TOK rfl ?_) | (refine isLbin ?_; first | (refine LW_cmp rfl (fun _ => ?_) (fun _ => ?_) <;> try (exfalso; omega))) | (refine LW_box hs rfl rfl ?_; clear hs; intro b1 w hs) | refine LW_pure TOK rfl ?_ | (refine LW_alloc TOK hs rfl rfl ?_; clear hs; intro _ w hs)) | (with_reducible first | refine then_n ?_ | refine CW_seq ?_ | refine CW_region ?_ | refine CW_skip ?_ | refine CW_ret ?_) | refine RETA 0 hs TOK Tryd.results11 rfl rfl rfl rfl rfl ?_ | refine CW_false rfl ?_))
    exact ⟨rfl, Sat.nil hs⟩
theorem named_call (w : World) (m : Mn) (A : Option Addr) (c : Nat) (k : Int) (hl : m.segs.length ≤ 140737488355328) (rs : Rd eSg w A m.segs) :
    Calls Tryd.prog 20 [Value.agg (eM m A c).toArray, .int .i64 k].toArray w (Ret fun v w' => v = .bool (named m.segs k) ∧ Sat w w' []) := by
  refine Calls_of Tryd.func20 rfl 21 Tryd.ntmps20 rfl ?_
  have hs := Sat.start w
  (repeat' (first | (refine isLW ?_; first | refine LW_nil ?_ | (refine LW_box hs rfl rfl ?_; clear hs; intro b1 w2 hs) | refine LW_pure TOK rfl ?_) | (with_reducible first | refine then_n ?_ | refine CW_seq ?_ | refine CW_region ?_ | refine CW_block ?_)))
  refine CW_loop (γ := Nat) (fun g => [(1, .int .i64 k), (2, .pointer (some ⟨b1, 0, none⟩)), (5, .int .i64 (g : Int))]) (fun g w' => Sat w w' [Cl b1 (eM m A c) 32] ∧ g ≤ m.segs.length ∧ named (m.segs.take g) k = false) (fun g => m.segs.length - g) 0 ⟨rfl, rfl, rfl, trivial⟩ ⟨hs, Nat.zero_le _, rfl⟩ ?_
  clear hs
  rintro i τ w' ⟨hs, hi, hn⟩
  by_cases hlt : i < m.segs.length
  · have hrd := rd_at hlt
    have hnx : named (m.segs.take (i + 1)) k = (named (m.segs.take i) k || decide ((rd m.segs (i : Int)).num = k)) := by
      unfold named
      rw [List.take_add_one, List.getElem?_eq_getElem hlt, List.any_append, hrd]; simp
    have hall : ∀ (h : (rd m.segs (i : Int)).num = k), named m.segs k = true := fun h => by
      unfold named
      rw [List.any_eq_true]
      exact ⟨_, List.getElem_mem hlt, by rw [← hrd]; simpa using h⟩
    (repeat' (first | (refine isLW ?_; first | refine LW_nil ?_ | (refine isLload ?_; first | refine LW_loadC 0 TOK hs rfl rfl rfl rfl rfl ?_ | refine LW_loadRd (rs.of hs) (fun _ => rfl) TOK rfl (by assumption) rfl rfl (by omega) (by omega) rfl ?_) | (refine isLcall ?_; first | refine LW_pure TOK rfl ?_) | (refine isLidx ?_; first | (refine LW_indexRd (rs.of hs) TOK rfl rfl rfl rfl rfl (by omega) (by omega) ?_; intro _ _ _)) | (refine isLbin ?_; first | refine LW_i64 rfl (by omega) (by omega) ?_ | (refine LW_cmp rfl (fun _ => ?_) (fun _ => ?_) <;> try (exfalso; omega))) | refine LW_pure TOK rfl ?_) | (with_reducible first | refine then_n ?_ | refine CW_seq ?_ | refine CW_region ?_ | refine CW_block ?_ | refine CW_skip ?_ | refine CW_ret ?_ | refine then_r ?_ | refine blk_n ?_ | refine blk_r ?_) | refine CW_true rfl ?_ | refine CW_false rfl ?_ | refine RET1 Tryd.results20 rfl ?_))
    · have hq : (rd m.segs (i : Int)).num = k := by assumption
      exact ⟨by rw [hall hq], hs.nil⟩
    · have hq : ¬ (rd m.segs (i : Int)).num = k := by assumption
      exact ⟨i + 1, _, FR_forget _ ⟨rfl, rfl, (by push_cast; rfl), trivial⟩, ⟨hs, hlt, by rw [hnx, hn, decide_eq_false hq]; rfl⟩, by omega⟩
  · (repeat' (first | (refine isLW ?_; first | refine LW_nil ?_ | (refine isLload ?_; first | refine LW_loadC 0 TOK hs rfl rfl rfl rfl rfl ?_) | (refine isLcall ?_; first | refine LW_pure TOK rfl ?_) | (refine isLbin ?_; first | (refine LW_cmp rfl (fun _ => ?_) (fun _ => ?_) <;> try (exfalso; omega))) | refine LW_pure TOK rfl ?_) | (with_reducible first | refine then_n ?_ | refine CW_seq ?_ | refine CW_region ?_ | refine CW_exit ?_ | refine CW_ret ?_ | refine then_e ?_ | refine blk_same ?_) | refine CW_false rfl ?_ | refine RET1 Tryd.results20 rfl ?_))
    rw [List.take_of_length_le (by omega)] at hn
    exact ⟨by rw [hn], hs.nil⟩
theorem lk_miss {l : List File} {n : Nm} : ∀ {i : Nat}, i ≤ l.length → lk (l.take i) n = none → (h : i < l.length) → ¬ (l[i]).1 = n → lk (l.take (i + 1)) n = none := fun {i} _ h1 h h2 => by
  unfold lk at h1 ⊢
  rw [List.take_add_one, List.getElem?_eq_getElem h, Option.toList_some, List.find?_append]
  rw [Option.map_eq_none_iff] at h1 ⊢
  rw [h1]
  simp [h2]
theorem lk_hit {l : List File} {n : Nm} {i : Nat} (h1 : lk (l.take i) n = none) (h : i < l.length) (h2 : (l[i]).1 = n) : lk l n = some (l[i]).2 := by
  unfold lk at h1 ⊢
  rw [Option.map_eq_none_iff] at h1
  have e : l = l.take i ++ l[i] :: l.drop (i + 1) := by rw [← List.drop_eq_getElem_cons h, List.take_append_drop]
  conv => lhs; rw [e]
  rw [List.find?_append, h1, Option.none_or, List.find?_cons]
  simp [h2]
/-- What stands under a name; a list of files that lies so. -/
theorem bytesOf_call (w : World) (xs : List File) (A : Option Addr) (c : Nat) (nm : Nm) (ra : RdF w A xs) (hx : xs.length ≤ 2199023255552) :
    Calls Tryd.prog 21 [Value.slice A xs.length c, sv nm].toArray w (Ret fun v w' => Sat w w' [] ∧ ((lk xs nm = none ∧ v = .tuple #[.slice none 0 0, .bool false]) ∨ (∃ (b : List UInt8) (B : Option Addr) (cb : Nat), lk xs nm = some b ∧ v = .tuple #[.slice B b.length cb, .bool true] ∧ Rd eB w' B b))) := by
  obtain ⟨us, hu, ra, ra2⟩ := ra
  have hul := len_of_map hu
  rw [← hul]
  refine Calls_of Tryd.func21 rfl 25 Tryd.ntmps21 rfl ?_
  have hs := Sat.start w
  (repeat' (first | (refine isLW ?_; first | refine LW_nil ?_ | refine LW_pure TOK rfl ?_) | (with_reducible first | refine then_n ?_ | refine CW_seq ?_ | refine CW_region ?_ | refine CW_block ?_)))
  refine CW_loop (γ := Nat) (fun g => [(0, .slice A us.length c), (1, sv nm), (6, .int .i64 (g : Int))]) (fun g w' => Sat w w' [] ∧ g ≤ us.length ∧ lk (xs.take g) nm = none) (fun g => us.length - g) 0 ⟨rfl, rfl, rfl, trivial⟩ ⟨hs, Nat.zero_le _, rfl⟩ ?_
  clear hs
  rintro i τ w' ⟨hs, hi, hn⟩
  by_cases hlt : i < us.length
  · have hru := rd_at hlt
    have hmu := ra2 _ (List.getElem_mem hlt)
    have hxi : xs[i]'(by omega) = (us[i]).f := by subst hu; rw [List.getElem_map]
    rw [← hru] at hmu hxi
    (repeat' (first | refine LW_strEq (a := (rd us (i : Int)).n) (b := nm) rfl rfl rfl rfl (fun hq => ?_) (fun hq => ?_) | (refine isLW ?_; first | refine LW_nil ?_ | (refine isLload ?_; first | refine LW_loadRd (ra.of hs) (fun _ => rfl) TOK rfl (by assumption) rfl rfl (by omega) (by omega) rfl ?_) | (refine isLcall ?_; first | refine LW_pure TOK rfl ?_) | (refine isLidx ?_; first | (refine LW_indexRd (ra.of hs) TOK rfl rfl rfl rfl rfl (by omega) (by omega) ?_; intro _ _ _)) | (refine isLbin ?_; first | refine LW_i64 rfl (by omega) (by omega) ?_ | (refine LW_cmp rfl (fun _ => ?_) (fun _ => ?_) <;> try (exfalso; omega))) | refine LW_pure TOK rfl ?_) | (with_reducible first | refine then_n ?_ | refine CW_seq ?_ | refine CW_region ?_ | refine CW_block ?_ | refine CW_skip ?_ | refine CW_ret ?_ | refine then_r ?_ | refine blk_n ?_ | refine blk_r ?_) | refine CW_true rfl ?_ | refine CW_false rfl ?_ | refine RET2 Tryd.results21 rfl rfl ?_))
    · have := lk_hit hn (by omega) (by rw [hxi]; exact hq)
      rw [hxi] at this
      exact ⟨hs, .inr ⟨_, _, _, this, rfl, hmu.of hs⟩⟩
    · exact ⟨i + 1, _, FR_forget _ ⟨rfl, rfl, (by push_cast; rfl), trivial⟩, ⟨hs, hlt, lk_miss (by omega) hn (by omega) (by rw [hxi]; exact hq)⟩, by omega⟩
  · (repeat' (first | (refine isLW ?_; first | refine LW_nil ?_ | (refine isLcall ?_; first | refine LW_pure TOK rfl ?_) | (refine isLbin ?_; first | (refine LW_cmp rfl (fun _ => ?_) (fun _ => ?_) <;> try (exfalso; omega))) | refine LW_pure TOK rfl ?_) | (with_reducible first | refine then_n ?_ | refine CW_seq ?_ | refine CW_region ?_ | refine CW_exit ?_ | refine CW_ret ?_ | refine then_e ?_ | refine blk_same ?_) | refine CW_false rfl ?_ | refine RET2 Tryd.results21 rfl rfl ?_))
    rw [List.take_of_length_le (by omega)] at hn
    exact ⟨hs, .inl ⟨hn, rfl⟩⟩
def cutF (l : List File) : List File := (l.take 40).map fun f => (f.1, f.2.take 4096)
theorem cutF_len (l : List File) : (cutF l).length = min 40 l.length := by unfold cutF; rw [List.length_map, List.length_take]
theorem cutFiles_call (w : World) (us : List RF) (A : Option Addr) (c : Nat) (ra : Rd eF w A us) (ra2 : ∀ r ∈ us, Rd eB w r.A r.data) (hc : us.length ≤ c) (hd : ∀ r ∈ us, r.data.length ≤ r.c ∧ r.data.length ≤ 140737488355328) :
    Calls Tryd.prog 14 [Value.slice A us.length c].toArray w (Ret fun v w' => ∃ A' c', v = .slice A' (cutF (us.map RF.f)).length c' ∧ Sat w w' [HF A' c' (cutF (us.map RF.f))]) := by
  refine Calls_of Tryd.func14 rfl 33 Tryd.ntmps14 rfl ?_
  have hs := (Sat.start w).nilRow 42 2
  replace hs : Sat w w [RowOf eF 42 2 none 0 ([] : List RF), Big (([] : List RF).map RF.P)] := (Sat.mkBig (l := []) hs).picks [1]
  obtain ⟨n, hn⟩ : ∃ n, min 40 us.length = n := ⟨_, rfl⟩
  have hcl : (cutF (us.map RF.f)).length = n := by rw [cutF_len, List.length_map, hn]
  have hnb : n ≤ 40 ∧ n ≤ us.length := by omega
  by_cases h40 : 40 < us.length
  case' pos => (repeat' (first | (refine isLW ?_; first | refine LW_nil ?_ | (refine isLcall ?_; first | refine LW_pure TOK rfl ?_) | (refine isLbin ?_; first | (refine LW_cmp rfl (fun _ => ?_) (fun _ => ?_) <;> try (exfalso; omega))) | refine LW_sliceH TOK rfl rfl rfl rfl rfl (by omega) (by omega) ?_ | refine LW_pure TOK rfl ?_) | (with_reducible first | refine then_n ?_ | refine CW_seq ?_ | refine CW_region ?_ | refine CW_block ?_) | refine CW_true rfl ?_))
  case' neg => (repeat' (first | (refine isLW ?_; first | refine LW_nil ?_ | (refine isLcall ?_; first | refine LW_pure TOK rfl ?_) | (refine isLbin ?_; first | (refine LW_cmp rfl (fun _ => ?_) (fun _ => ?_) <;> try (exfalso; omega))) | refine LW_pure TOK rfl ?_) | (with_reducible first | refine then_n ?_ | refine CW_seq ?_ | refine CW_region ?_ | refine CW_block ?_ | refine CW_skip ?_) | refine CW_false rfl ?_))
  all_goals
    refine CW_loop (γ := Option Addr × Nat × List RF) (fun g => [(0, .slice A n c), (3, .slice g.1 g.2.2.length g.2.1), (4, .int .i64 (g.2.2.length : Int))]) (fun g w' => Sat w w' [RowOf eF 42 2 g.1 g.2.1 g.2.2, Big (g.2.2.map RF.P)] ∧ g.2.2.length ≤ n ∧ g.2.2.map RF.f = (cutF (us.map RF.f)).take g.2.2.length) (fun g => n - g.2.2.length) (none, 0, []) ⟨by first | (rw [show n = 40 by omega]; rfl) | (rw [show n = us.length by omega]; rfl), rfl, rfl, trivial⟩ ⟨hs, Nat.zero_le _, rfl⟩ ?_
    clear hs
    rintro ⟨A1, c1, rs⟩ τ w' ⟨hs, h1, h2⟩
    dsimp only at hs h1 h2 ⊢
    by_cases hlt : rs.length < n
    · have hlu : rs.length < us.length := by omega
      have hru := rd_at hlu
      have hmu := ra2 _ (List.getElem_mem hlu)
      have hdd := hd _ (List.getElem_mem hlu)
      have hxt : (cutF (us.map RF.f)).take (rs.length + 1) = (cutF (us.map RF.f)).take rs.length ++ [((us[rs.length]).n, (us[rs.length]).data.take 4096)] := by
        rw [List.take_add_one, List.getElem?_eq_getElem (by omega)]
        unfold cutF
        rw [List.getElem_map, List.getElem_take, List.getElem_map]; rfl
      rw [← hru] at hmu hxt hdd
      have hdt : ((rd us (rs.length : Int)).data.take 4096).length ≤ 4096 := by rw [List.length_take]; omega
      (repeat' (first | (refine isLW ?_; first | refine LW_nil ?_ | (refine isLcall ?_; first | (refine LW_call (cap := []) rfl rfl ent27 (cutData_call _ _ (rd us (rs.length : Int)).data _ hdd.1 hdd.2) ?_; rintro _ _ ⟨c5, rfl, rfl⟩) | (refine LW_append 0 (xs := ([] : List UInt8)) (ys := (rd us (rs.length : Int)).data.take 4096) eB_ok.1 (hs.nilRow 5 1) TOK rfl rfl ((hmu.of hs).take 4096) eB_ok.2 rfl rfl rfl rfl rfl rfl rfl (by rw [List.length_nil, Nat.zero_add]; unfold maxLen; omega) (by simp only [List.length_nil, Nat.zero_add]; omega) ?_; clear hs; intro A2 c2 w hs; rw [List.nil_append] at hs ⊢) | (refine LW_append1 1 eF_ok (z := ⟨(rd us (rs.length : Int)).n, A2, c2, (rd us (rs.length : Int)).data.take 4096⟩) hs TOK rfl rfl rfl rfl rfl rfl rfl rfl rfl rfl (by unfold maxLen; omega) (by simp only []; omega) ?_; clear hs; intro A3 c3 w hs) | refine LW_pure TOK rfl ?_) | (refine isLbin ?_; first | refine LW_i64 rfl (by omega) (by omega) ?_ | (refine LW_cmp rfl (fun _ => ?_) (fun _ => ?_) <;> try (exfalso; omega))) | refine LW_pure TOK rfl ?_ | (refine LW_buildSlice TOK hs rfl rfl rfl rfl rfl rfl rfl ?_; clear hs; intro _ w hs)) | (refine isDP ?_; first | (refine isDnil ?_; first | refine DP_end ?_ ?_) | (refine isDe rfl ?_; first | refine DP_eff rfl rfl ?_ ?_) | (refine isDload rfl ?_; first | refine DP_loadRd ra (fun _ => rfl) hs TOK rfl rfl (by first | exact trivial | rfl) rfl (by assumption) rfl rfl (by omega) (by omega) rfl ?_ ?_) | (refine isDidx rfl ?_; first | (refine DP_indexRdN (ra.of hs) TOK rfl rfl (by first | exact trivial | rfl) rfl rfl rfl rfl rfl (by omega) (by omega) (by omega) ?_; intro _ _ _)) | refine DP_build TOK rfl rfl (by first | exact trivial | rfl) rfl rfl rfl rfl rfl rfl ?_ | refine DP_pure TOK rfl rfl (by first | exact trivial | rfl) rfl ?_) | (refine isI0 ?_; exact Inv.nil) | (refine isI1 ?_; first | refine Inv.keepB hs ?_) | (with_reducible first | refine then_n ?_ | refine CW_seq ?_ | refine CW_region ?_ | refine CW_block ?_ | refine CW_skip ?_ | refine blk_n ?_) | refine CW_true rfl ?_ | (refine CW_drawP (id := 7) [11, 12, 14, 15] [0, 1, 2, 3, 4, 5, 6, 7, 8, 9, 10, 11, 12, 13, 14, 15, 16] mixed (by kernel_rfl) hs ?_; clear hs; intro hs)))
      have h7 := (Sat.snocP (r := ⟨(rd us (rs.length : Int)).n, A2, c2, (rd us (rs.length : Int)).data.take 4096⟩) (hs.picks [0, 1])).picks [1]
      have hlen : (rs ++ [(⟨(rd us (rs.length : Int)).n, A2, c2, (rd us (rs.length : Int)).data.take 4096⟩ : RF)]).length = rs.length + 1 := by simp
      refine ⟨(A3, c3, rs ++ [(⟨(rd us (rs.length : Int)).n, A2, c2, (rd us (rs.length : Int)).data.take 4096⟩ : RF)]), _, FR_forget _ ⟨rfl, rfl, ?_, trivial⟩, ⟨h7, ?_, ?_⟩, ?_⟩
      · show some (Value.int .i64 _) = some (Value.int .i64 _)
        rw [hlen]
        push_cast; rfl
      · dsimp only; rw [hlen]; omega
      · dsimp only; rw [hlen, hxt, List.map_append, h2]; rfl
      · dsimp only; rw [hlen]; omega
    · (repeat' (first | (refine isLW ?_; first | refine LW_nil ?_ | (refine isLcall ?_; first | refine LW_pure TOK rfl ?_) | (refine isLbin ?_; first | (refine LW_cmp rfl (fun _ => ?_) (fun _ => ?_) <;> try (exfalso; omega))) | refine LW_pure TOK rfl ?_) | (with_reducible first | refine then_n ?_ | refine CW_seq ?_ | refine CW_region ?_ | refine CW_exit ?_ | refine CW_ret ?_ | refine then_e ?_ | refine blk_same ?_) | refine CW_false rfl ?_ | refine RET1 Tryd.results14 rfl ?_))
      have he : rs.length = n := by omega
      have h9 : rs.map RF.f = cutF (us.map RF.f) := by rw [h2, List.take_of_length_le (by omega)]
      exact ⟨A1, c1, by rw [he, hcl], Sat.closeHF h9 hs⟩
theorem Check_call (W w : World) (L : List HProp) (m : Mn) (A : Option Addr) (c : Nat) (hi : m.In) (rs : Rd eSg w A m.segs) (hs : Sat W w L) :
    Calls Tryd.prog 12 [Value.agg (eM m A c).toArray].toArray w (Ret fun v w' => ∃ e, v = .int .i64 e ∧ (-9223372036854775808 ≤ e ∧ e ≤ 9223372036854775807) ∧ (e = 0 ↔ OkM m) ∧ Sat W w' L) := by
  refine Calls_of Tryd.func12 rfl 102 Tryd.ntmps12 rfl ?_
  have hs0 := hs
  clear hs
  have hs := Sat.start w
  have hl := hi.len
  have bad : ∀ {e : Int}, e ≠ 0 ∧ -9223372036854775808 ≤ e ∧ e ≤ 9223372036854775807 → ¬ OkM m → ∀ {w' : World}, Sat w w' [] → ∃ e', Value.int .i64 e = .int .i64 e' ∧ (-9223372036854775808 ≤ e' ∧ e' ≤ 9223372036854775807) ∧ (e' = 0 ↔ OkM m) ∧ Sat W w' L := fun {e} he hn {w'} h =>
    ⟨e, rfl, he.2, ⟨fun h0 => absurd h0 he.1, fun h0 => absurd h0 hn⟩, hs0.and0 h⟩
  (repeat' (first | (refine isLW ?_; first | refine LW_nil ?_ | (refine isLg ?_; first | refine LW_take rfl ?_ | refine LW_pass rfl rfl ?_) | (refine isLload ?_; first | refine LW_loadC 0 TOK hs rfl rfl rfl rfl rfl ?_) | (refine isLcall ?_; first | refine LW_pure TOK rfl ?_) | (refine isLbin ?_; first | (refine LW_cmp rfl (fun _ => ?_) (fun _ => ?_) <;> try (exfalso; omega))) | (refine LW_box hs rfl rfl ?_; clear hs; intro b1 w2 hs) | refine LW_pure TOK rfl ?_) | (with_reducible first | refine then_n ?_ | refine CW_seq ?_ | refine CW_region ?_ | refine CW_block ?_ | refine CW_skip ?_ | refine CW_ret ?_ | refine then_r ?_ | refine blk_n ?_ | refine blk_r ?_) | refine CW_true rfl ?_ | refine CW_false rfl ?_ | refine RET1 Tryd.results12 rfl ?_))
  all_goals try exact bad (by decide) (fun h => by have h1 := h.gen; have h2 := h.v; have h3 := h.next; have h4 := h.top; have h5 := h.len; omega) hs.nil
  refine CW_loop (γ := Nat) (fun g => [(1, .pointer (some ⟨b1, 0, none⟩)), (3, .int .i64 (prevN m.segs g)), (49, .slice A m.segs.length c), (50, .int .i64 (m.segs.length : Int)), (51, .int .i64 (g : Int))]) (fun g w' => Sat w w' [Cl b1 (eM m A c) 32] ∧ g ≤ m.segs.length ∧ ∀ j, j < g → okSeg m.next m.segs j) (fun g => m.segs.length - g) 0 ⟨rfl, rfl, rfl, rfl, rfl, trivial⟩ ⟨hs, Nat.zero_le _, fun j hj => absurd hj (Nat.not_lt_zero _)⟩ ?_
  clear hs
  rintro i τ w' ⟨hs, hil, hok⟩
  by_cases hlt : i < m.segs.length
  · have hpn : prevN m.segs (i + 1) = (rd m.segs (i : Int)).num := by unfold prevN rd; simp
    have hk : okSeg m.next m.segs i ↔ prevN m.segs i < (rd m.segs (i : Int)).num ∧ (rd m.segs (i : Int)).num < m.next ∧
        (if i + 1 = m.segs.length then (rd m.segs (i : Int)).size = 0 ∧ (rd m.segs (i : Int)).cnt = 0 else 1 ≤ (rd m.segs (i : Int)).size ∧ (rd m.segs (i : Int)).size ≤ 524288 ∧ 0 ≤ (rd m.segs (i : Int)).cnt ∧ (rd m.segs (i : Int)).cnt ≤ 524288) := Iff.rfl
    have hnx : okSeg m.next m.segs i → ∀ j, j < i + 1 → okSeg m.next m.segs j := fun h j hj => by
      by_cases e : j = i
      · subst e; exact h
      · exact hok j (by omega)
    obtain ⟨sg, hsg⟩ : ∃ sg, rd m.segs (i : Int) = sg := ⟨_, rfl⟩
    by_cases hlast : i + 1 = m.segs.length
    · rw [if_pos hlast] at hk
      rw [hsg] at hk hpn
      (repeat' (first | (refine isLW ?_; first | refine LW_nil ?_ | (refine isLg ?_; first | refine LW_take rfl ?_ | refine LW_pass rfl rfl ?_) | (refine isLload ?_; first | refine LW_loadRdA (vs := eSg sg) (rs.of hs) (fun _ => rfl) TOK rfl (by assumption) rfl rfl rfl (by omega) (by omega) (by rw [hsg]) ?_ | refine LW_loadC 0 TOK hs rfl rfl rfl rfl rfl ?_ | refine LW_loadC 1 TOK hs rfl rfl rfl rfl rfl ?_) | (refine isLstore ?_; first | (refine LW_storeCA 0 TOK hs rfl rfl rfl rfl rfl (eSg_ok.2 sg) rfl (Nat.le_of_ble_eq_true rfl) ?_; clear hs; intro w hs)) | (refine isLcall ?_; first | refine LW_pure TOK rfl ?_) | (refine isLidx ?_; first | (refine LW_indexRd (rs.of hs) TOK rfl rfl rfl rfl rfl (by omega) (by omega) ?_; intro _ _ _)) | (refine isLbin ?_; first | refine LW_i64 rfl (by omega) (by omega) ?_ | (refine LW_cmp rfl (fun _ => ?_) (fun _ => ?_) <;> try (exfalso; omega))) | refine LW_pure TOK rfl ?_ | (refine LW_alloc TOK hs rfl rfl ?_; clear hs; intro _ w hs)) | (with_reducible first | refine then_n ?_ | refine CW_seq ?_ | refine CW_region ?_ | refine CW_block ?_ | refine CW_skip ?_ | refine CW_ret ?_ | refine then_r ?_ | refine blk_n ?_ | refine blk_r ?_) | refine CW_true rfl ?_ | refine CW_false rfl ?_ | refine RET1 Tryd.results12 rfl ?_))
      all_goals first
        | exact bad (by decide) (fun h => by have := hk.1 (h.seg i hlt); omega) hs.nil
        | exact ⟨i + 1, _, FR_forget _ ⟨rfl, (by rw [hpn]; rfl), rfl, rfl, (by push_cast; rfl), trivial⟩, ⟨hs.drop1, hlt, hnx (hk.2 ⟨by omega, by omega, by omega, by omega⟩)⟩, by omega⟩
    · rw [if_neg hlast] at hk
      rw [hsg] at hk hpn
      (repeat' (first | (refine isLW ?_; first | refine LW_nil ?_ | (refine isLg ?_; first | refine LW_take rfl ?_ | refine LW_pass rfl rfl ?_) | (refine isLload ?_; first | refine LW_loadRdA (vs := eSg sg) (rs.of hs) (fun _ => rfl) TOK rfl (by assumption) rfl rfl rfl (by omega) (by omega) (by rw [hsg]) ?_ | refine LW_loadC 0 TOK hs rfl rfl rfl rfl rfl ?_ | refine LW_loadC 1 TOK hs rfl rfl rfl rfl rfl ?_) | (refine isLstore ?_; first | (refine LW_storeCA 0 TOK hs rfl rfl rfl rfl rfl (eSg_ok.2 sg) rfl (Nat.le_of_ble_eq_true rfl) ?_; clear hs; intro w hs)) | (refine isLcall ?_; first | refine LW_pure TOK rfl ?_) | (refine isLidx ?_; first | (refine LW_indexRd (rs.of hs) TOK rfl rfl rfl rfl rfl (by omega) (by omega) ?_; intro _ _ _)) | (refine isLbin ?_; first | refine LW_i64 rfl (by omega) (by omega) ?_ | (refine LW_cmp rfl (fun _ => ?_) (fun _ => ?_) <;> try (exfalso; omega))) | refine LW_pure TOK rfl ?_ | (refine LW_alloc TOK hs rfl rfl ?_; clear hs; intro _ w hs)) | (with_reducible first | refine then_n ?_ | refine CW_seq ?_ | refine CW_region ?_ | refine CW_block ?_ | refine CW_skip ?_ | refine CW_ret ?_ | refine then_r ?_ | refine blk_n ?_ | refine blk_r ?_) | refine CW_true rfl ?_ | refine CW_false rfl ?_ | refine RET1 Tryd.results12 rfl ?_))
      all_goals first
        | exact bad (by decide) (fun h => by have := hk.1 (h.seg i hlt); omega) hs.nil
        | exact ⟨i + 1, _, FR_forget _ ⟨rfl, (by rw [hpn]; rfl), rfl, rfl, (by push_cast; rfl), trivial⟩, ⟨hs.drop1, hlt, hnx (hk.2 ⟨by omega, by omega, by omega, by omega, by omega, by omega⟩)⟩, by omega⟩
  · (repeat' (first | (refine isLW ?_; first | refine LW_nil ?_ | (refine isLbin ?_; first | (refine LW_cmp rfl (fun _ => ?_) (fun _ => ?_) <;> try (exfalso; omega))) | refine LW_pure TOK rfl ?_) | (with_reducible first | refine then_n ?_ | refine CW_seq ?_ | refine CW_region ?_ | refine CW_exit ?_ | refine CW_ret ?_ | refine then_e ?_ | refine blk_same ?_) | refine CW_false rfl ?_ | refine RET1 Tryd.results12 rfl ?_))
    refine ⟨0, rfl, by decide, ⟨fun _ => ⟨by omega, by omega, by omega, by omega, by omega, fun j hj => hok j (by omega)⟩, fun _ => rfl⟩, hs0.and0 hs.nil⟩
end Go.Proofs.YthhklkpkhaibcaaDoor
