/- The document's disk; walks: Load. -/
import Derived.Test.YtoodgenbcfdloaaQ5
set_option linter.unusedVariables false
set_option linter.unusedSimpArgs false
namespace Go.Proofs.Ytoodgenbcfdloaa
open Go Go.Sl Go.RowKit
set_option maxRecDepth 100000
attribute [local irreducible] CW LW DW FR DP Calls

/-- A disk of the document's, as it lies. -/
structure RDk where
  q : Int
  S : RSt
  left : Int
  down : Bool
  deriving Inhabited
def eK (d : RDk) : List Value := [.int .i64 d.q, .slice d.S.TA d.S.th.length d.S.tc, .slice d.S.NA d.S.na.length d.S.nc, .slice d.S.LA d.S.la.length d.S.lc, .slice d.S.CA d.S.ch.length d.S.cc, .int .i64 d.left, .bool d.down]
theorem eK_ok : (∀ x, (eK x).length = 7) ∧ ∀ x, ∀ u ∈ eK x, u.oneCell' = true := ⟨fun _ => rfl, fun x u h => by
  simp [eK] at h
  rcases h with rfl | rfl | rfl | rfl | rfl | rfl | rfl <;> rfl⟩
def nilS : RSt := ⟨none, 0, [], none, 0, [], none, 0, [], none, 0, []⟩
def noK : RDk := ⟨0, nilS, -1, false⟩
theorem flsF_snoc (l : List File) (f : File) : flsF (l ++ [f]) = flsF l ++ [⟨f.2, f.2.length⟩] := by simp [flsF]
theorem flsF_len (l : List File) : (flsF l).length = l.length := by simp [flsF]
theorem loadGo_at {F : List File} {i : Nat} (h : i < F.length) (fs : List Fl) (now : Names) : loadGo fs now (F.drop i) = if pathB F[i].1 = false then .inl 61 else if (fnd now F[i].1).isSome = true then .inl 62 else loadGo (fs ++ [⟨F[i].2, F[i].2.length⟩]) (wi now F[i].1 fs.length) (F.drop (i + 1)) := by
  rw [List.drop_eq_getElem_cons h]; rfl
theorem lst_fnd {fs : List Fl} {now : Names} {l : List File} (h : LSt fs now l) {n : Nm} : (fnd now n).isSome = true ↔ ∃ f ∈ l, f.1 = n := by
  constructor
  · intro hs
    obtain ⟨i, hi⟩ := Option.isSome_iff_exists.1 hs
    have h1 : n ∈ now.map (·.1) := List.mem_map.2 ⟨_, fnd_mem hi, rfl⟩
    obtain ⟨f, hf, e⟩ := List.mem_map.1 (h.keys.mem_iff.1 h1)
    exact ⟨f, hf, e⟩
  · rintro ⟨f, hf, rfl⟩
    obtain ⟨i, h1, _⟩ := h.look f hf
    rw [h1]; rfl
/-- What the document's Load answers. -/
def LoadR (W : World) (q : Int) (F : List File) (v : Value) (w' : World) : Prop :=
  ((load q (sumW F) F).1 ≠ 0 ∧ v = .tuple #[.agg (eK noK).toArray, .int .i64 (load q (sumW F) F).1] ∧ Sat W w' []) ∨
      ((load q (sumW F) F).1 = 0 ∧ ∃ TA tc th NA nc, v = .tuple #[.agg (eK ⟨q, beginS TA tc th NA nc (beginN 0 [] F), -1, false⟩).toArray, .int .i64 0] ∧ th.map (·.d) = F.map (·.2) ∧ (∀ t ∈ th, t.syn = t.d.length ∧ t.there = true) ∧
        Sat W w' [RowOf eT 111 3 TA tc th, RowOf eE 113 2 NA nc (beginN 0 [] F), Big (th.map RTh.P)] ∧ (load q (sumW F) F).2 = ⟨q.toNat, flsF F, beginN 0 [] F, beginN 0 [] F, [], none, false⟩)
theorem LoadR.no {W : World} {q : Int} {F : List File} {w' : World} {L : List HProp} {k : Int} {D : DS} (h : load q (sumW F) F = (k, D)) (hk : k ≠ 0) (hs : Sat W w' L) : LoadR W q F (.tuple #[.agg (eK noK).toArray, .int .i64 k]) w' := by
  left
  rw [h]
  exact ⟨hk, rfl, hs.nil⟩
set_option maxHeartbeats 8000000 in
theorem rLoad_call (W : World) (q : Int) (F : List File) (A : Option Addr) (c : Nat) (ra : RdF W A F) (hl : F.length ≤ 1099511627776) (hd : ∀ f ∈ F, f.2.length ≤ 140737488355328) (hnm : ∀ f ∈ F, f.1.length ≤ 140737488355328) (hq : -9223372036854775808 ≤ q ∧ q ≤ 9223372036854775807) :
    Calls Try.prog 19 [Value.int .i64 q, .slice A F.length c].toArray W (Ret (LoadR W q F)) := by
  have ra0 := ra
  obtain ⟨us, hu, ra, rd2⟩ := ra
  have hul := len_of_map hu
  refine Calls_of Try.func19 rfl 69 Try.ntmps19 rfl ?_
  have hs := Sat.start W
  by_cases hqb : q < 0 ∨ 4194304 < q
  · have hlo : load q (sumW F) F = (1, newD 0) := by unfold load; rw [if_pos hqb]
    (repeat' (first | (refine LW_alloc TOK hs rfl rfl ?_; clear hs; intro b6 w hs) | (refine isLW ?_; first | refine LW_nil ?_ | (refine isLg ?_; first | refine LW_take rfl ?_ | refine LW_pass rfl rfl ?_) | (refine isLload ?_; first | refine LW_loadCAE 0 (eK noK) TOK hs rfl rfl rfl rfl (Nat.le_of_ble_eq_true rfl) rfl ?_) | (refine isLstore ?_; first | (refine LW_storeCA 0 TOK hs rfl rfl rfl rfl rfl (eK_ok.2 noK) rfl (Nat.le_of_ble_eq_true rfl) ?_; clear hs; intro w hs) | (refine LW_storeCA 1 TOK hs rfl rfl rfl rfl rfl (eK_ok.2 noK) rfl (Nat.le_of_ble_eq_true rfl) ?_; clear hs; intro w hs)) | (refine isLbin ?_; first | (refine LW_cmp rfl (fun _ => ?_) (fun _ => ?_) <;> try (exfalso; omega))) | refine LW_pure TOK rfl ?_ | refine LW_build TOK rfl rfl rfl rfl rfl rfl ?_) | (with_reducible first | refine then_n ?_ | refine CW_seq ?_ | refine CW_region ?_ | refine CW_ret ?_ | refine then_r ?_) | refine RETA2 1 hs TOK Try.results19 rfl rfl rfl rfl rfl rfl ?_ | refine CW_true rfl ?_))
    all_goals exact LoadR.no hlo (by decide) hs
  have hbad : ∀ e, loadGo [] [] F = .inl e → load q (sumW F) F = (e, newD 0) := fun e h => by unfold load; rw [if_neg hqb, h]
  have hgood : ∀ fs now, loadGo [] [] F = .inr (fs, now) → load q (sumW F) F = if q < sumW F then (64, newD 0) else (0, ⟨q.toNat, fs, now, now, [], none, false⟩) := fun fs now h => by unfold load; rw [if_neg hqb, h]
  (repeat' (first | (refine LW_alloc TOK hs rfl rfl ?_; clear hs; intro b6 w hs) | (refine isLW ?_; first | refine LW_nil ?_ | (refine isLg ?_; first | refine LW_take rfl ?_) | (refine isLstore ?_; first | (refine LW_storeCA 0 TOK hs rfl rfl rfl rfl rfl (eK_ok.2 noK) rfl (Nat.le_of_ble_eq_true rfl) ?_; clear hs; intro w hs)) | (refine isLbin ?_; first | (refine LW_cmp rfl (fun _ => ?_) (fun _ => ?_) <;> try (exfalso; omega))) | refine LW_pure TOK rfl ?_ | refine LW_build TOK rfl rfl rfl rfl rfl rfl ?_) | (with_reducible first | refine then_n ?_ | refine CW_seq ?_ | refine CW_region ?_ | refine CW_block ?_ | refine CW_skip ?_) | refine CW_false rfl ?_))
  rename_i b4 _ _ _ _
  refine CW_loop (γ := Nat) (fun g => [(0, .int .i64 q), (1, .slice A F.length c), (4, .pointer (some ⟨b4, 0, none⟩)), (6, .pointer (some ⟨b6, 0, none⟩)), (7, .int .i64 (sumW (F.take g))), (8, .int .i64 (g : Int))])
    (fun g w' => Sat W w' [Cl b6 (eK noK) 45, Cl b4 [.int .i64 0, .slice none 0 0, .slice none 0 0, .slice none 0 0, .slice none 0 0, .int .i64 0, .bool false] 45] ∧ g ≤ F.length ∧ LSt (flsF (F.take g)) (beginN 0 [] (F.take g)) (F.take g) ∧ loadGo [] [] F = loadGo (flsF (F.take g)) (beginN 0 [] (F.take g)) (F.drop g)) (fun g => F.length - g) 0 ⟨rfl, rfl, rfl, rfl, rfl, rfl, trivial⟩ ⟨hs, by omega, .nil, rfl⟩ ?_
  clear hs
  rintro i τ w ⟨hs, h1, hst, hgo⟩
  try dsimp only at hs h1 ⊢
  have hsw := sumW_in (F.take i)
  by_cases hlt : i < F.length
  · have hltu : i < us.length := by omega
    have hru := rd_at hltu
    have hFi : F[i] = (us[i]).f := by subst hu; rw [List.getElem_map]
    have hdd := hd _ (List.getElem_mem hlt)
    have hnn := hnm _ (List.getElem_mem hlt)
    have hsn := sumW_next F hlt
    rw [loadGo_at hlt] at hgo
    have hnx : F.take (i + 1) = F.take i ++ [F[i]] := List.take_succ_eq_append_getElem hlt
    rw [hFi, ← hru] at hgo hdd hnn hsn hnx
    have hpn : (rd us (i : Int)).f.1 = (rd us (i : Int)).n := rfl
    have hpd : (rd us (i : Int)).f.2 = (rd us (i : Int)).data := rfl
    rw [hpn, hpd] at hgo
    rw [hpn] at hnn
    rw [hpd] at hdd hsn
    rw [← hul]
    by_cases hp : pathB (rd us (i : Int)).n = true
    · rw [if_neg (by simp [hp])] at hgo
      (repeat' (first | (refine isLW ?_; first | refine LW_nil ?_ | (refine isLload ?_; first | refine LW_loadRd (ra.of hs) (fun _ => rfl) TOK rfl (by assumption) rfl rfl (by omega) (by omega) rfl ?_) | (refine isLcall ?_; first | (refine LW_call (cap := []) rfl rfl ent61 (rpath_call _ (rd us (i : Int)).n hnn) ?_; rintro _ w2 ⟨rfl, hs2⟩; replace hs := hs.and0 hs2; clear hs2; rw [hp]) | refine LW_pure TOK rfl ?_) | (refine isLidx ?_; first | (refine LW_indexRd (ra.of hs) TOK rfl rfl rfl rfl rfl (by omega) (by omega) ?_; intro _ _ _)) | (refine isLbin ?_; first | (refine LW_cmp rfl (fun _ => ?_) (fun _ => ?_) <;> try (exfalso; omega))) | refine LW_pure TOK rfl ?_) | (with_reducible first | refine then_n ?_ | refine CW_seq ?_ | refine CW_region ?_ | refine CW_block ?_ | refine CW_skip ?_) | refine CW_true rfl ?_ | refine CW_false rfl ?_))
      refine CW_loop (γ := Nat) (fun g => [(0, .int .i64 q), (1, .slice A us.length c), (4, .pointer (some ⟨b4, 0, none⟩)), (6, .pointer (some ⟨b6, 0, none⟩)), (7, .int .i64 (sumW (F.take i))), (8, .int .i64 (i : Int)), (10, .int .i64 (g : Int))])
        (fun g w' => Sat W w' [Cl b6 (eK noK) 45, Cl b4 [.int .i64 0, .slice none 0 0, .slice none 0 0, .slice none 0 0, .slice none 0 0, .int .i64 0, .bool false] 45] ∧ g ≤ i ∧ ∀ j (h : j < us.length), j < g → ¬ us[j].n = (rd us (i : Int)).n) (fun g => i - g) 0 ⟨rfl, rfl, rfl, rfl, rfl, rfl, rfl, trivial⟩ ⟨hs, by omega, fun j _ h => absurd h (Nat.not_lt_zero _)⟩ ?_
      clear hs
      rintro k τ w ⟨hs, h2, h3⟩
      try dsimp only at hs h2 h3 ⊢
      by_cases hk : k < i
      · have hrk := rd_at (xs := us) (i := k) (by omega)
        by_cases he : (rd us (k : Int)).n = (rd us (i : Int)).n
        · have hdup : (fnd (beginN 0 [] (F.take i)) (rd us (i : Int)).n).isSome = true := by
            refine (lst_fnd hst).2 ⟨us[k].f, ?_, ?_⟩
            · have hFk : F[k]'(by omega) = us[k].f := by subst hu; rw [List.getElem_map]
              rw [← hFk, List.mem_take_iff_getElem]
              exact ⟨k, by omega, rfl⟩
            · rw [← he, hrk]; rfl
          rw [if_pos hdup] at hgo
          have hlo2 := hbad _ hgo
          (repeat' (first | refine DP_strEq (a := (rd us (k : Int)).n) (b := (rd us (i : Int)).n) rfl rfl trivial rfl rfl rfl rfl (fun hq => ?_) (fun hq => absurd he hq) | (refine isLW ?_; first | refine LW_nil ?_ | (refine isLload ?_; first | refine LW_loadCAE 0 (eK noK) TOK hs rfl rfl rfl rfl (Nat.le_of_ble_eq_true rfl) rfl ?_) | (refine isLstore ?_; first | (refine LW_storeCA 1 TOK hs rfl rfl rfl rfl rfl (eK_ok.2 noK) rfl (Nat.le_of_ble_eq_true rfl) ?_; clear hs; intro w hs)) | (refine isLbin ?_; first | (refine LW_cmp rfl (fun _ => ?_) (fun _ => ?_) <;> try (exfalso; omega))) | refine LW_pure TOK rfl ?_) | (refine isDP ?_; first | (refine isDnil ?_; first | refine DP_end ?_ ?_) | (refine isDload rfl ?_; first | refine DP_loadRd ra (fun _ => rfl) hs TOK rfl rfl (by first | exact trivial | rfl) rfl (by assumption) rfl rfl (by omega) (by omega) rfl ?_ ?_) | (refine isDidx rfl ?_; first | (refine DP_indexRd (ra.of hs) TOK rfl rfl (by first | exact trivial | rfl) rfl rfl rfl rfl rfl (by omega) (by omega) ?_; intro _ _ _)) | refine DP_pure TOK rfl rfl (by first | exact trivial | rfl) rfl ?_) | (refine isI0 ?_; exact Inv.nil) | (refine isI1 ?_; first | refine Inv.keepB hs ?_) | (with_reducible first | refine then_n ?_ | refine CW_seq ?_ | refine CW_region ?_ | refine CW_block ?_ | refine CW_skip ?_ | refine CW_ret ?_ | refine then_r ?_ | refine blk_r ?_) | refine RETA2 1 hs TOK Try.results19 rfl rfl rfl rfl rfl rfl ?_ | refine CW_true rfl ?_ | (refine CW_drawP (id := 14) [] [0, 1, 2, 3, 4, 5, 6, 7, 8, 9, 10] mixed (by kernel_rfl) hs ?_; clear hs; intro hs)))
          exact LoadR.no hlo2 (by decide) hs
        · (repeat' (first | refine DP_strEq (a := (rd us (k : Int)).n) (b := (rd us (i : Int)).n) rfl rfl trivial rfl rfl rfl rfl (fun hq => absurd hq he) (fun hq => ?_) | (refine isLW ?_; first | refine LW_nil ?_ | (refine isLbin ?_; first | refine LW_i64 rfl (by omega) (by omega) ?_ | (refine LW_cmp rfl (fun _ => ?_) (fun _ => ?_) <;> try (exfalso; omega))) | refine LW_pure TOK rfl ?_) | (refine isDP ?_; first | (refine isDnil ?_; first | refine DP_end ?_ ?_) | (refine isDload rfl ?_; first | refine DP_loadRd ra (fun _ => rfl) hs TOK rfl rfl (by first | exact trivial | rfl) rfl (by assumption) rfl rfl (by omega) (by omega) rfl ?_ ?_) | (refine isDidx rfl ?_; first | (refine DP_indexRd (ra.of hs) TOK rfl rfl (by first | exact trivial | rfl) rfl rfl rfl rfl rfl (by omega) (by omega) ?_; intro _ _ _)) | refine DP_pure TOK rfl rfl (by first | exact trivial | rfl) rfl ?_) | (refine isI0 ?_; exact Inv.nil) | (refine isI1 ?_; first | refine Inv.keepB hs ?_) | (with_reducible first | refine then_n ?_ | refine CW_seq ?_ | refine CW_region ?_ | refine CW_block ?_ | refine CW_skip ?_ | refine blk_n ?_) | refine CW_true rfl ?_ | refine CW_false rfl ?_ | (refine CW_drawP (id := 14) [] [0, 1, 2, 3, 4, 5, 6, 7, 8, 9, 10] mixed (by kernel_rfl) hs ?_; clear hs; intro hs)))
          refine ⟨k + 1, _, FR_forget _ ⟨rfl, rfl, rfl, rfl, rfl, rfl, by push_cast; rfl, trivial⟩, ⟨hs, hk, fun j hj hji => ?_⟩, by omega⟩
          by_cases e : j = k
          · subst e; rw [← hrk]; exact he
          · exact h3 j hj (by omega)
      · have hke : k = i := by omega
        subst hke
        have hno : ¬ (fnd (beginN 0 [] (F.take k)) (rd us (k : Int)).n).isSome = true := fun h => by
          obtain ⟨f, hf, e⟩ := (lst_fnd hst).1 h
          obtain ⟨j, hj, rfl⟩ := List.mem_take_iff_getElem.1 hf
          have hFj : F[j]'(by omega) = us[j].f := by subst hu; rw [List.getElem_map]
          rw [hFj] at e
          exact h3 j (by omega) (by omega) e
        rw [if_neg hno] at hgo
        have hfn : fnd (beginN 0 [] (F.take k)) (rd us (k : Int)).f.1 = none := by
          cases e : fnd (beginN 0 [] (F.take k)) (rd us (k : Int)).f.1 with
          | none => rfl
          | some x => exact absurd (by rw [show (rd us (k : Int)).n = (rd us (k : Int)).f.1 from rfl, e]; rfl) hno
        have hst2 := hst.snoc (rd us (k : Int)).f hp hfn
        have hfl : (flsF (F.take k)).length = k := by rw [flsF_len, List.length_take]; omega
        have hbn : beginN 0 [] (F.take (k + 1)) = wi (beginN 0 [] (F.take k)) (rd us (k : Int)).n k := by
          rw [hnx, beginN_snoc, List.length_take, Nat.min_eq_left (by omega), Nat.zero_add]; rfl
        have hfs : flsF (F.take (k + 1)) = flsF (F.take k) ++ [⟨(rd us (k : Int)).data, (rd us (k : Int)).data.length⟩] := by rw [hnx, flsF_snoc]; rfl
        (repeat' (first | (refine isLW ?_; first | refine LW_nil ?_ | (refine isLload ?_; first | refine LW_loadRd (ra.of hs) (fun _ => rfl) TOK rfl (by assumption) rfl rfl (by omega) (by omega) rfl ?_) | (refine isLcall ?_; first | refine LW_pure TOK rfl ?_) | (refine isLidx ?_; first | (refine LW_indexRd (ra.of hs) TOK rfl rfl rfl rfl rfl (by omega) (by omega) ?_; intro _ _ _)) | (refine isLbin ?_; first | refine LW_arithE _ rfl hsn.symm ?_ | refine LW_i64 rfl (by omega) (by omega) ?_ | (refine LW_cmp rfl (fun _ => ?_) (fun _ => ?_) <;> try (exfalso; omega))) | refine LW_pure TOK rfl ?_) | (with_reducible first | refine then_n ?_ | refine CW_seq ?_ | refine CW_region ?_ | refine CW_exit ?_ | refine then_e ?_ | refine blk_n ?_ | refine blk_same ?_) | refine CW_false rfl ?_))
        refine ⟨k + 1, _, FR_forget _ ⟨rfl, rfl, rfl, rfl, rfl, by push_cast; rfl, trivial⟩, ⟨hs, hltu, ?_, ?_⟩, by omega⟩
        · rw [hfs, hbn, hnx]
          rw [hfl] at hst2
          exact hst2
        · rw [hgo, hfs, hbn, hfl]
    · have hp : pathB (rd us (i : Int)).n = false := (Bool.not_eq_true _).mp hp
      rw [if_pos hp] at hgo
      have hlo2 := hbad _ hgo
      (repeat' (first | (refine isLW ?_; first | refine LW_nil ?_ | (refine isLload ?_; first | refine LW_loadCAE 0 (eK noK) TOK hs rfl rfl rfl rfl (Nat.le_of_ble_eq_true rfl) rfl ?_ | refine LW_loadRd (ra.of hs) (fun _ => rfl) TOK rfl (by assumption) rfl rfl (by omega) (by omega) rfl ?_) | (refine isLstore ?_; first | (refine LW_storeCA 1 TOK hs rfl rfl rfl rfl rfl (eK_ok.2 noK) rfl (Nat.le_of_ble_eq_true rfl) ?_; clear hs; intro w hs)) | (refine isLcall ?_; first | (refine LW_call (cap := []) rfl rfl ent61 (rpath_call _ (rd us (i : Int)).n hnn) ?_; rintro _ w2 ⟨rfl, hs2⟩; replace hs := hs.and0 hs2; clear hs2; rw [hp]) | refine LW_pure TOK rfl ?_) | (refine isLidx ?_; first | (refine LW_indexRd (ra.of hs) TOK rfl rfl rfl rfl rfl (by omega) (by omega) ?_; intro _ _ _)) | (refine isLbin ?_; first | (refine LW_cmp rfl (fun _ => ?_) (fun _ => ?_) <;> try (exfalso; omega))) | refine LW_pure TOK rfl ?_) | (with_reducible first | refine then_n ?_ | refine CW_seq ?_ | refine CW_region ?_ | refine CW_block ?_ | refine CW_skip ?_ | refine CW_ret ?_ | refine then_r ?_ | refine blk_r ?_) | refine RETA2 1 hs TOK Try.results19 rfl rfl rfl rfl rfl rfl ?_ | refine CW_true rfl ?_))
      exact LoadR.no hlo2 (by decide) hs
  · have e : F.take i = F := List.take_of_length_le (by omega)
    have e2 : F.drop i = [] := List.drop_eq_nil_of_le (by omega)
    rw [e2, e] at hgo
    have hgo2 := hgood _ _ hgo
    rw [e] at hsw ⊢
    by_cases hsq : q < sumW F
    · rw [if_pos hsq] at hgo2
      (repeat' (first | (refine isLW ?_; first | refine LW_nil ?_ | (refine isLload ?_; first | refine LW_loadCAE 0 (eK noK) TOK hs rfl rfl rfl rfl (Nat.le_of_ble_eq_true rfl) rfl ?_) | (refine isLstore ?_; first | (refine LW_storeCA 1 TOK hs rfl rfl rfl rfl rfl (eK_ok.2 noK) rfl (Nat.le_of_ble_eq_true rfl) ?_; clear hs; intro w hs)) | (refine isLcall ?_; first | refine LW_pure TOK rfl ?_) | (refine isLbin ?_; first | (refine LW_cmp rfl (fun _ => ?_) (fun _ => ?_) <;> try (exfalso; omega))) | refine LW_pure TOK rfl ?_) | (with_reducible first | refine then_n ?_ | refine CW_seq ?_ | refine CW_region ?_ | refine CW_exit ?_ | refine CW_ret ?_ | refine then_e ?_ | refine then_r ?_ | refine blk_same ?_) | refine RETA2 1 hs TOK Try.results19 rfl rfl rfl rfl rfl rfl ?_ | refine CW_true rfl ?_ | refine CW_false rfl ?_))
      exact LoadR.no hgo2 (by decide) hs
    · rw [if_neg hsq] at hgo2
      (repeat' (first | (refine isLW ?_; first | refine LW_nil ?_ | (refine isLload ?_; first | refine LW_loadCAE 0 (eS (beginS TA tc th NA nc (beginN 0 [] F))) TOK hs rfl rfl rfl rfl (Nat.le_of_ble_eq_true rfl) rfl ?_) | (refine isLstore ?_; first | (refine LW_storeCA 0 TOK hs rfl rfl rfl rfl rfl (eS_ok.2 (beginS TA tc th NA nc (beginN 0 [] F))) rfl (Nat.le_of_ble_eq_true rfl) ?_; clear hs; intro w hs) | (refine LW_storeCA 5 TOK hs rfl rfl rfl rfl rfl (eK_ok.2 ⟨q, beginS TA tc th NA nc (beginN 0 [] F), -1, false⟩) rfl (Nat.le_of_ble_eq_true rfl) ?_; clear hs; intro w hs)) | (refine isLcall ?_; first | (refine LW_call (cap := []) rfl rfl ent62 (begin_call _ F A c (ra0.up hs) hl hd) ?_; rintro _ w2 ⟨TA, tc, th, NA, nc, rfl, _, h5, h6, hs2⟩; replace hs := hs.andThen hs2; clear hs2) | refine LW_pure TOK rfl ?_) | (refine isLbin ?_; first | (refine LW_cmp rfl (fun _ => ?_) (fun _ => ?_) <;> try (exfalso; omega))) | refine LW_pure TOK rfl ?_ | (refine LW_alloc TOK hs rfl rfl ?_; clear hs; intro _ w hs) | refine LW_build TOK rfl rfl rfl rfl rfl rfl ?_) | (with_reducible first | refine then_n ?_ | refine CW_seq ?_ | refine CW_region ?_ | refine CW_skip ?_ | refine CW_exit ?_ | refine CW_ret ?_ | refine then_e ?_ | refine blk_same ?_) | refine RETA2 5 hs TOK Try.results19 rfl rfl rfl rfl rfl rfl ?_ | refine CW_false rfl ?_))
      right
      rw [hgo2]
      exact ⟨rfl, TA, tc, th, NA, nc, rfl, h5, h6, Sat.keeps hs [1, 1, 1], rfl⟩
end Go.Proofs.Ytoodgenbcfdloaa
