/- Walks: the names of an object; is a value sound? -/
import Derived.Test.YtbmeafeojcgndaaDoorV31
set_option linter.unusedVariables false
set_option linter.unusedSimpArgs false
namespace Go.Proofs.YtbmeafeojcgndaaDoor
open Go Go.Sl Go.RowKit
set_option maxRecDepth 100000
attribute [local irreducible] CW LW DW FR DP Calls Res Ret
/-- The first thing that is wrong with names. -/
def namesL : List (List UInt8) → List (List UInt8) → Int
  | _, [] => 0
  | seen, s :: l => if wholeB s = true then (if s ∈ seen then 137 else namesL (seen ++ [s]) l) else 134
def namesE (l : List (List UInt8)) : Int := namesL [] l
theorem namesL_cons (seen : List (List UInt8)) (s : List UInt8) (l : List (List UInt8)) : namesL seen (s :: l) = if wholeB s = true then (if s ∈ seen then 137 else namesL (seen ++ [s]) l) else 134 := rfl
/-- All that a value holds is no longer than N. -/
inductive SmJ (N : Nat) : J → Prop where
  | mk {k i : Int} {t : List UInt8} {ns : List (List UInt8)} {xs : List J} (ht : t.length ≤ N) (hn : ∀ n ∈ ns, n.length ≤ N) (hnl : ns.length ≤ N) (hxl : xs.length ≤ N) (hx : ∀ x ∈ xs, SmJ N x) : SmJ N (.mk k i t ns xs)
mutual
/-- The first thing that is wrong with a value. -/
noncomputable def soundJ : J → Nat → Int
  | .mk k i t ns xs, d => if shB k i (t = []) ns.length xs.length = true then
      (if (k = 4 ∨ k = 5) ∧ 16 < d + 1 then 136 else if wholeB t = true then (if namesE ns = 0 then soundJs xs (if k = 4 ∨ k = 5 then d + 1 else d) else namesE ns) else 134)
      else 139
noncomputable def soundJs : List J → Nat → Int
  | [], _ => 0
  | x :: xs, d => if soundJ x d = 0 then soundJs xs d else soundJ x d
end
section
variable {W : World} {L : List HProp}
set_option maxHeartbeats 2000000 in
theorem names_call (hU : Lib.Utf8Tabs 1 2 W) (w : World) (ns : List (List UInt8)) (NA : Option Addr) (nc : Nat) (rn : Rd eN W NA ns) (hs : Sat W w L) (hl : ns.length ≤ 140737488355328) (hsm : ∀ n ∈ ns, n.length ≤ 140737488355328) :
    Calls Tryd.prog 47 [Value.slice NA ns.length nc].toArray w (Ret fun v w' => v = .int .i64 (namesE ns) ∧ Sat W w' L) := by
  refine Calls_of Tryd.func47 rfl 26 Tryd.ntmps47 rfl ?_
  (repeat' (first | (refine isLW ?_; first | refine LW_nil ?_ | (refine isLcall ?_; first | refine LW_pure TOK rfl ?_) | refine LW_pure TOK rfl ?_ | (refine LW_makeMap hs ?_; clear hs; intro _ w hs)) | (with_reducible first | refine then_n ?_ | refine CW_seq ?_ | refine CW_region ?_ | refine CW_block ?_)))
  rename_i bm
  refine CW_loop (γ := Nat × List (List UInt8 × Value × Nat) × Nat) (fun g => [(3, .map (some bm)), (7, .slice NA ns.length nc), (8, .int .i64 (ns.length : Int)), (9, .int .i64 (g.1 : Int))]) (fun g w' => Sat W w' (Mp keyN bm g.2.1 g.2.2 :: L) ∧ g.1 ≤ ns.length ∧ Seen g.2.1 (ns.take g.1) ∧ namesL (ns.take g.1) (ns.drop g.1) = namesE ns) (fun g => ns.length - g.1) (0, [], 0) ⟨rfl, rfl, rfl, rfl, trivial⟩ ⟨hs, Nat.zero_le _, ⟨rfl, by simp⟩, rfl⟩ ?_
  clear hs
  rintro ⟨g, kvs, ck⟩ τ w1 ⟨hs, h1, hseen, h3⟩
  dsimp only at hs h1 hseen h3 ⊢
  by_cases hg : g < ns.length
  · obtain ⟨nm, hnm⟩ : ∃ nm, Go.Sl.rd ns (g : Int) = nm := ⟨_, rfl⟩
    have hget : ns[g]? = some nm := by
      have := rd_get (xs := ns) (i := (g : Int)) (by omega) (by omega)
      rw [hnm] at this; simpa using this
    have hget2 : ns[g] = nm := by rw [List.getElem?_eq_getElem hg] at hget; exact Option.some.inj hget
    have hml : nm.length ≤ 140737488355328 := hsm nm (List.mem_of_getElem? hget)
    rw [List.drop_eq_getElem_cons hg, hget2, namesL_cons] at h3
    have htk : ns.take (g + 1) = ns.take g ++ [nm] := by rw [List.take_add_one, hget]; rfl
    obtain ⟨wb, hwb⟩ : ∃ wb, wholeB nm = wb := ⟨_, rfl⟩
    cases wb
    · rw [hwb, if_neg (by simp)] at h3
      (repeat' (first | (refine isLW ?_; first | refine LW_nil ?_ | (refine isLload ?_; first | (refine LW_loadRd0 (rn.of hs) (fun _ => rfl) TOK rfl (by assumption) rfl rfl (by omega) (by omega) (by rw [hnm]; rfl) ?_)) | (refine isLcall ?_; first | (refine LW_call (cap := []) rfl rfl ent46 (whole_call hU _ nm hs hml) ?_; clear hs; rintro _ w2 ⟨rfl, hs⟩; rw [hwb])) | (refine isLidx ?_; first | (refine LW_indexRd (rn.of hs) TOK rfl rfl rfl rfl rfl (by omega) (by omega) ?_; intro _ _ _)) | (refine isLbin ?_; first | (refine LW_cmp rfl (fun _ => ?_) (fun _ => ?_) <;> try (exfalso; omega))) | refine LW_pure TOK rfl ?_) | (with_reducible first | refine then_n ?_ | refine CW_seq ?_ | refine CW_region ?_ | refine CW_block ?_ | refine CW_skip ?_ | refine CW_ret ?_ | refine then_r ?_ | refine blk_r ?_) | refine CW_true rfl ?_ | refine RET1 Tryd.results47 rfl ?_))
      all_goals exact ⟨by rw [h3], hs.drop1⟩
    rw [hwb, if_pos rfl] at h3
    by_cases hin : nm ∈ ns.take g
    · rw [if_pos hin] at h3
      obtain ⟨v0, hv0, hv1⟩ := hseen.some (z := .int .i64 0) hin
      (repeat' (first | (refine isLW ?_; first | refine LW_nil ?_ | (refine isLload ?_; first | (refine LW_loadRd0 (rn.of hs) (fun _ => rfl) TOK rfl (by assumption) rfl rfl (by omega) (by omega) (by rw [hnm]; rfl) ?_)) | (refine isLcall ?_; first | (refine LW_call (cap := []) rfl rfl ent46 (whole_call hU _ nm hs hml) ?_; clear hs; rintro _ w2 ⟨rfl, hs⟩; rw [hwb])) | (refine isLidx ?_; first | (refine LW_indexRd (rn.of hs) TOK rfl rfl rfl rfl rfl (by omega) (by omega) ?_; intro _ _ _)) | (refine isLbin ?_; first | (refine LW_cmp rfl (fun _ => ?_) (fun _ => ?_) <;> try (exfalso; omega))) | refine LW_lookup keyN 0 (k := nm) hs TOK rfl rfl rfl rfl rfl rfl rfl rfl hv0 ?_ | refine LW_pure TOK rfl ?_) | (with_reducible first | refine then_n ?_ | refine CW_seq ?_ | refine CW_region ?_ | refine CW_block ?_ | refine CW_skip ?_ | refine CW_ret ?_ | refine then_r ?_ | refine blk_r ?_) | refine CW_true rfl ?_ | refine CW_false rfl ?_ | refine RET1 Tryd.results47 rfl ?_))
      all_goals exact ⟨by rw [h3], hs.drop1⟩
    · rw [if_neg hin] at h3
      have hno := hseen.none (z := .int .i64 0) hin
      have hseen2 := hseen.put (ck := ck) (v := (g : Int) + 1) hin (by omega)
      rw [← htk] at hseen2 h3
      (repeat' (first | (refine isLW ?_; first | refine LW_nil ?_ | (refine isLload ?_; first | (refine LW_loadRd0 (rn.of hs) (fun _ => rfl) TOK rfl (by assumption) rfl rfl (by omega) (by omega) (by rw [hnm]; rfl) ?_)) | (refine isLcall ?_; first | (refine LW_call (cap := []) rfl rfl ent46 (whole_call hU _ nm hs hml) ?_; clear hs; rintro _ w2 ⟨rfl, hs⟩; rw [hwb])) | (refine isLidx ?_; first | (refine LW_indexRd (rn.of hs) TOK rfl rfl rfl rfl rfl (by omega) (by omega) ?_; intro _ _ _)) | (refine isLbin ?_; first | refine LW_i64 rfl (by omega) (by omega) ?_ | (refine LW_cmp rfl (fun _ => ?_) (fun _ => ?_) <;> try (exfalso; omega))) | refine LW_lookup keyN 0 (k := nm) hs TOK rfl rfl rfl rfl rfl rfl rfl rfl hno ?_ | (refine LW_mapUpdate keyN 0 (k := nm) hs TOK rfl rfl rfl rfl rfl rfl rfl rfl ?_; clear hs; intro w hs) | refine LW_pure TOK rfl ?_) | (with_reducible first | refine then_n ?_ | refine CW_seq ?_ | refine CW_region ?_ | refine CW_block ?_ | refine CW_skip ?_ | refine blk_n ?_) | refine CW_true rfl ?_ | refine CW_false rfl ?_))
      all_goals exact ⟨((g + 1, putV kvs ck nm (.int .i64 ((g : Int) + 1)), putCk kvs ck nm) : Nat × List (List UInt8 × Value × Nat) × Nat), _, FR_forget _ ⟨rfl, rfl, rfl, rfl, trivial⟩, ⟨hs, by dsimp only; omega, hseen2, h3⟩, by dsimp only; omega⟩
  · have e : g = ns.length := by omega
    subst e
    rw [List.drop_length] at h3
    (repeat' (first | (refine isLW ?_; first | refine LW_nil ?_ | (refine isLbin ?_; first | (refine LW_cmp rfl (fun _ => ?_) (fun _ => ?_) <;> try (exfalso; omega))) | refine LW_pure TOK rfl ?_) | (with_reducible first | refine then_n ?_ | refine CW_seq ?_ | refine CW_region ?_ | refine CW_exit ?_ | refine CW_ret ?_ | refine then_e ?_ | refine blk_same ?_) | refine CW_false rfl ?_ | refine RET1 Tryd.results47 rfl ?_))
    all_goals exact ⟨by rw [← h3]; rfl, hs.drop1⟩
end
end Go.Proofs.YtbmeafeojcgndaaDoor

/- Walks: is a value sound? -/
set_option linter.unusedVariables false
set_option linter.unusedSimpArgs false
namespace Go.Proofs.YtbmeafeojcgndaaDoor
open Go Go.Sl Go.RowKit
set_option maxRecDepth 100000
attribute [local irreducible] CW LW DW FR DP Calls Res Ret
theorem soundJs_cons (x : J) (xs : List J) (d : Nat) : soundJs (x :: xs) d = if soundJ x d = 0 then soundJs xs d else soundJ x d := by rw [soundJs]
section
variable {W : World}
set_option maxHeartbeats 8000000 in
theorem sound_call (hU : Lib.Utf8Tabs 1 2 W) {x : RV} (h : RdV W x) : ∀ (L : List HProp) (w : World) (d : Nat), SmJ 1099511627776 x.j → Sat W w L → d ≤ 1000 →
    Calls Tryd.prog 31 [Value.agg (eV x).toArray, .int .i64 (d : Int)].toArray w (Ret fun v w' => v = .int .i64 (soundJ x.j d) ∧ Sat W w' L) := by
  induction h with
  | @mk k i t NA nc ns IA ic xs rn rx hnc hic hall ih =>
  intro L w d hsm hs hd
  have hjj : (RV.mk k i t NA nc ns IA ic xs).j = .mk k i t ns (RV.js xs) := by rw [RV.j]
  rw [hjj] at hsm ⊢
  obtain ⟨ht, hn, hnl, hxl, hxs⟩ : t.length ≤ 1099511627776 ∧ (∀ n ∈ ns, n.length ≤ 1099511627776) ∧ ns.length ≤ 1099511627776 ∧ xs.length ≤ 1099511627776 ∧ ∀ x ∈ RV.js xs, SmJ 1099511627776 x := by
    cases hsm with
    | mk a b c d e => exact ⟨a, b, c, by simpa [RV.js_eq] using d, e⟩
  have hjl : (RV.js xs).length = xs.length := by rw [RV.js_eq, List.length_map]
  rw [soundJ, hjl]
  obtain ⟨res, hres⟩ : ∃ res, (if shB k i (t = []) ns.length xs.length = true then
      (if (k = 4 ∨ k = 5) ∧ 16 < d + 1 then (136 : Int) else if wholeB t = true then (if namesE ns = 0 then soundJs (RV.js xs) (if k = 4 ∨ k = 5 then d + 1 else d) else namesE ns) else 134)
      else 139) = res := ⟨_, rfl⟩
  rw [hres]
  refine Calls_of Tryd.func31 rfl 48 Tryd.ntmps31 rfl ?_
  unfold eV
  refine CW_late3 (fun a w => ∃ (b2 d1 : Nat) (τ : Nat → Value), a = FR 48 [(1, .int .i64 (d1 : Int)), (2, .pointer (some ⟨b2, 0, none⟩))] τ [] ∧ Sat W w (Cl b2 [.int .i64 k, .int .i64 i, sv t, .slice NA ns.length nc, .slice IA xs.length ic] 31 :: L) ∧ d1 ≤ 1000 ∧ (if wholeB t = true then (if namesE ns = 0 then soundJs (RV.js xs) d1 else namesE ns) else 134) = res) ?_ ?_
  · clear hs hres w
    rintro a w ⟨b2, d1, τ, rfl, hs, hd1, hres⟩
    obtain ⟨wb, hwb⟩ : ∃ wb, wholeB t = wb := ⟨_, rfl⟩
    rw [hwb] at hres
    cases wb
    · rw [if_neg (by simp)] at hres
      (repeat' (first | (refine isLW ?_; first | refine LW_nil ?_ | (refine isLload ?_; first | refine LW_loadC 0 TOK hs rfl rfl rfl rfl rfl ?_) | (refine isLcall ?_; first | (refine LW_call (cap := []) rfl rfl ent46 (whole_call hU _ t hs (by omega)) ?_; clear hs; rintro _ w2 ⟨rfl, hs⟩; rw [hwb])) | refine LW_pure TOK rfl ?_) | (with_reducible first | refine then_n ?_ | refine CW_seq ?_ | refine CW_region ?_ | refine CW_ret ?_ | refine then_r ?_) | refine CW_true rfl ?_ | refine RET1 Tryd.results31 rfl ?_))
      all_goals exact ⟨by rw [hres], hs.drop1⟩
    rw [if_pos rfl] at hres
    obtain ⟨ne, hne⟩ : ∃ ne, namesE ns = ne := ⟨_, rfl⟩
    rw [hne] at hres
    by_cases hne0 : ne = 0
    · subst hne0
      rw [if_pos rfl] at hres
      (repeat' (first | (refine isLW ?_; first | refine LW_nil ?_ | (refine isLload ?_; first | refine LW_loadC 0 TOK hs rfl rfl rfl rfl rfl ?_) | (refine isLcall ?_; first | (refine LW_call (cap := []) rfl rfl ent46 (whole_call hU _ t hs (by omega)) ?_; clear hs; rintro _ w2 ⟨rfl, hs⟩; rw [hwb]) | (refine LW_call (cap := []) rfl rfl ent47 (names_call hU _ ns NA nc rn hs (by omega) (fun n hn' => Nat.le_trans (hn n hn') (by decide))) ?_; clear hs; rintro _ w2 ⟨rfl, hs⟩; rw [hne]) | refine LW_pure TOK rfl ?_) | (refine isLbin ?_; first | (refine LW_cmp rfl (fun _ => ?_) (fun _ => ?_) <;> try (exfalso; omega))) | refine LW_pure TOK rfl ?_) | (with_reducible first | refine then_n ?_ | refine CW_seq ?_ | refine CW_region ?_ | refine CW_block ?_ | refine CW_skip ?_) | refine CW_false rfl ?_))
      refine CW_loop (γ := Nat) (fun g => [(1, .int .i64 (d1 : Int)), (35, .slice IA xs.length ic), (36, .int .i64 (xs.length : Int)), (37, .int .i64 (g : Int))]) (fun g w' => Sat W w' L ∧ g ≤ xs.length ∧ soundJs (RV.js (xs.drop g)) d1 = res) (fun g => xs.length - g) 0 ⟨rfl, rfl, rfl, rfl, trivial⟩ ⟨hs.drop1, Nat.zero_le _, hres⟩ ?_
      clear hs hres
      rintro g τ w1 ⟨hs, h1, h3⟩
      try dsimp only
      by_cases hg : g < xs.length
      · obtain ⟨z, hz⟩ : ∃ z, Go.Sl.rd xs (g : Int) = z := ⟨_, rfl⟩
        have hget : xs[g]? = some z := by
          have := rd_get (xs := xs) (i := (g : Int)) (by omega) (by omega)
          rw [hz] at this; simpa using this
        have hget2 : xs[g] = z := by rw [List.getElem?_eq_getElem hg] at hget; exact Option.some.inj hget
        have hmem : z ∈ xs := List.mem_of_getElem? hget
        rw [List.drop_eq_getElem_cons hg, hget2, RV.js, soundJs_cons] at h3
        have hzs : SmJ 1099511627776 z.j := hxs _ (by rw [RV.js_eq]; exact List.mem_map_of_mem hmem)
        have ihz := ih z hmem
        obtain ⟨sz, hsz⟩ : ∃ sz, soundJ z.j d1 = sz := ⟨_, rfl⟩
        rw [hsz] at h3
        have hcall := fun (w : World) (L : List HProp) (hs : Sat W w L) => ihz L w d1 hzs hs hd1
        rw [hsz] at hcall
        clear ihz ih
        cases z with
        | mk kk ii tt NA0 nc0 ns0 IA0 ic0 xs0 =>
        by_cases hs0 : sz = 0
        · subst hs0
          rw [if_pos rfl] at h3
          (repeat' (first | (refine isLW ?_; first | refine LW_nil ?_ | (refine isLload ?_; first | (refine LW_loadRdA (rx.of hs) eV_ok.1 TOK rfl (by assumption) rfl rfl rfl (by omega) (by omega) (by rw [hz]) ?_) | refine LW_loadCAE 0 [.int .i64 kk, .int .i64 ii, sv tt, .slice NA0 ns0.length nc0, .slice IA0 xs0.length ic0] TOK hs rfl rfl rfl rfl (Nat.le_of_ble_eq_true rfl) rfl ?_) | (refine isLstore ?_; first | (refine LW_storeCA 0 TOK hs rfl rfl rfl rfl rfl (oneV _ _ _ _ _ _ _ _ _) rfl (Nat.le_of_ble_eq_true rfl) ?_; clear hs; intro w hs)) | (refine isLcall ?_; first | (refine LW_call (cap := []) rfl rfl ent31 (hcall _ _ hs) ?_; clear hs; rintro _ w2 ⟨rfl, hs⟩)) | (refine isLidx ?_; first | (refine LW_indexRd (rx.of hs) TOK rfl rfl rfl rfl rfl (by omega) (by omega) ?_; intro _ _ _)) | (refine isLbin ?_; first | refine LW_i64 rfl (by omega) (by omega) ?_ | (refine LW_cmp rfl (fun _ => ?_) (fun _ => ?_) <;> try (exfalso; omega))) | refine LW_pure TOK rfl ?_ | (refine LW_alloc TOK hs rfl rfl ?_; clear hs; intro _ w hs)) | (with_reducible first | refine then_n ?_ | refine CW_seq ?_ | refine CW_region ?_ | refine CW_block ?_ | refine CW_skip ?_ | refine blk_n ?_) | refine CW_true rfl ?_ | refine CW_false rfl ?_))
          all_goals exact ⟨g + 1, _, FR_forget _ ⟨rfl, rfl, rfl, rfl, trivial⟩, ⟨hs.drop1, by omega, h3⟩, by omega⟩
        · rw [if_neg hs0] at h3
          (repeat' (first | (refine isLW ?_; first | refine LW_nil ?_ | (refine isLload ?_; first | (refine LW_loadRdA (rx.of hs) eV_ok.1 TOK rfl (by assumption) rfl rfl rfl (by omega) (by omega) (by rw [hz]) ?_) | refine LW_loadCAE 0 [.int .i64 kk, .int .i64 ii, sv tt, .slice NA0 ns0.length nc0, .slice IA0 xs0.length ic0] TOK hs rfl rfl rfl rfl (Nat.le_of_ble_eq_true rfl) rfl ?_) | (refine isLstore ?_; first | (refine LW_storeCA 0 TOK hs rfl rfl rfl rfl rfl (oneV _ _ _ _ _ _ _ _ _) rfl (Nat.le_of_ble_eq_true rfl) ?_; clear hs; intro w hs)) | (refine isLcall ?_; first | (refine LW_call (cap := []) rfl rfl ent31 (hcall _ _ hs) ?_; clear hs; rintro _ w2 ⟨rfl, hs⟩)) | (refine isLidx ?_; first | (refine LW_indexRd (rx.of hs) TOK rfl rfl rfl rfl rfl (by omega) (by omega) ?_; intro _ _ _)) | (refine isLbin ?_; first | (refine LW_cmp rfl (fun _ => ?_) (fun _ => ?_) <;> try (exfalso; omega))) | refine LW_pure TOK rfl ?_ | (refine LW_alloc TOK hs rfl rfl ?_; clear hs; intro _ w hs)) | (with_reducible first | refine then_n ?_ | refine CW_seq ?_ | refine CW_region ?_ | refine CW_block ?_ | refine CW_skip ?_ | refine CW_ret ?_ | refine then_r ?_ | refine blk_r ?_) | refine CW_true rfl ?_ | refine RET1 Tryd.results31 rfl ?_))
          all_goals exact ⟨by rw [h3], hs.drop1⟩
      · have e : g = xs.length := by omega
        subst e
        rw [List.drop_length, RV.js, soundJs] at h3
        (repeat' (first | (refine isLW ?_; first | refine LW_nil ?_ | (refine isLbin ?_; first | (refine LW_cmp rfl (fun _ => ?_) (fun _ => ?_) <;> try (exfalso; omega))) | refine LW_pure TOK rfl ?_) | (with_reducible first | refine then_n ?_ | refine CW_seq ?_ | refine CW_region ?_ | refine CW_exit ?_ | refine CW_ret ?_ | refine then_e ?_ | refine blk_same ?_) | refine CW_false rfl ?_ | refine RET1 Tryd.results31 rfl ?_))
        all_goals exact ⟨by rw [← h3], hs⟩
    · rw [if_neg hne0] at hres
      (repeat' (first | (refine isLW ?_; first | refine LW_nil ?_ | (refine isLload ?_; first | refine LW_loadC 0 TOK hs rfl rfl rfl rfl rfl ?_) | (refine isLcall ?_; first | (refine LW_call (cap := []) rfl rfl ent46 (whole_call hU _ t hs (by omega)) ?_; clear hs; rintro _ w2 ⟨rfl, hs⟩; rw [hwb]) | (refine LW_call (cap := []) rfl rfl ent47 (names_call hU _ ns NA nc rn hs (by omega) (fun n hn' => Nat.le_trans (hn n hn') (by decide))) ?_; clear hs; rintro _ w2 ⟨rfl, hs⟩; rw [hne])) | (refine isLbin ?_; first | (refine LW_cmp rfl (fun _ => ?_) (fun _ => ?_) <;> try (exfalso; omega))) | refine LW_pure TOK rfl ?_) | (with_reducible first | refine then_n ?_ | refine CW_seq ?_ | refine CW_region ?_ | refine CW_skip ?_ | refine CW_ret ?_ | refine then_r ?_) | refine CW_true rfl ?_ | refine CW_false rfl ?_ | refine RET1 Tryd.results31 rfl ?_))
      all_goals exact ⟨by rw [hres], hs.drop1⟩
  · intro hlate
    obtain ⟨sb, hsb⟩ : ∃ sb, shB k i (t = []) ns.length xs.length = sb := ⟨_, rfl⟩
    rw [hsb] at hres
    cases sb
    · rw [if_neg (by simp)] at hres
      (repeat' (first | (refine isLW ?_; first | refine LW_nil ?_ | (refine isLload ?_; first | refine LW_loadCAE 0 [.int .i64 k, .int .i64 i, sv t, .slice NA ns.length nc, .slice IA xs.length ic] TOK hs rfl rfl rfl rfl (Nat.le_of_ble_eq_true rfl) rfl ?_) | (refine isLcall ?_; first | (refine LW_call (cap := []) rfl rfl ent45 (shaped_call _ k i t NA nc ns.length IA xs.length ic) ?_; rintro _ w2 ⟨rfl, hs2⟩; rw [hsb]; replace hs := hs.and0 hs2; clear hs2)) | refine LW_pure TOK rfl ?_ | (refine LW_box hs rfl rfl ?_; clear hs; intro _ w hs)) | (with_reducible first | refine then_n ?_ | refine CW_seq ?_ | refine CW_region ?_ | refine CW_ret ?_ | refine then_r ?_) | refine CW_true rfl ?_ | refine RET1 Tryd.results31 rfl ?_))
      all_goals exact ⟨by rw [hres], hs.drop1⟩
    rw [if_pos rfl] at hres
    by_cases hk45 : k = 4 ∨ k = 5
    · rw [if_pos hk45] at hres
      by_cases hdeep : 16 < d + 1
      · rw [if_pos ⟨hk45, hdeep⟩] at hres
        (repeat' (first | (refine isLW ?_; first | refine LW_nil ?_ | (refine isLg ?_; first | refine LW_take rfl ?_ | refine LW_pass rfl rfl ?_) | (refine isLload ?_; first | refine LW_loadCAE 0 [.int .i64 k, .int .i64 i, sv t, .slice NA ns.length nc, .slice IA xs.length ic] TOK hs rfl rfl rfl rfl (Nat.le_of_ble_eq_true rfl) rfl ?_ | refine LW_loadC 0 TOK hs rfl rfl rfl rfl rfl ?_) | (refine isLcall ?_; first | (refine LW_call (cap := []) rfl rfl ent45 (shaped_call _ k i t NA nc ns.length IA xs.length ic) ?_; rintro _ w2 ⟨rfl, hs2⟩; rw [hsb]; replace hs := hs.and0 hs2; clear hs2)) | (refine isLbin ?_; first | refine LW_i64 rfl (by omega) (by omega) ?_ | (refine LW_cmp rfl (fun _ => ?_) (fun _ => ?_) <;> try (exfalso; omega))) | refine LW_pure TOK rfl ?_ | (refine LW_box hs rfl rfl ?_; clear hs; intro _ w hs)) | (with_reducible first | refine then_n ?_ | refine CW_seq ?_ | refine CW_region ?_ | refine CW_skip ?_ | refine CW_ret ?_ | refine then_r ?_) | refine CW_true rfl ?_ | refine CW_false rfl ?_ | refine RET1 Tryd.results31 rfl ?_))
        all_goals exact ⟨by rw [hres], hs.drop1⟩
      · rw [if_neg (fun h => hdeep h.2)] at hres
        (repeat' (first | refine hlate _ _ ?_ | (refine isLW ?_; first | refine LW_nil ?_ | (refine isLg ?_; first | refine LW_take rfl ?_ | refine LW_pass rfl rfl ?_) | (refine isLload ?_; first | refine LW_loadCAE 0 [.int .i64 k, .int .i64 i, sv t, .slice NA ns.length nc, .slice IA xs.length ic] TOK hs rfl rfl rfl rfl (Nat.le_of_ble_eq_true rfl) rfl ?_ | refine LW_loadC 0 TOK hs rfl rfl rfl rfl rfl ?_) | (refine isLcall ?_; first | (refine LW_call (cap := []) rfl rfl ent45 (shaped_call _ k i t NA nc ns.length IA xs.length ic) ?_; rintro _ w2 ⟨rfl, hs2⟩; rw [hsb]; replace hs := hs.and0 hs2; clear hs2)) | (refine isLbin ?_; first | refine LW_i64 rfl (by omega) (by omega) ?_ | (refine LW_cmp rfl (fun _ => ?_) (fun _ => ?_) <;> try (exfalso; omega))) | refine LW_pure TOK rfl ?_ | (refine LW_box hs rfl rfl ?_; clear hs; intro _ w hs)) | (with_reducible first | refine then_n ?_ | refine CW_seq ?_ | refine CW_region ?_ | refine CW_skip ?_) | refine CW_true rfl ?_ | refine CW_false rfl ?_))
        all_goals exact ⟨_, d + 1, _, FR_forget _ ⟨rfl, rfl, trivial⟩, hs, by omega, hres⟩
    · rw [if_neg (fun h => hk45 h.1), if_neg hk45] at hres
      (repeat' (first | refine hlate _ _ ?_ | (refine isLW ?_; first | refine LW_nil ?_ | (refine isLg ?_; first | refine LW_take rfl ?_) | (refine isLload ?_; first | refine LW_loadCAE 0 [.int .i64 k, .int .i64 i, sv t, .slice NA ns.length nc, .slice IA xs.length ic] TOK hs rfl rfl rfl rfl (Nat.le_of_ble_eq_true rfl) rfl ?_ | refine LW_loadC 0 TOK hs rfl rfl rfl rfl rfl ?_) | (refine isLcall ?_; first | (refine LW_call (cap := []) rfl rfl ent45 (shaped_call _ k i t NA nc ns.length IA xs.length ic) ?_; rintro _ w2 ⟨rfl, hs2⟩; rw [hsb]; replace hs := hs.and0 hs2; clear hs2)) | (refine isLbin ?_; first | (refine LW_cmp rfl (fun _ => ?_) (fun _ => ?_) <;> try (exfalso; omega))) | refine LW_pure TOK rfl ?_ | (refine LW_box hs rfl rfl ?_; clear hs; intro _ w hs)) | (with_reducible first | refine then_n ?_ | refine CW_seq ?_ | refine CW_region ?_ | refine CW_skip ?_) | refine CW_false rfl ?_))
      all_goals exact ⟨_, d, _, FR_forget _ ⟨rfl, rfl, trivial⟩, hs, by omega, hres⟩
end
end Go.Proofs.YtbmeafeojcgndaaDoor
