/- Values as they lie in memory, and what they are. -/
import Derived.Test.YtbmeafeojcgndaaDoorV12
import Derived.Test.YtbmeafeojcgndaaDoorSlB
import Derived.Test.YtbmeafeojcgndaaDoorV23
set_option linter.unusedVariables false
set_option linter.unusedSimpArgs false
namespace Go.Proofs.YtbmeafeojcgndaaDoor
open Go Go.Sl Go.RowKit
set_option maxRecDepth 100000
/-- A value, as it lies: its list of names, its list of items. -/
inductive RV where
  | mk (kind int : Int) (text : List UInt8) (NA : Option Addr) (nc : Nat) (names : List (List UInt8)) (IA : Option Addr) (ic : Nat) (items : List RV)
instance : Inhabited RV := ⟨.mk 0 0 [] none 0 [] none 0 []⟩
/-- What a value is. -/
inductive J where
  | mk (kind int : Int) (text : List UInt8) (names : List (List UInt8)) (items : List J)
instance : Inhabited J := ⟨.mk 0 0 [] [] []⟩
def RV.items : RV → List RV
  | .mk _ _ _ _ _ _ _ _ xs => xs
def eV : RV → List Value
  | .mk k i t NA nc ns IA ic xs => [.int .i64 k, .int .i64 i, sv t, .slice NA ns.length nc, .slice IA xs.length ic]
theorem eV_ok : (∀ x, (eV x).length = 5) ∧ ∀ x, ∀ u ∈ eV x, u.oneCell' = true := ⟨fun x => by cases x; rfl, fun x u h => by
  cases x
  simp [eV] at h
  rcases h with rfl | rfl | rfl | rfl | rfl <;> rfl⟩
mutual
def RV.j : RV → J
  | .mk k i t _ _ ns _ _ xs => .mk k i t ns (RV.js xs)
def RV.js : List RV → List J
  | [] => []
  | x :: xs => RV.j x :: RV.js xs
end
theorem RV.js_eq : ∀ xs : List RV, RV.js xs = xs.map RV.j
  | [] => by simp [RV.js]
  | x :: xs => by simp [RV.js, RV.js_eq xs]
/-- A value that may be read: its lists, and those of its items. -/
inductive RdV (w : World) : RV → Prop where
  | mk {k i : Int} {t : List UInt8} {NA : Option Addr} {nc : Nat} {ns : List (List UInt8)} {IA : Option Addr} {ic : Nat} {xs : List RV} (hn : Rd eN w NA ns) (hx : Rd eV w IA xs) (hnc : ns.length ≤ nc) (hic : xs.length ≤ ic) (h : ∀ x ∈ xs, RdV w x) : RdV w (.mk k i t NA nc ns IA ic xs)
theorem RdV.of {W w : World} {L : List HProp} {v : RV} (h : RdV W v) (hs : Sat W w L) : RdV w v := by
  induction h with
  | mk hn hx hnc hic h ih => exact .mk (hn.of hs) (hx.of hs) hnc hic ih
end Go.Proofs.YtbmeafeojcgndaaDoor

/- Results that lie in boxes of several cells. -/
set_option linter.unusedVariables false
set_option linter.unusedSimpArgs false
namespace Go.Sl
open Go.RowKit
section
variable {P : Program} {fn : Func} {Post : Value → World → Prop} {n : Nat} {s : List (Nat × Value)} {τ : Nat → Value} {w W : World} {L : List HProp} {T : List (Nat × TI)}
theorem RETA (i : Nat) {t : Tmp} {ti : TI} {ta te : TypeId} {b : Nat} {vs : List Value} (hs : Sat W w L) (hT : TyOK P T) (h : fn.results = #[.cell t ta]) (hv : EVO n s (.tmp t) = some (.pointer (some ⟨b, 0, none⟩)))
    (h1 : lookT T ta = some ti) (ha : ti.agg = true) (hi : getA L i = some (Cl b vs te)) (hl : vs.length = ti.size) (k : Post (.agg vs.toArray) w) : bodyPost P fn (Ret Post) .ret (FR n s τ []) w := by
  rw [getA_eq] at hi
  have e1 := slot_of (τ := τ) hv
  have r1 := ty_isAgg (hT _ _ h1) w
  have r2 := ty_sizeOf (hT _ _ h1) w
  have h3 := run_loadCells_list (P := P) (w := w) ⟨b, 0, none⟩ vs (fun j v hj => by
    have e : (⟨b, 0, none⟩ : Addr).add j = ⟨b, 0 + j, none⟩ := by unfold Addr.add; split <;> simp_all
    rw [e, hs.cell i hi (0 + j), Nat.zero_add]; exact hj)
  rw [hl] at h3
  have h4 : Sem.run P (loadCellsFrom ⟨b, 0, none⟩ 0 ti.size #[]) w = Result.ok vs.toArray w := h3
  rw [ha] at r1
  refine ⟨rfl, .agg vs.toArray, ?_, k⟩
  simp [results, h, go_sem, e1, asAddr, r1, r2, h4, Result.andThen]
theorem RETA2 (i : Nat) {t u : Tmp} {ti : TI} {ta te : TypeId} {b : Nat} {vs : List Value} {v' : Value} (hs : Sat W w L) (hT : TyOK P T) (h : fn.results = #[.cell t ta, .tmp u]) (hv : EVO n s (.tmp t) = some (.pointer (some ⟨b, 0, none⟩))) (hv' : EVO n s (.tmp u) = some v')
    (h1 : lookT T ta = some ti) (ha : ti.agg = true) (hi : getA L i = some (Cl b vs te)) (hl : vs.length = ti.size) (k : Post (.tuple #[.agg vs.toArray, v']) w) : bodyPost P fn (Ret Post) .ret (FR n s τ []) w := by
  rw [getA_eq] at hi
  have e1 := slot_of (τ := τ) hv
  have e2 := slot_of (τ := τ) hv'
  have r1 := ty_isAgg (hT _ _ h1) w
  have r2 := ty_sizeOf (hT _ _ h1) w
  have h3 := run_loadCells_list (P := P) (w := w) ⟨b, 0, none⟩ vs (fun j v hj => by
    have e : (⟨b, 0, none⟩ : Addr).add j = ⟨b, 0 + j, none⟩ := by unfold Addr.add; split <;> simp_all
    rw [e, hs.cell i hi (0 + j), Nat.zero_add]; exact hj)
  rw [hl] at h3
  have h4 : Sem.run P (loadCellsFrom ⟨b, 0, none⟩ 0 ti.size #[]) w = Result.ok vs.toArray w := h3
  rw [ha] at r1
  refine ⟨rfl, .tuple #[.agg vs.toArray, v'], ?_, k⟩
  simp [results, h, go_sem, e1, e2, asAddr, r1, r2, h4, Result.andThen]
end
end Go.Sl

/- A list of blocks, of which some are forgotten. -/
set_option linter.unusedVariables false
set_option linter.unusedSimpArgs false
namespace Go.Sl
open Go.RowKit
section
variable {W w : World} {L : List HProp}
theorem Sat.app : ∀ {A B : List HProp}, Sat W w (A ++ B) → Sat W w B
  | [], _, h => h
  | _ :: A, _, h => Sat.app (A := A) (Sat.drop1 h)
theorem Sat.firsts (h : Sat W w L) (k : Nat) : Sat W w (L.take k) :=
  Sat.app (A := L.drop k) (h.perm (by have p := List.perm_append_comm (l₁ := L.take k) (l₂ := L.drop k); rw [List.take_append_drop] at p; exact p))
/-- The blocks at the places of a list, in its order; the others are forgotten. -/
theorem Sat.keeps (h : Sat W w L) (is : List Nat) : Sat W w ((Go.Sl.picks L is).take is.length) := (h.picks is).firsts _
end
end Go.Sl

/- Walks: the members of an object, put in order. -/
set_option linter.unusedVariables false
set_option linter.unusedSimpArgs false
namespace Go.Proofs.YtbmeafeojcgndaaDoor
open Go Go.Sl Go.RowKit
set_option maxRecDepth 100000
attribute [local irreducible] CW LW DW FR DP Calls Res Ret
theorem idxs_zip (ns : List (List UInt8)) (xs : List RV) (h : ns.length = xs.length) : (idxs ns.length).map (fun i => (nmA ns i, Go.Sl.rd xs i)) = ns.zip xs := by
  apply List.ext_getElem
  · simp [idxs, h]
  · intro i h1 h2
    simp only [List.length_map, idxs_len] at h1
    have e1 : nmA ns (i : Int) = ns[i] := by
      show ns.getD (i : Int).toNat default = _
      have : (i : Int).toNat = i := by omega
      rw [this]; simp [List.getD, h1]
    have e2 : Go.Sl.rd xs (i : Int) = xs[i]'(by omega) := by
      show xs.getD (i : Int).toNat default = _
      have : (i : Int).toNat = i := by omega
      rw [this]; simp [List.getD, show i < xs.length from by omega]
    simp [idxs, e1, e2]
/-- The order of the places gives the pairs put in order. -/
theorem order_pairs {ns : List (List UInt8)} {xs : List RV} {Z : List Int} (h : ns.length = xs.length) (hd : ns.Nodup) (hp : Z.Perm (idxs ns.length)) (hs : Srtd ns Z) : Z.map (fun i => (nmA ns i, Go.Sl.rd xs i)) = sortP (ns.zip xs) := by
  refine sort_unique ?_ ?_ ?_
  · have := hp.map (fun i => (nmA ns i, Go.Sl.rd xs i))
    rwa [idxs_zip ns xs h] at this
  · unfold Up
    rw [List.pairwise_map]
    exact hs
  · have : (ns.zip xs).map (·.1) = ns := List.map_fst_zip (by omega)
    rw [this]; exact hd
theorem oneV (k i : Int) (t : ByteArray) (a : Option Addr) (n c : Nat) (a' : Option Addr) (n' c' : Nat) : ∀ u ∈ [Value.int .i64 k, .int .i64 i, .string t, .slice a n c, .slice a' n' c'], u.oneCell' = true := fun u h => by
  simp only [List.mem_cons, List.not_mem_nil, or_false] at h
  rcases h with rfl | rfl | rfl | rfl | rfl <;> rfl
section
variable {W : World} {ns : List (List UInt8)} {NA IA : Option Addr} {nc ic : Nat} {xs : List RV}
set_option maxHeartbeats 2000000 in
theorem inOrder_call (rn : Rd eN W NA ns) (rx : Rd eV W IA xs) (hl : ns.length = xs.length) (hd : ns.Nodup) (hb : ns.length ≤ 1099511627776) :
    Calls Tryd.prog 58 [Value.agg #[.int .i64 5, .int .i64 0, sv [], .slice NA ns.length nc, .slice IA xs.length ic]].toArray W (Ret fun v w' => ∃ NA' nc' IA' ic', v = .agg #[.int .i64 5, .int .i64 0, sv [], .slice NA' ((sortP (ns.zip xs)).map (·.1)).length nc', .slice IA' ((sortP (ns.zip xs)).map (·.2)).length ic'] ∧
      Sat W w' [RowOf eN 9 1 NA' nc' ((sortP (ns.zip xs)).map (·.1)), RowOf eV 31 5 IA' ic' ((sortP (ns.zip xs)).map (·.2))]) := by
  refine Calls_of Tryd.func58 rfl 37 Tryd.ntmps58 rfl ?_
  have hs := Sat.start W
  (repeat' (first | (refine isLW ?_; first | refine LW_nil ?_ | (refine isLload ?_; first | refine LW_loadC 2 TOK hs rfl rfl rfl rfl rfl ?_) | (refine isLstore ?_; first | (refine LW_storeCA 0 TOK hs rfl rfl rfl rfl rfl (oneV _ _ _ _ _ _ _ _ _) rfl (Nat.le_of_ble_eq_true rfl) ?_; clear hs; intro w hs)) | (refine isLcall ?_; first | (refine LW_call (cap := []) rfl rfl ent51 (rising_call (W := _) (L := []) (rn.of hs) (by omega) _ (Sat.start _)) ?_; rintro _ w2 ⟨AZ, cZ, Z, rfl, pZ, sZ, hs2⟩; replace hs := hs.and1 hs2; clear hs2) | refine LW_pure TOK rfl ?_) | refine LW_pure TOK rfl ?_ | (refine LW_box hs rfl rfl ?_; clear hs; intro _ w hs) | (refine LW_alloc TOK hs rfl rfl ?_; clear hs; intro _ w hs) | refine LW_build TOK rfl rfl rfl rfl rfl rfl ?_) | (with_reducible first | refine then_n ?_ | refine CW_seq ?_ | refine CW_region ?_ | refine CW_block ?_)))
  rename_i b1 _ b2 _ b3 _
  have hZl : Z.length = ns.length := by rw [pZ.length_eq, idxs_len]
  have hZo : ∀ i : Int, 0 ≤ i → i < Z.length → 0 ≤ Go.Sl.rd Z i ∧ Go.Sl.rd Z i < ns.length := fun i k0 k1 => (idxs_ok.perm pZ) _ (List.mem_of_getElem? (rd_get k0 k1))
  rw [← order_pairs hl hd pZ sZ]
  simp only [List.map_map]
  refine CW_loop (γ := Nat × (Option Addr × Nat) × (Option Addr × Nat)) (fun g => [(1, .pointer (some ⟨b1, 0, none⟩)), (2, .pointer (some ⟨b2, 0, none⟩)), (3, .pointer (some ⟨b3, 0, none⟩)), (9, .slice AZ ns.length cZ), (10, .int .i64 (ns.length : Int)), (11, .int .i64 (g.1 : Int))]) (fun g w' => Sat W w' [RowOf eN 9 1 g.2.1.1 g.2.1.2 ((Z.take g.1).map (nmA ns)), RowOf eV 31 5 g.2.2.1 g.2.2.2 ((Z.take g.1).map (Go.Sl.rd xs)), RowOf eI 3 1 AZ cZ Z, Cl b3 [.int .i64 5, .int .i64 0, sv [], .slice g.2.1.1 ((Z.take g.1).map (nmA ns)).length g.2.1.2, .slice g.2.2.1 ((Z.take g.1).map (Go.Sl.rd xs)).length g.2.2.2] 31, Cl b2 [.int .i64 0, .int .i64 0, sv [], .slice none 0 0, .slice none 0 0] 31, Cl b1 [.int .i64 5, .int .i64 0, sv [], .slice NA ns.length nc, .slice IA xs.length ic] 31] ∧ g.1 ≤ ns.length) (fun g => ns.length - g.1) (0, (none, 0), (none, 0)) ⟨rfl, rfl, rfl, rfl, rfl, rfl, trivial⟩ ⟨?_, Nat.zero_le _⟩ ?_
  · dsimp only
    exact (hs.nilRow 31 5).nilRow 9 1
  clear hs
  rintro ⟨g, ⟨A1, c1⟩, ⟨A2, c2⟩⟩ τ w1 ⟨hs, h1⟩
  dsimp only at hs h1 ⊢
  have htl : (Z.take g).length = g := by rw [List.length_take]; omega
  obtain ⟨U, hU⟩ : ∃ U, (Z.take g).map (nmA ns) = U := ⟨_, rfl⟩
  obtain ⟨V, hV⟩ : ∃ V, (Z.take g).map (Go.Sl.rd xs) = V := ⟨_, rfl⟩
  have lU : U.length = g := by rw [← hU, List.length_map, htl]
  have lV : V.length = g := by rw [← hV, List.length_map, htl]
  rw [hU, hV] at hs
  by_cases hg : g < ns.length
  · obtain ⟨zi, hzi⟩ : ∃ zi, Go.Sl.rd Z (g : Int) = zi := ⟨_, rfl⟩
    have ho := hZo (g : Int) (by omega) (by omega)
    rw [hzi] at ho
    obtain ⟨zv, hzv⟩ : ∃ zv, Go.Sl.rd xs zi = zv := ⟨_, rfl⟩
    have e1 : (Z.take (g + 1)) = Z.take g ++ [zi] := by
      rw [List.take_add_one]
      have : Z[g]? = some zi := by
        have := rd_get (xs := Z) (i := (g : Int)) (by omega) (by omega)
        rw [hzi] at this; simpa using this
      rw [this]; rfl
    have eU : (Z.take (g + 1)).map (nmA ns) = U ++ [nmA ns zi] := by rw [e1, List.map_append, hU]; rfl
    have eV' : (Z.take (g + 1)).map (Go.Sl.rd xs) = V ++ [zv] := by rw [e1, List.map_append, hV, ← hzv]; rfl
    obtain ⟨nm, hnm⟩ : ∃ nm, Go.Sl.rd ns zi = nm := ⟨_, rfl⟩
    have hnm2 : nmA ns zi = nm := hnm
    rw [hnm2] at eU
    cases zv with
    | mk kk ii tt NA0 nc0 ns0 IA0 ic0 xs0 =>
    (repeat' (first | (refine isLW ?_; first | refine LW_nil ?_ | (refine isLload ?_; first | (refine LW_loadRd0 (hs.rd 2 rfl) (fun _ => rfl) TOK rfl (by assumption) rfl rfl (by omega) (by omega) (by rw [hzi]; rfl) ?_)) | (refine isLstore ?_; first | (refine LW_storeC 3 TOK hs rfl rfl rfl rfl rfl rfl rfl ?_; clear hs; intro w hs)) | (refine isLcall ?_; first | (refine LW_append1 0 (xs := U) (z := nm) eN_ok hs TOK rfl rfl rfl rfl rfl rfl rfl rfl rfl rfl (by unfold maxLen; omega) (by simp only []; omega) ?_; clear hs; intro A3 c3 w hs) | (refine LW_append1 1 (xs := V) (z := .mk kk ii tt NA0 nc0 ns0 IA0 ic0 xs0) eV_ok hs TOK rfl rfl rfl rfl rfl rfl rfl rfl rfl rfl (by unfold maxLen; omega) (by simp only []; omega) ?_; clear hs; intro A4 c4 w hs)) | (refine isLidx ?_; first | (refine LW_indexRdN (hs.rd 2 rfl) TOK rfl rfl rfl rfl rfl (by omega) (by omega) (by omega) ?_; intro _ _ _)) | (refine isLbin ?_; first | refine LW_i64 rfl (by omega) (by omega) ?_ | (refine LW_cmp rfl (fun _ => ?_) (fun _ => ?_) <;> try (exfalso; omega))) | refine LW_pure TOK rfl ?_ | (refine LW_buildSlice TOK hs rfl rfl rfl rfl rfl rfl rfl ?_; clear hs; intro _ w hs)) | (refine isDP ?_; first | (refine isDnil ?_; first | refine DP_end ?_ ?_) | (refine isDe rfl ?_; first | refine DP_eff rfl rfl ?_ ?_) | (refine isDload rfl ?_; first | (refine DP_loadRd0 rn (fun _ => rfl) hs TOK rfl rfl (by first | exact trivial | rfl) rfl (by assumption) rfl rfl (by omega) (by omega) (by rw [hnm]; rfl) ?_ ?_) | (refine DP_loadRdA rx eV_ok.1 hs TOK rfl rfl (by first | exact trivial | rfl) rfl (by assumption) rfl rfl rfl (by omega) (by omega) (by rw [hzv]) ?_ ?_) | refine DP_loadC 3 hs TOK rfl rfl (by first | exact trivial | rfl) rfl rfl rfl rfl rfl ?_ ?_ | refine DP_loadC 5 hs TOK rfl rfl (by first | exact trivial | rfl) rfl rfl rfl rfl rfl ?_ ?_) | (refine isDidx rfl ?_; first | (refine DP_indexRd (rn.of hs) TOK rfl rfl (by first | exact trivial | rfl) rfl rfl rfl rfl rfl (by omega) (by omega) ?_; intro _ _ _) | (refine DP_indexRd (rx.of hs) TOK rfl rfl (by first | exact trivial | rfl) rfl rfl rfl rfl rfl (by omega) (by omega) ?_; intro _ _ _)) | refine DP_pure TOK rfl rfl (by first | exact trivial | rfl) rfl ?_) | (refine isI0 ?_; exact Inv.nil) | (refine isI1 ?_; first | refine Inv.keepB hs ?_ | refine Inv.keepC 3 hs rfl rfl ?_ | refine Inv.keepC 4 hs rfl rfl ?_ | refine Inv.keepC 5 hs rfl rfl ?_ | refine Inv.gone (by kernel_rfl) ?_) | (with_reducible first | refine then_n ?_ | refine CW_seq ?_ | refine CW_region ?_ | refine CW_block ?_ | refine CW_skip ?_ | refine blk_n ?_) | refine CW_true rfl ?_ | (refine CW_drawP (id := 5) [7, 8, 10] [0, 1, 2, 3, 4, 5, 6, 7, 8, 9, 10] mixed (by kernel_rfl) hs ?_; clear hs; intro hs) | (refine CW_drawP (id := 6) [7, 8, 10] [0, 1, 2, 3, 4, 5, 6, 7, 8, 9, 10] mixed (by kernel_rfl) hs ?_; clear hs; intro hs)))
    all_goals exact ⟨((g + 1, (A3, c3), (A4, c4)) : Nat × (Option Addr × Nat) × (Option Addr × Nat)), _, FR_forget _ ⟨rfl, rfl, rfl, rfl, rfl, rfl, trivial⟩, ⟨by dsimp only; rw [eU, eV']; exact hs, by dsimp only; omega⟩, by dsimp only; omega⟩
  · have e : g = ns.length := by omega
    clear lU lV
    subst e
    have e1 : Z.take ns.length = Z := List.take_of_length_le (by omega)
    rw [e1] at hU hV
    (repeat' (first | (refine isLW ?_; first | refine LW_nil ?_ | (refine isLload ?_; first | refine LW_loadCAE 3 [.int .i64 5, .int .i64 0, sv [], .slice A1 U.length c1, .slice A2 V.length c2] TOK hs rfl rfl rfl rfl (Nat.le_of_ble_eq_true rfl) rfl ?_) | (refine isLstore ?_; first | (refine LW_storeCA 4 TOK hs rfl rfl rfl rfl rfl (oneV _ _ _ _ _ _ _ _ _) rfl (Nat.le_of_ble_eq_true rfl) ?_; clear hs; intro w hs)) | (refine isLbin ?_; first | (refine LW_cmp rfl (fun _ => ?_) (fun _ => ?_) <;> try (exfalso; omega)))) | (with_reducible first | refine then_n ?_ | refine CW_seq ?_ | refine CW_region ?_ | refine CW_exit ?_ | refine CW_ret ?_ | refine then_e ?_ | refine blk_same ?_) | refine RETA 4 hs TOK Tryd.results58 rfl rfl rfl rfl rfl ?_ | refine CW_false rfl ?_))
    have l3 : (List.map ((fun p : List UInt8 × RV => p.1) ∘ fun i => (nmA ns i, Go.Sl.rd xs i)) Z) = U := by rw [← hU]; rfl
    have l4 : (List.map ((fun p : List UInt8 × RV => p.2) ∘ fun i => (nmA ns i, Go.Sl.rd xs i)) Z) = V := by rw [← hV]; rfl
    rw [l3, l4]
    refine ⟨A1, c1, A2, c2, rfl, ?_⟩
    have := hs.firsts 2
    exact this
end
end Go.Proofs.YtbmeafeojcgndaaDoor
