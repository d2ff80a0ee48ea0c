/- Walks of the reader: an object. -/
import Derived.Test.YtbmeafeojcgndaaDoorV26
set_option linter.unusedVariables false
set_option linter.unusedSimpArgs false
namespace Go.Proofs.YtbmeafeojcgndaaDoor
open Go Go.Sl Go.RowKit
set_option maxRecDepth 100000
attribute [local irreducible] CW LW DW FR DP Calls Res Ret
/-- A map that knows the names that were seen. -/
def Seen (kvs : List (List UInt8 × Value × Nat)) (ns : List (List UInt8)) : Prop := kvs.map (·.1) = ns ∧ ∀ p ∈ kvs, ∃ v : Int, p.2.1 = .int .i64 v ∧ 0 < v
theorem Seen.no {kvs : List (List UInt8 × Value × Nat)} {ns : List (List UInt8)} {n : List UInt8} (h : Seen kvs ns) (hn : n ∉ ns) : ∀ p ∈ kvs, ¬ n = p.1 := fun p hp e => hn (by rw [e, ← h.1]; exact List.mem_map_of_mem hp)
theorem Seen.none {kvs : List (List UInt8 × Value × Nat)} {ns : List (List UInt8)} {n : List UInt8} {z : Value} (h : Seen kvs ns) (hn : n ∉ ns) : (findV kvs n).getD z = z := by
  rw [findV_none (h.no hn)]; rfl
theorem Seen.some {kvs : List (List UInt8 × Value × Nat)} {ns : List (List UInt8)} {n : List UInt8} {z : Value} (h : Seen kvs ns) (hn : n ∈ ns) : ∃ v : Int, (findV kvs n).getD z = .int .i64 v ∧ 0 < v := by
  rw [← h.1] at hn
  obtain ⟨p, hp, rfl⟩ := List.mem_map.1 hn
  unfold findV
  cases hf : kvs.find? fun q => decide (p.1 = q.1) with
  | none =>
    have := List.find?_eq_none.1 hf p hp
    simp at this
  | some q =>
    obtain ⟨v, hv, h0⟩ := h.2 q (List.mem_of_find?_eq_some hf)
    exact ⟨v, by simp [hv], h0⟩
theorem Seen.put {kvs : List (List UInt8 × Value × Nat)} {ns : List (List UInt8)} {n : List UInt8} {ck : Nat} {v : Int} (h : Seen kvs ns) (hn : n ∉ ns) (hv : 0 < v) : Seen (putV kvs ck n (.int .i64 v)) (ns ++ [n]) := by
  rw [putV_new (h.no hn)]
  refine ⟨by rw [List.map_append, h.1]; rfl, fun p hp => ?_⟩
  rcases List.mem_append.1 hp with hp | hp
  · exact h.2 p hp
  · rw [List.mem_singleton.1 hp]; exact ⟨v, rfl, hv⟩
theorem obj_j (ns : List (List UInt8)) (xs : List RV) (NA IA : Option Addr) (nc ic : Nat) : (RV.mk 5 0 [] NA nc ((sortP (ns.zip xs)).map (·.1)) IA ic ((sortP (ns.zip xs)).map (·.2))).j = objJ ns (RV.js xs) := by
  rw [RV.j, RV.js_eq, RV.js_eq]
  unfold objJ
  have h := sortP_map RV.j (ns.zip xs)
  have e : (ns.zip xs).map (fun q => (q.1, q.2.j)) = ns.zip (xs.map RV.j) := by
    rw [List.zip_map_right]; rfl
  rw [e] at h
  rw [← h, List.map_map, List.map_map, List.map_map]
  rfl
section
variable {w W : World} {L R0 T : List HProp} {p q r s u v : HProp}
theorem Sat.past5 (h : Sat W w (s :: (R0 ++ (p :: q :: r :: u :: v :: T)))) : Sat W w (s :: p :: q :: r :: u :: v :: (R0 ++ T)) := h.perm (by
  refine List.Perm.cons s ?_
  have := List.perm_append_comm (l₁ := R0) (l₂ := [p, q, r, u, v])
  have := this.append_right T
  simpa using this)
end
section
variable {W : World} {b : List UInt8} {B : Option Addr} {c br p d : Nat} {L : List HProp}
set_option maxHeartbeats 8000000 in
theorem object_call (hU : Lib.Utf8Tabs 1 2 W) (rb : Rd eB W B b) (hb : b.length ≤ 16777216) (hcb : b.length ≤ c) (k : Nat) (hk : d + k = 16) (hv : ValC W b B c br k) (w : World) (hs : Sat W w (Cl br (eR B b.length c p d) 57 :: L)) (hp : p < b.length) :
    Calls Tryd.prog 39 [Value.pointer (some ⟨br, 0, none⟩)].toArray w (Gives W L (objectM (valueM b k) b p d) fun q v w' => ∃ x : RV, v = .agg (eV x).toArray ∧ x.j = q.1 ∧ p < q.2 ∧ q.2 ≤ b.length ∧ Sat W w' (Cl br (eR B b.length c q.2 d) 57 :: (x.rows ++ L))) := by
  have hb2 : b.length ≤ 140737488355328 := by omega
  unfold Gives
  refine Calls_of Tryd.func39 rfl 90 Tryd.ntmps39 rfl ?_
  unfold objectM
  (repeat' (first | (refine isLW ?_; first | refine LW_nil ?_ | (refine isLstore ?_; first | (refine LW_storeCA 0 TOK hs rfl rfl rfl rfl rfl (oneV _ _ _ _ _ _ _ _ _) rfl (Nat.le_of_ble_eq_true rfl) ?_; clear hs; intro w hs)) | refine LW_pure TOK rfl ?_ | (refine LW_alloc TOK hs rfl rfl ?_; clear hs; intro _ w hs) | refine LW_build TOK rfl rfl rfl rfl rfl rfl ?_) | (with_reducible first | refine then_n ?_ | refine CW_seq ?_ | refine CW_region ?_)))
  rename_i b2 _ b3 _
  replace hs : Sat W w (Cl br (eR B b.length c p d) 57 :: Cl b3 [.int .i64 5, .int .i64 0, sv [], .slice none 0 0, .slice none 0 0] 31 :: Cl b2 [.int .i64 0, .int .i64 0, sv [], .slice none 0 0, .slice none 0 0] 31 :: L) := hs.picks [2]
  rcases he : enterM b p d with er | q0
  · (repeat' (first | (refine isLW ?_; first | (refine isLcall ?_; first | (refine LW_callX (cap := []) rfl rfl ent56 (enter_call _ hs rb hp (by omega) hb2) ?_ ?_; (rintro _ w2 ⟨x, hx, _⟩; rw [he] at hx; cases hx); rintro _ w2 ⟨er2, hx, rfl, hs2⟩; rw [he] at hx; cases hx))) | (with_reducible first | refine then_p ?_) | refine RXP ?_))
    exact ⟨_, rfl, rfl, hs2.drop1.drop1⟩
  obtain ⟨hq1, hq2, hd16⟩ := enter_ok he hp
  have hk0 : 0 < k := by omega
  dsimp only
  (repeat' (first | (refine isLW ?_; first | refine LW_nil ?_ | (refine isLcall ?_; first | (refine LW_callX (cap := []) rfl rfl ent56 (enter_call _ hs rb hp (by omega) hb2) ?_ ?_; rotate_left; (rintro _ w2 ⟨x, hx, _⟩; rw [he] at hx; cases hx); clear hs; rintro _ w2 ⟨er2, hx, rfl, hs⟩; rw [he] at hx; cases hx)) | refine LW_pure TOK rfl ?_) | (with_reducible first | refine then_n ?_ | refine CW_seq ?_ | refine CW_region ?_)))
  rcases hpk : peekM b q0 with er | x
  · (repeat' (first | (refine isLW ?_; first | (refine isLcall ?_; first | (refine LW_callX (cap := []) rfl rfl ent35 (peek_call _ hs rb hq2 hb2) ?_ ?_; (rintro _ w2 ⟨x, hx, _⟩; rw [hpk] at hx; cases hx); rintro _ w2 ⟨er2, hx, rfl, hs2⟩; rw [hpk] at hx; cases hx))) | (with_reducible first | refine then_p ?_) | refine RXP ?_))
    exact ⟨_, rfl, rfl, hs2.drop1.drop1⟩
  dsimp only
  obtain ⟨hx1, hx2⟩ := peek_some hpk
  by_cases h93 : x.toNat = 125
  · rw [if_pos h93]
    (repeat' (first | (refine isLW ?_; first | refine LW_nil ?_ | (refine isLload ?_; first | refine LW_loadCAE 1 [.int .i64 5, .int .i64 0, sv [], .slice none 0 0, .slice none 0 0] TOK hs rfl rfl rfl rfl (Nat.le_of_ble_eq_true rfl) rfl ?_ | refine LW_loadC 0 TOK hs rfl rfl rfl rfl rfl ?_) | (refine isLstore ?_; first | (refine LW_storeCA 2 TOK hs rfl rfl rfl rfl rfl (oneV _ _ _ _ _ _ _ _ _) rfl (Nat.le_of_ble_eq_true rfl) ?_; clear hs; intro w hs) | (refine LW_storeC 0 TOK hs rfl rfl rfl rfl rfl rfl rfl ?_; clear hs; intro w hs)) | (refine isLcall ?_; first | (refine LW_callX (cap := []) rfl rfl ent35 (peek_call _ hs rb hq2 hb2) ?_ ?_; rotate_left; (rintro _ w2 ⟨x, hx, _⟩; rw [hpk] at hx; cases hx); clear hs; rintro _ w2 ⟨er2, hx, rfl, hs⟩; rw [hpk] at hx; cases hx; unfold eR at hs)) | (refine isLbin ?_; first | refine LW_i64 rfl (by omega) (by omega) ?_ | (refine LW_cmp rfl (fun _ => ?_) (fun _ => ?_) <;> try (exfalso; omega))) | refine LW_pure TOK rfl ?_) | (with_reducible first | refine then_n ?_ | refine CW_seq ?_ | refine CW_region ?_ | refine CW_ret ?_ | refine then_r ?_) | refine RX_of (RETA 2 hs TOK Tryd.results39 rfl rfl rfl rfl rfl ?_) | refine CW_true rfl ?_))
    all_goals exact ⟨_, rfl, .mk 5 0 [] none 0 [] none 0 [], rfl, rfl, by dsimp only; omega, by dsimp only; omega, by
      have h2 := (((hs.picks [1, 1]).drop1.drop1.nilRow 31 5).nilRow 9 1).picks [2]
      unfold eR
      rw [RV.rows, RV.rowss]
      rw [show ((d + 1 : Nat) : Int) - 1 = (d : Int) from by omega] at h2
      exact h2⟩
  rw [if_neg h93]
  (repeat' (first | (refine isLW ?_; first | refine LW_nil ?_ | (refine isLcall ?_; first | (refine LW_callX (cap := []) rfl rfl ent35 (peek_call _ hs rb hq2 hb2) ?_ ?_; rotate_left; (rintro _ w2 ⟨x, hx, _⟩; rw [hpk] at hx; cases hx); clear hs; rintro _ w2 ⟨er2, hx, rfl, hs⟩; rw [hpk] at hx; cases hx)) | (refine isLbin ?_; first | (refine LW_cmp rfl (fun _ => ?_) (fun _ => ?_) <;> try (exfalso; omega))) | refine LW_pure TOK rfl ?_ | (refine LW_makeMap hs ?_; clear hs; intro _ w hs)) | (with_reducible first | refine then_n ?_ | refine CW_seq ?_ | refine CW_region ?_ | refine CW_block ?_ | refine CW_skip ?_) | refine CW_false rfl ?_))
  rename_i bm
  obtain ⟨m0, hm0⟩ : ∃ m0, membersM (valueM b k) b (b.length + 1) [] [] q0 = m0 := ⟨_, rfl⟩
  rw [hm0]
  refine CW_loop (γ := Nat × Nat × (List (List UInt8 × Value × Nat) × Nat) × (List (List UInt8) × Option Addr × Nat) × (List RV × Option Addr × Nat)) (fun g => [(0, .pointer (some ⟨br, 0, none⟩)), (2, .pointer (some ⟨b2, 0, none⟩)), (3, .pointer (some ⟨b3, 0, none⟩)), (4, .map (some bm))]) (fun g w' => Sat W w' (Cl br (eR B b.length c g.1 (d + 1)) 57 :: Mp keyN bm g.2.2.1.1 g.2.2.1.2 :: RowOf eN 9 1 g.2.2.2.1.2.1 g.2.2.2.1.2.2 g.2.2.2.1.1 :: RowOf eV 31 5 g.2.2.2.2.2.1 g.2.2.2.2.2.2 g.2.2.2.2.1 :: Cl b3 [.int .i64 5, .int .i64 0, sv [], .slice g.2.2.2.1.2.1 g.2.2.2.1.1.length g.2.2.2.1.2.2, .slice g.2.2.2.2.2.1 g.2.2.2.2.1.length g.2.2.2.2.2.2] 31 :: Cl b2 [.int .i64 0, .int .i64 0, sv [], .slice none 0 0, .slice none 0 0] 31 :: (RV.rowss g.2.2.2.2.1 ++ L)) ∧ p < g.1 ∧ g.1 ≤ b.length ∧ b.length < g.1 + g.2.1 ∧ g.2.2.2.1.1.length = g.2.2.2.2.1.length ∧ g.2.2.2.2.1.length ≤ g.1 ∧ Seen g.2.2.1.1 g.2.2.2.1.1 ∧ g.2.2.2.1.1.Nodup ∧ membersM (valueM b k) b g.2.1 g.2.2.2.1.1 (RV.js g.2.2.2.2.1) g.1 = m0) (fun g => b.length - g.1) (q0, b.length + 1, ([], 0), ([], none, 0), ([], none, 0)) ⟨rfl, rfl, rfl, rfl, trivial⟩ ⟨((hs.nilRow 31 5).nilRow 9 1).picks [3, 2], hq1, hq2, by dsimp only; omega, rfl, by simp, ⟨rfl, by simp⟩, List.nodup_nil, hm0⟩ ?_
  clear hs hm0 hpk hx1 hx2 h93 he hq1 hq2
  rintro ⟨g, f, ⟨kvs, ck⟩, ⟨ns, A1, c1⟩, ⟨xs, A2, c2⟩⟩ τ w1 ⟨hs, h0, h1, h2, h3, h3', hseen, hnd, h4⟩
  dsimp only at hs h0 h1 h2 h3 h3' hseen hnd h4 ⊢
  obtain ⟨f, rfl⟩ : ∃ f', f = f' + 1 := ⟨f - 1, by omega⟩
  rw [membersM_succ] at h4
  (repeat' (first | (refine isLW ?_; first | refine LW_nil ?_ | (refine isLload ?_; first | refine LW_loadC 0 TOK hs rfl rfl rfl rfl rfl ?_) | refine LW_pure TOK rfl ?_) | (with_reducible first | refine then_n ?_ | refine CW_seq ?_ | refine CW_region ?_ | refine CW_block ?_)))
  rcases hpk : peekM b g with er | x
  · rw [hpk] at h4
    (repeat' (first | (refine isLW ?_; first | (refine isLcall ?_; first | (refine LW_callX (cap := []) rfl rfl ent35 (peek_call _ hs rb h1 hb2) ?_ ?_; (rintro _ w2 ⟨x, hx, _⟩; rw [hpk] at hx; cases hx); rintro _ w2 ⟨er2, hx, rfl, hs2⟩; rw [hpk] at hx; cases hx))) | (with_reducible first | refine then_p ?_ | refine blk_p ?_) | refine RXP ?_))
    rw [← h4]
    exact ⟨_, rfl, rfl, Sat.app hs2.drop1.drop1.drop1.drop1.drop1⟩
  obtain ⟨hx1, hx2⟩ := peek_some hpk
  rw [hpk] at h4
  dsimp only at h4
  by_cases h34 : ¬ x.toNat = 34
  · rw [if_pos h34] at h4
    (repeat' (first | (refine isLW ?_; first | refine LW_nil ?_ | (refine isLcall ?_; first | (refine LW_callX (cap := []) rfl rfl ent35 (peek_call _ hs rb h1 hb2) ?_ ?_; rotate_left; (rintro _ w2 ⟨x, hx, _⟩; rw [hpk] at hx; cases hx); clear hs; rintro _ w2 ⟨er2, hx, rfl, hs⟩; rw [hpk] at hx; cases hx) | (refine LW_callX (cap := []) rfl rfl ent27 (fail_call _ _ _ g) (fun _ _ h => h.elim) ?_; rintro _ w2 ⟨rfl, rfl⟩)) | (refine isLbin ?_; first | (refine LW_cmp rfl (fun _ => ?_) (fun _ => ?_) <;> try (exfalso; omega))) | refine LW_pure TOK rfl ?_) | (with_reducible first | refine then_n ?_ | refine CW_region ?_ | refine then_p ?_ | refine blk_p ?_) | refine CW_true rfl ?_ | refine RXP ?_))
    all_goals
      rw [← h4]
      exact ⟨_, rfl, rfl, Sat.app hs.drop1.drop1.drop1.drop1.drop1.drop1⟩
  rw [if_neg h34] at h4
  (repeat' (first | (refine isLW ?_; first | refine LW_nil ?_ | (refine isLcall ?_; first | (refine LW_callX (cap := []) rfl rfl ent35 (peek_call _ hs rb h1 hb2) ?_ ?_; rotate_left; (rintro _ w2 ⟨x, hx, _⟩; rw [hpk] at hx; cases hx); clear hs; rintro _ w2 ⟨er2, hx, rfl, hs⟩; rw [hpk] at hx; cases hx)) | (refine isLbin ?_; first | (refine LW_cmp rfl (fun _ => ?_) (fun _ => ?_) <;> try (exfalso; omega))) | refine LW_pure TOK rfl ?_) | (with_reducible first | refine then_n ?_ | refine CW_seq ?_ | refine CW_region ?_ | refine CW_skip ?_) | refine CW_false rfl ?_))
  rcases htx : textM b g with er | ⟨nm, t2⟩
  · rw [htx] at h4
    (repeat' (first | (refine isLW ?_; first | (refine isLcall ?_; first | (refine LW_callX (cap := []) rfl rfl ent37 (text_call _ hU hs rb hx2 hcb (by omega)) ?_ ?_; (rintro _ w2 ⟨x, hx, _⟩; rw [htx] at hx; cases hx); rintro _ w2 ⟨er2, hx, rfl, hs2⟩; rw [htx] at hx; cases hx))) | (with_reducible first | refine then_p ?_ | refine blk_p ?_) | refine RXP ?_))
    rw [← h4]
    exact ⟨_, rfl, rfl, Sat.app hs2.drop1.drop1.drop1.drop1.drop1⟩
  rw [htx] at h4
  dsimp only at h4
  (repeat' (first | (refine isLW ?_; first | refine LW_nil ?_ | (refine isLcall ?_; first | (refine LW_callX (cap := []) rfl rfl ent37 (text_call _ hU hs rb hx2 hcb (by omega)) ?_ ?_; rotate_left; (rintro _ w2 ⟨x, hx, _⟩; rw [htx] at hx; cases hx); clear hs; rintro _ w2 ⟨er2, hx, rfl, ht1, ht2, ht3, hs⟩; rw [htx] at hx; cases hx)) | refine LW_pure TOK rfl ?_) | (with_reducible first | refine then_n ?_ | refine CW_seq ?_ | refine CW_region ?_)))
  dsimp only at ht1 ht2 ht3 hs ⊢
  by_cases hin : nm ∈ ns
  · rw [if_pos hin] at h4
    obtain ⟨sv0, hsv, hs0⟩ := hseen.some (z := .int .i64 0) hin
    (repeat' (first | (refine isLW ?_; first | refine LW_nil ?_ | (refine isLcall ?_; first | (refine LW_callX (cap := []) rfl rfl ent27 (fail_call _ _ _ g) (fun _ _ h => h.elim) ?_; rintro _ w2 ⟨rfl, rfl⟩)) | (refine isLbin ?_; first | (refine LW_cmp rfl (fun _ => ?_) (fun _ => ?_) <;> try (exfalso; omega))) | refine LW_lookup keyN 1 (k := nm) hs TOK rfl rfl rfl rfl rfl rfl rfl rfl hsv ?_ | refine LW_pure TOK rfl ?_) | (with_reducible first | refine then_n ?_ | refine CW_region ?_ | refine then_p ?_ | refine blk_p ?_) | refine CW_true rfl ?_ | refine RXP ?_))
    rw [← h4]
    exact ⟨_, rfl, rfl, Sat.app hs.drop1.drop1.drop1.drop1.drop1.drop1⟩
  rw [if_neg hin] at h4
  have hno := hseen.none (z := .int .i64 0) hin
  have hseen2 := hseen.put (ck := ck) (v := (g : Int) + 1) hin (by omega)
  obtain ⟨kvs1, hkvs1⟩ : ∃ kvs1, putV kvs ck nm (.int .i64 ((g : Int) + 1)) = kvs1 := ⟨_, rfl⟩
  obtain ⟨ck1, hck1⟩ : ∃ ck1, putCk kvs ck nm = ck1 := ⟨_, rfl⟩
  rw [hkvs1] at hseen2
  obtain ⟨bp, hbp⟩ : ∃ bp, blanksM b t2 = bp := ⟨_, rfl⟩
  have hbl := blanks_le ht2
  rw [hbp] at h4 hbl
  (repeat' (first | (refine isLW ?_; first | refine LW_nil ?_ | (refine isLcall ?_; first | (refine LW_call (cap := []) rfl rfl ent25 (blanks_call _ hs rb ht2 hb2) ?_; clear hs; rintro _ w2 hs; rw [hbp] at hs)) | (refine isLbin ?_; first | refine LW_i64 rfl (by omega) (by omega) ?_ | (refine LW_cmp rfl (fun _ => ?_) (fun _ => ?_) <;> try (exfalso; omega))) | refine LW_lookup keyN 1 (k := nm) hs TOK rfl rfl rfl rfl rfl rfl rfl rfl hno ?_ | (refine LW_mapUpdate keyN 1 (k := nm) hs TOK rfl rfl rfl rfl rfl rfl rfl rfl ?_; clear hs; intro w hs; rw [hkvs1, hck1] at hs) | refine LW_pure TOK rfl ?_) | (with_reducible first | refine then_n ?_ | refine CW_seq ?_ | refine CW_region ?_ | refine CW_skip ?_) | refine CW_false rfl ?_))
  rcases hpk2 : peekM b bp with er | y
  · rw [hpk2] at h4
    (repeat' (first | (refine isLW ?_; first | (refine isLcall ?_; first | (refine LW_callX (cap := []) rfl rfl ent35 (peek_call _ hs rb hbl.2 hb2) ?_ ?_; (rintro _ w2 ⟨x, hx, _⟩; rw [hpk2] at hx; cases hx); rintro _ w2 ⟨er2, hx, rfl, hs2⟩; rw [hpk2] at hx; cases hx))) | (with_reducible first | refine then_p ?_ | refine blk_p ?_) | refine RXP ?_))
    rw [← h4]
    exact ⟨_, rfl, rfl, Sat.app hs2.drop1.drop1.drop1.drop1.drop1⟩
  obtain ⟨hy1, hy2⟩ := peek_some hpk2
  rw [hpk2] at h4
  dsimp only at h4
  by_cases h58 : ¬ y.toNat = 58
  · rw [if_pos h58] at h4
    (repeat' (first | (refine isLW ?_; first | refine LW_nil ?_ | (refine isLload ?_; first | refine LW_loadC 0 TOK hs rfl rfl rfl rfl rfl ?_) | (refine isLcall ?_; first | (refine LW_callX (cap := []) rfl rfl ent35 (peek_call _ hs rb hbl.2 hb2) ?_ ?_; rotate_left; (rintro _ w2 ⟨x, hx, _⟩; rw [hpk2] at hx; cases hx); clear hs; rintro _ w2 ⟨er2, hx, rfl, hs⟩; rw [hpk2] at hx; cases hx) | (refine LW_callX (cap := []) rfl rfl ent27 (fail_call _ _ _ bp) (fun _ _ h => h.elim) ?_; rintro _ w2 ⟨rfl, rfl⟩)) | (refine isLbin ?_; first | (refine LW_cmp rfl (fun _ => ?_) (fun _ => ?_) <;> try (exfalso; omega))) | refine LW_pure TOK rfl ?_) | (with_reducible first | refine then_n ?_ | refine CW_region ?_ | refine then_p ?_ | refine blk_p ?_) | refine CW_true rfl ?_ | refine RXP ?_))
    all_goals
      rw [← h4]
      exact ⟨_, rfl, rfl, Sat.app hs.drop1.drop1.drop1.drop1.drop1.drop1⟩
  rw [if_neg h58] at h4
  obtain ⟨vp, hvp⟩ : ∃ vp, blanksM b (bp + 1) = vp := ⟨_, rfl⟩
  have hvl := blanks_le (b := b) (p := bp + 1) (by omega)
  rw [hvp] at h4 hvl
  (repeat' (first | (refine isLW ?_; first | refine LW_nil ?_ | (refine isLload ?_; first | refine LW_loadC 0 TOK hs rfl rfl rfl rfl rfl ?_ | refine LW_loadC 4 TOK hs rfl rfl rfl rfl rfl ?_) | (refine isLstore ?_; first | (refine LW_storeC 0 TOK hs rfl rfl rfl rfl rfl rfl rfl ?_; clear hs; intro w hs) | (refine LW_storeC 4 TOK hs rfl rfl rfl rfl rfl rfl rfl ?_; clear hs; intro w hs)) | (refine isLcall ?_; first | (refine LW_callX (cap := []) rfl rfl ent35 (peek_call _ hs rb hbl.2 hb2) ?_ ?_; rotate_left; (rintro _ w2 ⟨x, hx, _⟩; rw [hpk2] at hx; cases hx); clear hs; rintro _ w2 ⟨er2, hx, rfl, hs⟩; rw [hpk2] at hx; cases hx) | (refine LW_call (cap := []) rfl rfl ent25 (blanks_call (p := bp + 1) (d := d + 1) (c := c) _ hs rb (by omega) hb2) ?_; clear hs; rintro _ w2 hs; rw [hvp] at hs) | (refine LW_append1 2 (xs := ns) (z := nm) eN_ok hs TOK rfl rfl rfl rfl rfl rfl rfl rfl rfl rfl (by unfold maxLen; omega) (by simp only []; omega) ?_; clear hs; intro A3 c3 w hs)) | (refine isLbin ?_; first | refine LW_i64 rfl (by omega) (by omega) ?_ | (refine LW_cmp rfl (fun _ => ?_) (fun _ => ?_) <;> try (exfalso; omega))) | refine LW_pure TOK rfl ?_ | (refine LW_buildSlice TOK hs rfl rfl rfl rfl rfl rfl rfl ?_; clear hs; intro _ w hs)) | (with_reducible first | refine then_n ?_ | refine CW_seq ?_ | refine CW_region ?_ | refine CW_skip ?_) | refine CW_false rfl ?_))
  obtain ⟨ns1, hns1⟩ : ∃ ns1, ns ++ [nm] = ns1 := ⟨_, rfl⟩
  have hnl : ns1.length = ns.length + 1 := by rw [← hns1]; simp
  have hnd1 : ns1.Nodup := by
    rw [← hns1]
    refine List.nodup_append.2 ⟨hnd, by simp, fun a ha b' hb' e => ?_⟩
    rw [List.mem_singleton.1 hb'] at e
    exact hin (e ▸ ha)
  rw [hns1] at hs h4 hseen2
  replace hs : Sat W w (Cl br (eR B b.length c vp (d + 1)) 57 :: Mp keyN bm kvs1 ck1 :: RowOf eN 9 1 A3 c3 ns1 :: RowOf eV 31 5 A2 c2 xs :: Cl b3 [.int .i64 5, .int .i64 0, sv [], .slice A3 ns1.length c3, .slice A2 xs.length c2] 31 :: Cl b2 [.int .i64 0, .int .i64 0, sv [], .slice none 0 0, .slice none 0 0] 31 :: (RV.rowss xs ++ L)) := hs
  clear hkvs1 hck1 hseen hno hin hpk hpk2 htx
  refine CW_drawPX (X := fun cc ds w => ds = [] ∧ ∃ er, cc = [{ v := stopV er, recovered := false }] ∧ m0 = .error er ∧ Sat W w L) (id := 21) [3, 4, 5, 7] [0, 1, 2, 3, 4, 5, 6, 7] mixed (by kernel_rfl) ?_ hs ?_
  · rintro cc a w ⟨hd, er, rfl, hm, hs⟩
    repeat (first | refine then_p ?_ | refine blk_p ?_)
    exact RXPa hd ⟨er, by rw [hm], rfl, hs⟩
  clear hs
  intro hs
  refine DPX_pure TOK rfl rfl trivial rfl ?_
  refine DPX_loadC 4 hs TOK rfl rfl trivial rfl rfl rfl rfl rfl Inv.nil ?_
  refine DPX_pure TOK rfl rfl trivial rfl ?_
  refine DPX_eff rfl rfl (Inv.keepC 4 hs rfl rfl Inv.nil) ?_
  rcases hvv : valueM b k vp with er | ⟨j, p2⟩
  · rw [hvv] at h4
    refine LW_callX (cap := []) rfl rfl ent26 (hv _ _ _ _ hk0 (by omega) hs hvl.2) ?_ ?_
    · rintro _ w2 ⟨x, hx, _⟩; rw [hvv] at hx; cases hx
    · rintro _ w2 ⟨er2, hx, rfl, hs2⟩; rw [hvv] at hx; cases hx
      exact QX_p ⟨rfl, _, rfl, h4.symm, Sat.app hs2.drop1.drop1.drop1.drop1.drop1⟩
  rw [hvv] at h4
  dsimp only at h4
  refine LW_callX (cap := []) rfl rfl ent26 (hv _ _ _ _ hk0 (by omega) hs hvl.2) ?_ ?_
  rotate_left
  · rintro _ w2 ⟨x, hx, _⟩; rw [hvv] at hx; cases hx
  clear hs
  rintro _ w2 ⟨q, hx, x, rfl, hj, hp1, hp2, hs⟩
  rw [hvv] at hx
  cases hx
  dsimp only at hj hp1 hp2 hs
  replace hs := Sat.past5 hs
  have hsn := rowss_snoc xs x
  have hjn := js_snoc xs x
  obtain ⟨R0, hR0⟩ : ∃ R0, x.rows = R0 := ⟨_, rfl⟩
  rw [hR0] at hs hsn
  rw [hj] at hjn
  obtain ⟨xs1, hxs1⟩ : ∃ xs1, xs ++ [x] = xs1 := ⟨_, rfl⟩
  rw [hxs1] at hsn hjn
  cases x with
  | mk kk ii tt NA0 nc0 ns0 IA0 ic0 xs0 =>
  refine LW_nil (QX_n ?_)
  refine DPX_eff rfl rfl (Inv.keepC 4 hs rfl rfl Inv.nil) ?_
  refine LW_buildSlice TOK hs rfl rfl rfl rfl rfl rfl rfl ?_
  clear hs; intro bx w hs
  refine LW_nil (QX_n ?_)
  refine DPX_eff rfl rfl (Inv.keepC 5 hs rfl rfl Inv.nil) ?_
  refine LW_append1 3 (xs := xs) (z := .mk kk ii tt NA0 nc0 ns0 IA0 ic0 xs0) eV_ok hs TOK rfl rfl rfl rfl rfl rfl rfl rfl rfl rfl (by unfold maxLen; omega) (by simp only []; omega) ?_
  clear hs; intro A4 c4 w hs
  rw [hxs1] at hs ⊢
  refine LW_nil (QX_n ?_)
  refine DPX_pure TOK rfl rfl trivial rfl ?_
  refine DPX_eff rfl rfl (Inv.gone (by kernel_rfl) Inv.nil) ?_
  refine LW_storeC 4 TOK hs rfl rfl rfl rfl rfl rfl rfl ?_
  clear hs; intro w hs
  refine LW_nil (QX_n ?_)
  refine DPX_end (Inv.gone (by kernel_rfl) Inv.nil) ?_
  have hxl : xs1.length = xs.length + 1 := by rw [← hxs1]; simp
  replace hs : Sat W w (Cl br (eR B b.length c p2 (d + 1)) 57 :: Mp keyN bm kvs1 ck1 :: RowOf eN 9 1 A3 c3 ns1 :: RowOf eV 31 5 A4 c4 xs1 :: Cl b3 [.int .i64 5, .int .i64 0, sv [], .slice A3 ns1.length c3, .slice A4 xs1.length c4] 31 :: Cl b2 [.int .i64 0, .int .i64 0, sv [], .slice none 0 0, .slice none 0 0] 31 :: (R0 ++ (RV.rowss xs ++ L))) := hs
  have hs2 : Sat W w (Cl br (eR B b.length c p2 (d + 1)) 57 :: Mp keyN bm kvs1 ck1 :: RowOf eN 9 1 A3 c3 ns1 :: RowOf eV 31 5 A4 c4 xs1 :: Cl b3 [.int .i64 5, .int .i64 0, sv [], .slice A3 ns1.length c3, .slice A4 xs1.length c4] 31 :: Cl b2 [.int .i64 0, .int .i64 0, sv [], .slice none 0 0, .slice none 0 0] 31 :: (RV.rowss xs1 ++ L)) := hs.perm (by
    refine .cons _ (.cons _ (.cons _ (.cons _ (.cons _ (.cons _ ?_)))))
    rw [hsn, ← List.append_assoc]
    exact List.Perm.append_right L List.perm_append_comm)
  clear hs
  have hs := hs2
  clear hs2 hsn hxs1 hR0 hns1
  rcases hmo : moreM b 125 p2 with er | ⟨go, p3⟩
  · rw [hmo] at h4
    (repeat' (first | (refine isLW ?_; first | (refine isLcall ?_; first | (refine LW_callX (cap := []) rfl rfl ent57 (more_call _ 125 hs rb hp2 (by decide) (by omega) (by omega) hb2) ?_ ?_; (rintro _ w2 ⟨x, hx, _⟩; rw [hmo] at hx; cases hx); rintro _ w2 ⟨er2, hx, rfl, hs2⟩; rw [hmo] at hx; cases hx)) | refine LW_pure TOK rfl ?_) | (with_reducible first | refine then_n ?_ | refine CW_seq ?_ | refine CW_region ?_ | refine then_p ?_ | refine blk_p ?_) | refine RXP ?_))
    rw [← h4]
    exact ⟨_, rfl, rfl, Sat.app hs2.drop1.drop1.drop1.drop1.drop1⟩
  rw [hmo] at h4
  dsimp only at h4
  obtain ⟨hm1, hm2⟩ := more_ok hmo hp2
  dsimp only at hm1 hm2
  cases go
  · rw [if_neg (by simp)] at h4
    (repeat' (first | (refine isLW ?_; first | refine LW_nil ?_ | (refine isLload ?_; first | refine LW_loadCAE 4 [.int .i64 5, .int .i64 0, sv [], .slice A3 ns1.length c3, .slice A4 xs1.length c4] TOK hs rfl rfl rfl rfl (Nat.le_of_ble_eq_true rfl) rfl ?_) | (refine isLstore ?_; first | (refine LW_storeCA 7 TOK hs rfl rfl rfl rfl rfl (oneV _ _ _ _ _ _ _ _ _) rfl (Nat.le_of_ble_eq_true rfl) ?_; clear hs; intro w hs)) | (refine isLcall ?_; first | (refine LW_callX (cap := []) rfl rfl ent57 (more_call _ 125 hs rb hp2 (by decide) (by omega) (by omega) hb2) ?_ ?_; rotate_left; (rintro _ w2 ⟨x, hx, _⟩; rw [hmo] at hx; cases hx); clear hs; rintro _ w2 ⟨er2, hx, rfl, hs⟩; rw [hmo] at hx; cases hx) | (refine LW_call (cap := []) rfl rfl ent58 (inOrder_call (ic := c4) (nc := c3) (hs.rd 2 rfl) (hs.rd 3 rfl) (by omega) hnd1 (by omega)) ?_; rintro _ w2 ⟨NA', nc', IA', ic', rfl, hs2⟩; replace hs := hs.and2 hs2; clear hs2)) | refine LW_pure TOK rfl ?_) | (with_reducible first | refine then_n ?_ | refine CW_seq ?_ | refine CW_region ?_ | refine CW_ret ?_ | refine then_r ?_ | refine blk_r ?_) | refine RX_of (RETA 7 hs TOK Tryd.results39 rfl rfl rfl rfl rfl ?_) | refine CW_true rfl ?_))
    all_goals
      rw [← h4]
      refine ⟨_, rfl, .mk 5 0 [] NA' nc' ((sortP (ns1.zip xs1)).map (·.1)) IA' ic' ((sortP (ns1.zip xs1)).map (·.2)), rfl, ?_, by dsimp only; omega, by dsimp only; omega, ?_⟩
      · rw [obj_j, hjn]
      · have h2 := ((hs.picks [3, 3, 3, 3, 3]).drop1.drop1.drop1.drop1.drop1).picks [2]
        rw [RV.rows]
        refine Sat.perm h2 (.cons _ (.cons _ (.cons _ (List.Perm.append_right L (rowss_perm ?_)))))
        have h5 := ((sortP_perm (ns1.zip xs1)).map (·.2)).symm
        have e6 : (ns1.zip xs1).map (·.2) = xs1 := List.map_snd_zip (by omega)
        rwa [e6] at h5
  · rw [if_pos rfl] at h4
    (repeat' (first | (refine isLW ?_; first | refine LW_nil ?_ | (refine isLcall ?_; first | (refine LW_callX (cap := []) rfl rfl ent57 (more_call _ 125 hs rb hp2 (by decide) (by omega) (by omega) hb2) ?_ ?_; rotate_left; (rintro _ w2 ⟨x, hx, _⟩; rw [hmo] at hx; cases hx); clear hs; rintro _ w2 ⟨er2, hx, rfl, hs⟩; rw [hmo] at hx; cases hx)) | refine LW_pure TOK rfl ?_) | (with_reducible first | refine then_n ?_ | refine CW_seq ?_ | refine CW_region ?_ | refine CW_skip ?_ | refine blk_n ?_) | refine CW_false rfl ?_))
    all_goals exact ⟨((p3, f, (kvs1, ck1), (ns1, A3, c3), (xs1, A4, c4)) : Nat × Nat × (List (List UInt8 × Value × Nat) × Nat) × (List (List UInt8) × Option Addr × Nat) × (List RV × Option Addr × Nat)), _, FR_forget _ ⟨rfl, rfl, rfl, rfl, trivial⟩, ⟨hs, by dsimp only; omega, hm2, by dsimp only; omega, by dsimp only; omega, by dsimp only; omega, hseen2, hnd1, by dsimp only; rw [hjn]; exact h4⟩, by dsimp only; omega⟩
end
end Go.Proofs.YtbmeafeojcgndaaDoor
