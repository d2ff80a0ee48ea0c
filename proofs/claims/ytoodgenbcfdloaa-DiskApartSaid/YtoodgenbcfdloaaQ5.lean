/- The document's disk; walks: begin, Load. -/
import Derived.Test.YtoodgenbcfdloaaQ4
import Derived.Test.YtoodgenbcfdloaaP8
set_option linter.unusedVariables false
set_option linter.unusedSimpArgs false
namespace Go.Proofs.Ytoodgenbcfdloaa
open Go Go.Sl Go.RowKit
set_option maxRecDepth 100000
attribute [local irreducible] CW LW DW FR DP Calls

def beginN : Nat → Names → List File → Names
  | _, now, [] => now
  | k, now, f :: l => beginN (k + 1) (wi now f.1 k) l
theorem beginN_snoc : ∀ (l : List File) (k : Nat) (now : Names) (f : File), beginN k now (l ++ [f]) = wi (beginN k now l) f.1 (k + l.length)
  | [], k, now, f => rfl
  | x :: l, k, now, f => by
    show beginN (k + 1) (wi now x.1 k) (l ++ [f]) = _
    rw [beginN_snoc l]
    show wi (beginN (k + 1) (wi now x.1 k) l) f.1 _ = wi (beginN (k + 1) (wi now x.1 k) l) f.1 _
    rw [show k + 1 + l.length = k + (x :: l).length by simp; omega]
theorem beginN_len : ∀ (l : List File) (k : Nat) (now : Names), (beginN k now l).length ≤ now.length + l.length
  | [], _, _ => Nat.le_refl _
  | f :: l, k, now => by
    have h1 := beginN_len l (k + 1) (wi now f.1 k)
    have h2 := (wi_perm now f.1 k).length_eq
    have h3 : (wo now f.1).length ≤ now.length := List.length_filter_le _ _
    rw [List.length_cons] at h2
    show (beginN (k + 1) (wi now f.1 k) l).length ≤ _
    rw [List.length_cons]; omega
theorem beginN_lt : ∀ (l : List File) (k : Nat) (now : Names), (∀ p ∈ now, p.2 < k) → ∀ p ∈ beginN k now l, p.2 < k + l.length
  | [], _, _, h => h
  | f :: l, k, now, h => by
    intro p hp
    have := beginN_lt l (k + 1) (wi now f.1 k) (fun q hq => by
      rcases mem_wi.1 hq with rfl | ⟨hq, _⟩
      · simp
      · have := h q hq; omega) p hp
    rw [List.length_cons]; omega
abbrev RTh.P (t : RTh) : HProp := RowOf eB 5 1 t.A t.c t.d
def beginS (TA : Option Addr) (tc : Nat) (th : List RTh) (NA : Option Addr) (nc : Nat) (na : Names) : RSt := ⟨TA, tc, th, NA, nc, na, NA, nc, na, none, 0, []⟩
theorem snocT {W w : World} {L : List HProp} {th : List RTh} {t : RTh} (hs : Sat W w (RTh.P t :: Big (th.map RTh.P) :: L)) : Sat W w (Big ((th ++ [t]).map RTh.P) :: L) := by
  rw [List.map_append]
  have h1 : Sat W w (RTh.P t :: ([] ++ Big (th.map RTh.P ++ []) :: L)) := by rw [List.append_nil]; exact hs
  exact Sat.closeBig h1
set_option maxHeartbeats 4000000 in
theorem begin_call (W : World) (F : List File) (A : Option Addr) (c : Nat) (ra : RdF W A F) (hl : F.length ≤ 1099511627776) (hd : ∀ f ∈ F, f.2.length ≤ 140737488355328) :
    Calls Try.prog 62 [Value.slice A F.length c].toArray W (Ret fun v w' => ∃ TA tc th NA nc, v = .agg (eS (beginS TA tc th NA nc (beginN 0 [] F))).toArray ∧ True ∧ th.map (·.d) = F.map (·.2) ∧ (∀ t ∈ th, t.syn = t.d.length ∧ t.there = true) ∧
      Sat W w' [RowOf eT 111 3 TA tc th, RowOf eE 113 2 NA nc (beginN 0 [] F), Big (th.map RTh.P)]) := by
  obtain ⟨us, hu, ra, rd2⟩ := ra
  have hul := len_of_map hu
  rw [← hul]
  rw [← hul] at hl
  refine Calls_of Try.func62 rfl 46 Try.ntmps62 rfl ?_
  have hs := ((Sat.mkBig (l := []) (Sat.start W)).nilRow 113 2).nilRow 111 3
  (repeat' (first | (refine LW_alloc TOK hs rfl rfl ?_; clear hs; intro b3 w hs) | (refine isLW ?_; first | refine LW_nil ?_ | refine LW_pure TOK rfl ?_) | (with_reducible first | refine then_n ?_ | refine CW_seq ?_ | refine CW_region ?_ | refine CW_block ?_)))
  rename_i b2 _
  have hnN : ∀ g, (beginN 0 [] (F.take g)).length ≤ g := fun g => by
    have := beginN_len (F.take g) 0 []
    rw [List.length_take] at this
    simp at this; omega
  refine CW_loop (γ := Nat × Option Addr × Nat × List RTh × Option Addr × Nat) (fun g => [(0, .slice A us.length c), (2, .pointer (some ⟨b2, 0, none⟩)), (3, .pointer (some ⟨b3, 0, none⟩)), (4, .int .i64 (g.1 : Int))])
    (fun g w' => Sat W w' [Cl b3 [.slice g.2.1 g.2.2.2.1.length g.2.2.1, .slice g.2.2.2.2.1 (beginN 0 [] (F.take g.1)).length g.2.2.2.2.2, .slice none 0 0, .slice none 0 0] 43, Cl b2 [.slice none 0 0, .slice none 0 0, .slice none 0 0, .slice none 0 0] 43, RowOf eT 111 3 g.2.1 g.2.2.1 g.2.2.2.1, RowOf eE 113 2 g.2.2.2.2.1 g.2.2.2.2.2 (beginN 0 [] (F.take g.1)), Big (g.2.2.2.1.map RTh.P)] ∧ g.1 ≤ us.length ∧ g.2.2.2.1.length = g.1 ∧ g.2.2.2.1.map (·.d) = (us.take g.1).map (·.data) ∧ ∀ t ∈ g.2.2.2.1, t.syn = t.d.length ∧ t.there = true) (fun g => us.length - g.1) (0, none, 0, [], none, 0) ⟨rfl, rfl, rfl, rfl, trivial⟩ ⟨hs, by omega, rfl, rfl, fun t h => by cases h⟩ ?_
  clear hs
  rintro ⟨i, TA, tc, th, NA, nc⟩ τ w ⟨hs, h1, h2, h3, h4⟩
  try dsimp only at hs h1 h2 h3 h4 ⊢
  have hnl := hnN i
  by_cases hlt : i < us.length
  · have hru := rd_at hlt
    have hmu := rd2 _ (List.getElem_mem hlt)
    have hFi : F[i]'(by omega) = (us[i]).f := by subst hu; rw [List.getElem_map]
    have hdd := hd _ (List.getElem_mem (l := F) (n := i) (by omega))
    rw [hFi] at hdd
    have hnx : (us.take (i + 1)).map (·.data) = (us.take i).map (·.data) ++ [us[i].data] := by rw [List.take_succ_eq_append_getElem hlt, List.map_append]; rfl
    have hnm : beginN 0 [] (F.take (i + 1)) = wi (beginN 0 [] (F.take i)) us[i].n i := by
      rw [List.take_succ_eq_append_getElem (by omega), beginN_snoc, hFi, List.length_take, Nat.min_eq_left (by omega), Nat.zero_add]
      rfl
    obtain ⟨u, hui⟩ : ∃ u, us[i] = u := ⟨_, rfl⟩
    rw [hui] at hru hmu hdd hnx hnm
    have hmu : Rd eB W (rd us (i : Int)).A (rd us (i : Int)).data := by rw [hru]; exact hmu
    have hdd : (rd us (i : Int)).data.length ≤ 140737488355328 := by rw [hru]; exact hdd
    rw [← hru] at hnx hnm
    obtain ⟨na, hna⟩ : ∃ na, beginN 0 [] (F.take i) = na := ⟨_, rfl⟩
    rw [hna] at hs hnl hnm
    (repeat' (first | (refine isLW ?_; first | refine LW_nil ?_ | (refine isLload ?_; first | refine LW_loadRd (ra.of hs) (fun _ => rfl) TOK rfl (by assumption) rfl rfl (by omega) (by omega) rfl ?_) | (refine isLstore ?_; first | (refine LW_storeC 0 TOK hs rfl rfl rfl rfl rfl rfl rfl ?_; clear hs; intro w hs)) | (refine isLcall ?_; first | (refine LW_call (cap := []) rfl rfl ent63 (part_call _ (rd us (i : Int)).data _ _ (rd us (i : Int)).data.length (hmu.of hs) (Nat.le_refl _) hdd) ?_; rw [List.take_length]; rintro _ w2 ⟨A2, c2, rfl, hs2⟩; replace hs := (hs.and1 hs2).picks [1, 0]; clear hs2) | (refine LW_append1 3 eT_ok (z := ⟨A2, c2, (rd us (i : Int)).data, (rd us (i : Int)).data.length, true⟩) hs TOK rfl rfl rfl rfl rfl rfl rfl rfl rfl rfl (by unfold maxLen; omega) (by simp only []; omega) ?_; clear hs; intro A3 c3 w hs) | (refine LW_call (cap := []) rfl rfl ent81 (with_call _ na NA nc (rd us (i : Int)).n i (hs.rd 4 rfl) (by omega) (by omega)) ?_; rintro _ w2 ⟨A5, c5, rfl, hs2⟩; replace hs := (hs.and1 hs2).picks [1, 0]; clear hs2) | refine LW_pure TOK rfl ?_) | (refine isLidx ?_; first | (refine LW_indexRd (ra.of hs) TOK rfl rfl rfl rfl rfl (by omega) (by omega) ?_; intro _ _ _)) | (refine isLbin ?_; first | refine LW_i64 rfl (by omega) (by omega) ?_ | (refine LW_cmp rfl (fun _ => ?_) (fun _ => ?_) <;> try (exfalso; omega))) | refine LW_pure TOK rfl ?_ | (refine LW_buildSlice TOK hs rfl rfl rfl rfl rfl rfl rfl ?_; clear hs; intro _ w hs)) | (refine isDP ?_; first | (refine isDnil ?_; first | refine DP_end ?_ ?_) | (refine isDe rfl ?_; first | refine DP_eff rfl rfl ?_ ?_) | (refine isDload rfl ?_; first | refine DP_loadC 0 hs TOK rfl rfl (by first | exact trivial | rfl) rfl rfl rfl rfl rfl ?_ ?_ | refine DP_loadRd ra (fun _ => rfl) hs TOK rfl rfl (by first | exact trivial | rfl) rfl (by assumption) rfl rfl (by omega) (by omega) rfl ?_ ?_) | (refine isDidx rfl ?_; first | (refine DP_indexRd (ra.of hs) TOK rfl rfl (by first | exact trivial | rfl) rfl rfl rfl rfl rfl (by omega) (by omega) ?_; intro _ _ _)) | refine DP_build TOK rfl rfl (by first | exact trivial | rfl) rfl rfl rfl rfl rfl rfl ?_ | refine DP_pure TOK rfl rfl (by first | exact trivial | rfl) rfl ?_) | (refine isI0 ?_; exact Inv.nil) | (refine isI1 ?_; first | refine Inv.keepB hs ?_ | refine Inv.keepC 0 hs rfl rfl ?_ | refine Inv.keepC 1 hs rfl rfl ?_ | refine Inv.gone (by kernel_rfl) ?_) | (with_reducible first | refine then_n ?_ | refine CW_seq ?_ | refine CW_region ?_ | refine CW_block ?_ | refine CW_skip ?_ | refine blk_n ?_) | refine CW_true rfl ?_ | (refine CW_drawP (id := 6) [8, 11, 12, 14] [0, 1, 2, 3, 4, 5, 6, 7, 9, 8, 10, 11, 12, 13, 14] mixed (by kernel_rfl) hs ?_; clear hs; intro hs) | (refine CW_drawP (id := 7) [8, 10] [0, 1, 2, 3, 4, 5, 6, 7, 8, 9, 10] mixed (by kernel_rfl) hs ?_; clear hs; intro hs)))
    have h8 := snocT (t := ⟨A2, c2, (rd us (i : Int)).data, (rd us (i : Int)).data.length, true⟩) (hs.picks [2, 5])
    have h9 := Sat.keeps h8 [1, 2, 2, 1, 0]
    refine ⟨(i + 1, A3, c3, th ++ [(⟨A2, c2, (rd us (i : Int)).data, (rd us (i : Int)).data.length, true⟩ : RTh)], A5, c5), _, FR_forget _ ⟨rfl, rfl, rfl, by push_cast; rfl, trivial⟩, ⟨?_, hlt, by simp [h2], ?_, ?_⟩, by dsimp only; omega⟩
    · dsimp only
      rw [hnm]
      exact h9
    · dsimp only; rw [List.map_append, hnx, h3]; rfl
    · intro t ht
      rcases List.mem_append.1 ht with ht | ht
      · exact h4 t ht
      · simp at ht; subst ht; exact ⟨rfl, rfl⟩
  · have e : F.take i = F := List.take_of_length_le (by omega)
    have e2 : us.take i = us := List.take_of_length_le (by omega)
    rw [e] at hs
    rw [e2] at h3
    (repeat' (first | (refine isLW ?_; first | refine LW_nil ?_ | (refine isLload ?_; first | refine LW_loadCAE 0 (eS (beginS TA tc th NA nc (beginN 0 [] F))) TOK hs rfl rfl rfl rfl (Nat.le_of_ble_eq_true rfl) rfl ?_ | refine LW_loadC 0 TOK hs rfl rfl rfl rfl rfl ?_) | (refine isLstore ?_; first | (refine LW_storeCA 1 TOK hs rfl rfl rfl rfl rfl (eS_ok.2 (beginS TA tc th NA nc (beginN 0 [] F))) rfl (Nat.le_of_ble_eq_true rfl) ?_; clear hs; intro w hs) | (refine LW_storeC 0 TOK hs rfl rfl rfl rfl rfl rfl rfl ?_; clear hs; intro w hs)) | (refine isLcall ?_; first | refine LW_pure TOK rfl ?_) | (refine isLbin ?_; first | (refine LW_cmp rfl (fun _ => ?_) (fun _ => ?_) <;> try (exfalso; omega))) | refine LW_pure TOK rfl ?_) | (with_reducible first | refine then_n ?_ | refine CW_seq ?_ | refine CW_region ?_ | refine CW_exit ?_ | refine CW_ret ?_ | refine then_e ?_ | refine blk_same ?_) | refine RETA 1 hs TOK Try.results62 rfl rfl rfl rfl rfl ?_ | refine CW_false rfl ?_))
    refine ⟨TA, tc, th, NA, nc, rfl, trivial, ?_, h4, Sat.keeps hs [2, 2, 2]⟩
    rw [h3, ← hu, List.map_map]; rfl
end Go.Proofs.Ytoodgenbcfdloaa
