/- Walks: IndexOne. -/
import Derived.Test.YtaofhbjlbdpjhaaF18
import Derived.Test.YtaofhbjlbdpjhaaF25
import Derived.Test.YtaofhbjlbdpjhaaP5
set_option linter.unusedVariables false
set_option linter.unusedSimpArgs false
namespace Go.Proofs.Ytaofhbjlbdpjhaa
open Go Go.Sl Go.RowKit
set_option maxRecDepth 100000
attribute [local irreducible] CW LW DW FR DP Calls

theorem decV_val (b : List UInt8) (key : Int) : ∀ (k : Nat) (prev : Option Int) (at' : Int) (l : List (Int × Int)) (a : Int), (∀ q, prev = some q → 0 ≤ q) → decV b key k prev at' = .ok (l, a) → ∀ p ∈ l, 0 ≤ p.2 ∧ p.2 ≤ 9223372036854775807
  | 0, prev, at', l, a, _, h => by
    simp [decV] at h
    obtain ⟨rfl, rfl⟩ := h
    intro p hp; cases hp
  | k + 1, none, at', l, a, _, h => by
    have hr := (ru_ok b at').1
    simp only [decV] at h
    split at h
    · cases h
    split at h
    · cases h
    split at h
    · cases h
    · rename_i l' a' he
      cases h
      intro p hp
      rcases List.mem_cons.1 hp with rfl | hp
      · exact ⟨hr, by dsimp only; omega⟩
      · exact decV_val b key k _ _ _ _ (fun q hq => by cases hq; exact hr) he p hp
  | k + 1, some q, at', l, a, hq0, h => by
    have hr := (ru_ok b at').1
    have hq := hq0 q rfl
    simp only [decV] at h
    split at h
    · cases h
    split at h
    · cases h
    split at h
    · cases h
    · rename_i l' a' he
      cases h
      intro p hp
      rcases List.mem_cons.1 hp with rfl | hp
      · exact ⟨by dsimp only; omega, by dsimp only; omega⟩
      · exact decV_val b key k _ _ _ _ (fun q2 hq2 => by cases hq2; omega) he p hp
theorem decK_val (b : List UInt8) : ∀ (n : Nat) (key at' : Int) (l : List (Int × Int)) (a : Int), decK b n key at' = .ok (l, a) → ∀ p ∈ l, 0 ≤ p.2 ∧ p.2 ≤ 9223372036854775807
  | 0, key, at', l, a, h => by
    simp [decK] at h
    obtain ⟨rfl, rfl⟩ := h
    intro p hp; cases hp
  | n + 1, key, at', l, a, h => by
    rw [decK] at h
    simp only [] at h
    split at h
    · cases h
    split at h
    · cases h
    split at h
    · cases h
    split at h
    · cases h
    split at h
    · cases h
    · rename_i l1 a1 hv
      split at h
      · cases h
      · rename_i l2 a2 hk
        cases h
        intro p hp
        rcases List.mem_append.1 hp with hp | hp
        · exact decV_val b _ _ _ _ _ _ (fun q hq => by cases hq) hv p hp
        · exact decK_val b n _ _ _ _ hk p hp
theorem dec_okV {b : List UInt8} {l : List (Int × Int)} (h : dec b = .ok l) : ∀ p ∈ l, okI p.2 := by
  unfold dec at h
  simp only [] at h
  split at h
  · cases h
  · cases hk : decK b (ru b 0).1.toNat 0 (ru b 0).2.1 with
    | error e => rw [hk] at h; cases h
    | ok q =>
      obtain ⟨l', a⟩ := q
      rw [hk] at h
      simp only [fin] at h
      split at h
      · cases h
        intro p hp
        have := decK_val b _ _ _ _ _ hk p hp
        unfold okI; omega
      · cases h
theorem dec_15271 : dec [1, 5, 2, 7, 1] = .ok [(5, 7), (5, 8)] := by rfl
theorem getK_78 : getK [((5 : Int), (7 : Int)), (5, 8)] 5 = [7, 8] := by decide
set_option maxHeartbeats 2000000 in
theorem IndexOne_call (W : World) (b : List UInt8) (A : Option Addr) (c : Nat) (rb : Rd eB W A b) (hc : b.length ≤ c) :
    Calls Try.prog 11 [Value.slice A b.length c].toArray W (Ret fun v w' => v = .bool true ∧ Sat W w' []) := by
  refine Calls_of Try.func11 rfl 51 Try.ntmps11 rfl ?_
  have hs := Sat.start W
  refine CW_seq ?_
  (first | (with_reducible first | refine LW_nil ?_ | refine then_n ?_ | refine CW_seq ?_ | refine CW_region ?_ | refine CW_block ?_ | refine CW_skip ?_ | refine CW_label ?_ | refine CW_exit ?_ | refine CW_ret ?_ | refine then_e ?_ | refine then_r ?_ | refine blk_n ?_ | refine blk_r ?_ | refine blk_same ?_ | refine QN_n ?_) | refine LW_pure TOK rfl ?_ | refine LW_pure0 TOK rfl ?_ | refine LW_loadC 0 TOK hs rfl rfl rfl rfl rfl ?_ | refine LW_loadC 1 TOK hs rfl rfl rfl rfl rfl ?_ | refine LW_loadC 2 TOK hs rfl rfl rfl rfl rfl ?_ | refine LW_loadC 3 TOK hs rfl rfl rfl rfl rfl ?_ | refine blk_other rfl ?_ | refine CW_true rfl ?_ | refine CW_false rfl ?_ | refine LW_take rfl ?_ | refine LW_pass rfl rfl ?_ | refine LW_pass0 rfl rfl ?_ | refine LW_passV rfl rfl rfl ?_ | refine LW_i64 rfl (by omega) (by omega) ?_ | (refine LW_cmp rfl (fun _ => ?_) (fun _ => ?_) <;> try (exfalso; omega)) | refine LW_nileq TOK rfl ?_ | refine LW_cmpB rfl ?_ | refine LW_indexAddr TOK rfl rfl rfl rfl rfl (by omega) (by omega) ?_ | (refine LW_box hs rfl rfl ?_; clear hs; intro _ w hs) | (refine LW_alloc TOK hs rfl rfl ?_; clear hs; intro _ w hs) | (refine LW_makeMap hs ?_; clear hs; intro _ w hs) | (refine LW_buildSlice TOK hs rfl rfl rfl rfl rfl rfl rfl ?_; clear hs; intro _ w hs) | refine LW_build TOK rfl rfl rfl rfl rfl rfl ?_ | (refine LW_storeC 0 TOK hs rfl rfl rfl rfl rfl rfl rfl ?_; clear hs; intro w hs) | (refine LW_storeC 1 TOK hs rfl rfl rfl rfl rfl rfl rfl ?_; clear hs; intro w hs) | (refine LW_storeC 2 TOK hs rfl rfl rfl rfl rfl rfl rfl ?_; clear hs; intro w hs) | (refine LW_storeC 3 TOK hs rfl rfl rfl rfl rfl rfl rfl ?_; clear hs; intro w hs))
  (first | (with_reducible first | refine LW_nil ?_ | refine then_n ?_ | refine CW_seq ?_ | refine CW_region ?_ | refine CW_block ?_ | refine CW_skip ?_ | refine CW_label ?_ | refine CW_exit ?_ | refine CW_ret ?_ | refine then_e ?_ | refine then_r ?_ | refine blk_n ?_ | refine blk_r ?_ | refine blk_same ?_ | refine QN_n ?_) | refine LW_pure TOK rfl ?_ | refine LW_pure0 TOK rfl ?_ | refine LW_loadC 0 TOK hs rfl rfl rfl rfl rfl ?_ | refine LW_loadC 1 TOK hs rfl rfl rfl rfl rfl ?_ | refine LW_loadC 2 TOK hs rfl rfl rfl rfl rfl ?_ | refine LW_loadC 3 TOK hs rfl rfl rfl rfl rfl ?_ | refine blk_other rfl ?_ | refine CW_true rfl ?_ | refine CW_false rfl ?_ | refine LW_take rfl ?_ | refine LW_pass rfl rfl ?_ | refine LW_pass0 rfl rfl ?_ | refine LW_passV rfl rfl rfl ?_ | refine LW_i64 rfl (by omega) (by omega) ?_ | (refine LW_cmp rfl (fun _ => ?_) (fun _ => ?_) <;> try (exfalso; omega)) | refine LW_nileq TOK rfl ?_ | refine LW_cmpB rfl ?_ | refine LW_indexAddr TOK rfl rfl rfl rfl rfl (by omega) (by omega) ?_ | (refine LW_box hs rfl rfl ?_; clear hs; intro _ w hs) | (refine LW_alloc TOK hs rfl rfl ?_; clear hs; intro _ w hs) | (refine LW_makeMap hs ?_; clear hs; intro _ w hs) | (refine LW_buildSlice TOK hs rfl rfl rfl rfl rfl rfl rfl ?_; clear hs; intro _ w hs) | refine LW_build TOK rfl rfl rfl rfl rfl rfl ?_ | (refine LW_storeC 0 TOK hs rfl rfl rfl rfl rfl rfl rfl ?_; clear hs; intro w hs) | (refine LW_storeC 1 TOK hs rfl rfl rfl rfl rfl rfl rfl ?_; clear hs; intro w hs) | (refine LW_storeC 2 TOK hs rfl rfl rfl rfl rfl rfl rfl ?_; clear hs; intro w hs) | (refine LW_storeC 3 TOK hs rfl rfl rfl rfl rfl rfl rfl ?_; clear hs; intro w hs))
  (first | (with_reducible first | refine LW_nil ?_ | refine then_n ?_ | refine CW_seq ?_ | refine CW_region ?_ | refine CW_block ?_ | refine CW_skip ?_ | refine CW_label ?_ | refine CW_exit ?_ | refine CW_ret ?_ | refine then_e ?_ | refine then_r ?_ | refine blk_n ?_ | refine blk_r ?_ | refine blk_same ?_ | refine QN_n ?_) | refine LW_pure TOK rfl ?_ | refine LW_pure0 TOK rfl ?_ | refine LW_loadC 0 TOK hs rfl rfl rfl rfl rfl ?_ | refine LW_loadC 1 TOK hs rfl rfl rfl rfl rfl ?_ | refine LW_loadC 2 TOK hs rfl rfl rfl rfl rfl ?_ | refine LW_loadC 3 TOK hs rfl rfl rfl rfl rfl ?_ | refine blk_other rfl ?_ | refine CW_true rfl ?_ | refine CW_false rfl ?_ | refine LW_take rfl ?_ | refine LW_pass rfl rfl ?_ | refine LW_pass0 rfl rfl ?_ | refine LW_passV rfl rfl rfl ?_ | refine LW_i64 rfl (by omega) (by omega) ?_ | (refine LW_cmp rfl (fun _ => ?_) (fun _ => ?_) <;> try (exfalso; omega)) | refine LW_nileq TOK rfl ?_ | refine LW_cmpB rfl ?_ | refine LW_indexAddr TOK rfl rfl rfl rfl rfl (by omega) (by omega) ?_ | (refine LW_box hs rfl rfl ?_; clear hs; intro _ w hs) | (refine LW_alloc TOK hs rfl rfl ?_; clear hs; intro _ w hs) | (refine LW_makeMap hs ?_; clear hs; intro _ w hs) | (refine LW_buildSlice TOK hs rfl rfl rfl rfl rfl rfl rfl ?_; clear hs; intro _ w hs) | refine LW_build TOK rfl rfl rfl rfl rfl rfl ?_ | (refine LW_storeC 0 TOK hs rfl rfl rfl rfl rfl rfl rfl ?_; clear hs; intro w hs) | (refine LW_storeC 1 TOK hs rfl rfl rfl rfl rfl rfl rfl ?_; clear hs; intro w hs) | (refine LW_storeC 2 TOK hs rfl rfl rfl rfl rfl rfl rfl ?_; clear hs; intro w hs) | (refine LW_storeC 3 TOK hs rfl rfl rfl rfl rfl rfl rfl ?_; clear hs; intro w hs))
  (first | (with_reducible first | refine LW_nil ?_ | refine then_n ?_ | refine CW_seq ?_ | refine CW_region ?_ | refine CW_block ?_ | refine CW_skip ?_ | refine CW_label ?_ | refine CW_exit ?_ | refine CW_ret ?_ | refine then_e ?_ | refine then_r ?_ | refine blk_n ?_ | refine blk_r ?_ | refine blk_same ?_ | refine QN_n ?_) | refine LW_pure TOK rfl ?_ | refine LW_pure0 TOK rfl ?_ | refine LW_loadC 0 TOK hs rfl rfl rfl rfl rfl ?_ | refine LW_loadC 1 TOK hs rfl rfl rfl rfl rfl ?_ | refine LW_loadC 2 TOK hs rfl rfl rfl rfl rfl ?_ | refine LW_loadC 3 TOK hs rfl rfl rfl rfl rfl ?_ | refine blk_other rfl ?_ | refine CW_true rfl ?_ | refine CW_false rfl ?_ | refine LW_take rfl ?_ | refine LW_pass rfl rfl ?_ | refine LW_pass0 rfl rfl ?_ | refine LW_passV rfl rfl rfl ?_ | refine LW_i64 rfl (by omega) (by omega) ?_ | (refine LW_cmp rfl (fun _ => ?_) (fun _ => ?_) <;> try (exfalso; omega)) | refine LW_nileq TOK rfl ?_ | refine LW_cmpB rfl ?_ | refine LW_indexAddr TOK rfl rfl rfl rfl rfl (by omega) (by omega) ?_ | (refine LW_box hs rfl rfl ?_; clear hs; intro _ w hs) | (refine LW_alloc TOK hs rfl rfl ?_; clear hs; intro _ w hs) | (refine LW_makeMap hs ?_; clear hs; intro _ w hs) | (refine LW_buildSlice TOK hs rfl rfl rfl rfl rfl rfl rfl ?_; clear hs; intro _ w hs) | refine LW_build TOK rfl rfl rfl rfl rfl rfl ?_ | (refine LW_storeC 0 TOK hs rfl rfl rfl rfl rfl rfl rfl ?_; clear hs; intro w hs) | (refine LW_storeC 1 TOK hs rfl rfl rfl rfl rfl rfl rfl ?_; clear hs; intro w hs) | (refine LW_storeC 2 TOK hs rfl rfl rfl rfl rfl rfl rfl ?_; clear hs; intro w hs) | (refine LW_storeC 3 TOK hs rfl rfl rfl rfl rfl rfl rfl ?_; clear hs; intro w hs))
  refine CW_late1 (fun a w => ∃ (b : List UInt8) (τ : Nat → Value), a = FR 51 [(0, .slice A b.length c)] τ [] ∧ Sat W w [] ∧ Rd eB W A b ∧ b.length ≤ 65536) ?_ ?_
  · clear hs rb hc
    rintro _ w ⟨b, τ, rfl, hs, rb, hb⟩
    (repeat' (first | (refine isLW ?_; first | refine LW_nil ?_ | (refine isLg ?_; first | refine LW_take rfl ?_ | refine LW_pass rfl rfl ?_ | refine LW_pass0 rfl rfl ?_ | refine LW_passV rfl rfl rfl ?_) | (refine isLload ?_; first | refine LW_loadC 0 TOK hs rfl rfl rfl rfl rfl ?_) | (refine isLstore ?_; first | (refine LW_storeC 0 TOK hs rfl rfl rfl rfl rfl rfl rfl ?_; clear hs; intro w hs)) | (refine isLcall ?_; first | (refine LW_call (cap := []) rfl rfl ent51 (Decode_ok _ [1, 5, 2, 7, 1] _ 5 (hs.rdC (t := 5) 0 rfl) (by decide) dec_15271) ?_; rintro v w ⟨mu0, rfl, ho0, hlen0, hs2⟩; replace hs := hs.andThen hs2; clear hs2 hlen0) | (refine LW_call (cap := []) rfl rfl ent23 (Get_call W _ _ mu0 _ _ hs ho0 (by decide)) ?_; clear hs; rintro _ w ⟨G1, d1, rfl, hs⟩; rw [getK_78] at hs ⊢) | (refine LW_call (cap := []) rfl rfl ent24 (sameInts_call _ [7, 8] [7, 8] G1 _ d1 2 (hs.rd 1 rfl) (hs.rdC (t := 3) 0 rfl) (by decide)) ?_; rintro _ w ⟨rfl, hs2⟩; replace hs := hs.and0 hs2; clear hs2; rw [decide_eq_true rfl]) | refine LW_pure TOK rfl ?_ | refine LW_pure0 TOK rfl ?_) | (refine isLidx ?_; first | refine LW_indexAddr TOK rfl rfl rfl rfl rfl (by omega) (by omega) ?_) | (refine isLbin ?_; first | refine LW_pure TOK rfl ?_ | refine LW_i64 rfl (by omega) (by omega) ?_ | (refine LW_cmp rfl (fun _ => ?_) (fun _ => ?_) <;> try (exfalso; omega)) | refine LW_nileq TOK rfl ?_ | refine LW_cmpB rfl ?_) | refine LW_pure TOK rfl ?_ | refine LW_pure0 TOK rfl ?_ | refine LW_i64 rfl (by omega) (by omega) ?_ | (refine LW_box hs rfl rfl ?_; clear hs; intro _ w hs) | (refine LW_alloc TOK hs rfl rfl ?_; clear hs; intro _ w hs) | (refine LW_makeMap hs ?_; clear hs; intro _ w hs) | (refine LW_buildSlice TOK hs rfl rfl rfl rfl rfl rfl rfl ?_; clear hs; intro _ w hs) | refine LW_build TOK rfl rfl rfl rfl rfl rfl ?_) | (refine isDP ?_; first | (refine isDnil ?_; refine DP_end (by repeat' (first | exact Inv.nil | refine Inv.keepB hs ?_ | refine Inv.keepB (Sat.start _) ?_ | refine Inv.keepC 0 hs rfl rfl ?_ | refine Inv.gone (by kernel_rfl) ?_)) ?_) | (refine isDe rfl ?_; refine DP_eff rfl rfl (by repeat' (first | exact Inv.nil | refine Inv.keepB hs ?_ | refine Inv.keepB (Sat.start _) ?_ | refine Inv.keepC 0 hs rfl rfl ?_ | refine Inv.gone (by kernel_rfl) ?_)) ?_) | (refine isDg rfl ?_; first | refine DP_pass rfl rfl rfl rfl ?_ | refine DP_passU (j' := 0) rfl rfl rfl rfl rfl ?_) | (refine isDload rfl ?_; first | refine DP_loadC 0 hs TOK rfl rfl (by first | exact trivial | rfl) rfl rfl rfl rfl rfl (by repeat' (first | exact Inv.nil | refine Inv.keepB hs ?_ | refine Inv.keepB (Sat.start _) ?_ | refine Inv.keepC 0 hs rfl rfl ?_ | refine Inv.gone (by kernel_rfl) ?_)) ?_) | (refine isDbin rfl ?_; first | refine DP_pure TOK rfl rfl (by first | exact trivial | rfl) rfl ?_ | (refine DP_cmp rfl rfl (by first | exact trivial | rfl) rfl (fun _ => ?_) (fun _ => ?_) <;> try (exfalso; omega)) | refine DP_i64 rfl rfl (by first | exact trivial | rfl) rfl (by omega) (by omega) ?_ | refine DP_cmpB rfl rfl (by first | exact trivial | rfl) rfl ?_ | refine DP_nileq TOK rfl rfl (by first | exact trivial | rfl) rfl ?_) | refine DP_pure TOK rfl rfl (by first | exact trivial | rfl) rfl ?_) | (with_reducible first | refine LW_nil ?_ | refine then_n ?_ | refine CW_seq ?_ | refine CW_region ?_ | refine CW_block ?_ | refine CW_skip ?_ | refine CW_label ?_ | refine CW_exit ?_ | refine CW_ret ?_ | refine then_e ?_ | refine then_r ?_ | refine blk_n ?_ | refine blk_r ?_ | refine blk_same ?_ | refine QN_n ?_) | refine blk_other rfl ?_ | refine CW_true rfl ?_ | refine CW_false rfl ?_ | refine RET1 Try.results11 rfl ?_ | refine RET2 Try.results11 rfl rfl ?_ | refine RET3 Try.results11 rfl rfl rfl ?_ | refine RET0 Try.results11 ?_ | refine RET0n Try.results11 ?_))
    clear ho0
    replace hs : Sat W w [] := ⟨hs.below, trivial⟩
    cases hd : dec b with
    | error e =>
      (repeat' (first | (refine isLW ?_; first | refine LW_nil ?_ | (refine isLg ?_; first | refine LW_take rfl ?_ | refine LW_pass rfl rfl ?_ | refine LW_pass0 rfl rfl ?_ | refine LW_passV rfl rfl rfl ?_) | (refine isLload ?_; first | refine LW_loadC 0 TOK hs rfl rfl rfl rfl rfl ?_) | (refine isLstore ?_; first | (refine LW_storeC 0 TOK hs rfl rfl rfl rfl rfl rfl rfl ?_; clear hs; intro w hs)) | (refine isLcall ?_; first | (refine LW_call (cap := []) rfl rfl ent51 (Decode_err _ b _ _ (rb.of hs) (by omega) hd) ?_; rintro v w ⟨rfl, he, hs2⟩; replace hs := hs.and0 hs2; clear hs2) | refine LW_pure TOK rfl ?_ | refine LW_pure0 TOK rfl ?_) | (refine isLidx ?_; first | refine LW_indexAddr TOK rfl rfl rfl rfl rfl (by omega) (by omega) ?_) | (refine isLbin ?_; first | refine LW_pure TOK rfl ?_ | refine LW_i64 rfl (by omega) (by omega) ?_ | (refine LW_cmp rfl (fun _ => ?_) (fun _ => ?_) <;> try (exfalso; omega)) | refine LW_nileq TOK rfl ?_ | refine LW_cmpB rfl ?_) | refine LW_pure TOK rfl ?_ | refine LW_pure0 TOK rfl ?_ | refine LW_i64 rfl (by omega) (by omega) ?_ | (refine LW_box hs rfl rfl ?_; clear hs; intro _ w hs) | (refine LW_alloc TOK hs rfl rfl ?_; clear hs; intro _ w hs) | (refine LW_makeMap hs ?_; clear hs; intro _ w hs) | (refine LW_buildSlice TOK hs rfl rfl rfl rfl rfl rfl rfl ?_; clear hs; intro _ w hs) | refine LW_build TOK rfl rfl rfl rfl rfl rfl ?_) | (refine isDP ?_; first | (refine isDnil ?_; refine DP_end (by repeat' (first | exact Inv.nil | refine Inv.keepB hs ?_ | refine Inv.keepB (Sat.start _) ?_ | refine Inv.keepC 0 hs rfl rfl ?_ | refine Inv.gone (by kernel_rfl) ?_)) ?_) | (refine isDe rfl ?_; refine DP_eff rfl rfl (by repeat' (first | exact Inv.nil | refine Inv.keepB hs ?_ | refine Inv.keepB (Sat.start _) ?_ | refine Inv.keepC 0 hs rfl rfl ?_ | refine Inv.gone (by kernel_rfl) ?_)) ?_) | (refine isDg rfl ?_; first | refine DP_pass rfl rfl rfl rfl ?_ | refine DP_passU (j' := 0) rfl rfl rfl rfl rfl ?_) | (refine isDload rfl ?_; first | refine DP_loadC 0 hs TOK rfl rfl (by first | exact trivial | rfl) rfl rfl rfl rfl rfl (by repeat' (first | exact Inv.nil | refine Inv.keepB hs ?_ | refine Inv.keepB (Sat.start _) ?_ | refine Inv.keepC 0 hs rfl rfl ?_ | refine Inv.gone (by kernel_rfl) ?_)) ?_) | (refine isDbin rfl ?_; first | refine DP_pure TOK rfl rfl (by first | exact trivial | rfl) rfl ?_ | (refine DP_cmp rfl rfl (by first | exact trivial | rfl) rfl (fun _ => ?_) (fun _ => ?_) <;> try (exfalso; omega)) | refine DP_i64 rfl rfl (by first | exact trivial | rfl) rfl (by omega) (by omega) ?_ | refine DP_cmpB rfl rfl (by first | exact trivial | rfl) rfl ?_ | refine DP_nileq TOK rfl rfl (by first | exact trivial | rfl) rfl ?_) | refine DP_pure TOK rfl rfl (by first | exact trivial | rfl) rfl ?_) | (with_reducible first | refine LW_nil ?_ | refine then_n ?_ | refine CW_seq ?_ | refine CW_region ?_ | refine CW_block ?_ | refine CW_skip ?_ | refine CW_label ?_ | refine CW_exit ?_ | refine CW_ret ?_ | refine then_e ?_ | refine then_r ?_ | refine blk_n ?_ | refine blk_r ?_ | refine blk_same ?_ | refine QN_n ?_) | refine blk_other rfl ?_ | refine CW_true rfl ?_ | refine CW_false rfl ?_ | refine RET1 Try.results11 rfl ?_ | refine RET2 Try.results11 rfl rfl ?_ | refine RET3 Try.results11 rfl rfl rfl ?_ | refine RET0 Try.results11 ?_ | refine RET0n Try.results11 ?_))
      exact ⟨rfl, hs⟩
    | ok l =>
      have hb1 := dec_back hd
      have ho1 := dec_okI hd
      have ho2 := dec_okV hd
      (repeat' (first | (refine isLW ?_; first | refine LW_nil ?_ | (refine isLg ?_; first | refine LW_take rfl ?_ | refine LW_pass rfl rfl ?_ | refine LW_pass0 rfl rfl ?_ | refine LW_passV rfl rfl rfl ?_) | (refine isLload ?_; first | refine LW_loadC 0 TOK hs rfl rfl rfl rfl rfl ?_) | (refine isLstore ?_; first | (refine LW_storeC 0 TOK hs rfl rfl rfl rfl rfl rfl rfl ?_; clear hs; intro w hs)) | (refine isLcall ?_; first | (refine LW_call (cap := []) rfl rfl ent51 (Decode_ok _ b _ _ (rb.of hs) (by omega) hd) ?_; rintro v w ⟨mu, rfl, ho, hll, hs2⟩; replace hs := hs.andThen hs2; clear hs2) | (refine LW_call (cap := []) rfl rfl ent46 (Encode_call W _ _ mu l hs ho (by omega) ho1 ho2) ?_; clear hs; rintro _ w ⟨A1, c1, rfl, hs⟩; rw [hb1] at hs ⊢) | (refine LW_call (cap := []) rfl rfl ent48 (sameBytes_call _ b b A A1 c c1 (rb.of hs) (hs.rd 0 rfl) (by omega)) ?_; rintro _ w ⟨rfl, hs2⟩; replace hs := hs.and0 hs2; clear hs2; rw [decide_eq_true rfl]) | refine LW_pure TOK rfl ?_ | refine LW_pure0 TOK rfl ?_) | (refine isLidx ?_; first | refine LW_indexAddr TOK rfl rfl rfl rfl rfl (by omega) (by omega) ?_) | (refine isLbin ?_; first | refine LW_pure TOK rfl ?_ | refine LW_i64 rfl (by omega) (by omega) ?_ | (refine LW_cmp rfl (fun _ => ?_) (fun _ => ?_) <;> try (exfalso; omega)) | refine LW_nileq TOK rfl ?_ | refine LW_cmpB rfl ?_) | refine LW_pure TOK rfl ?_ | refine LW_pure0 TOK rfl ?_ | refine LW_i64 rfl (by omega) (by omega) ?_ | (refine LW_box hs rfl rfl ?_; clear hs; intro _ w hs) | (refine LW_alloc TOK hs rfl rfl ?_; clear hs; intro _ w hs) | (refine LW_makeMap hs ?_; clear hs; intro _ w hs) | (refine LW_buildSlice TOK hs rfl rfl rfl rfl rfl rfl rfl ?_; clear hs; intro _ w hs) | refine LW_build TOK rfl rfl rfl rfl rfl rfl ?_) | (refine isDP ?_; first | (refine isDnil ?_; refine DP_end (by repeat' (first | exact Inv.nil | refine Inv.keepB hs ?_ | refine Inv.keepB (Sat.start _) ?_ | refine Inv.keepC 0 hs rfl rfl ?_ | refine Inv.gone (by kernel_rfl) ?_)) ?_) | (refine isDe rfl ?_; refine DP_eff rfl rfl (by repeat' (first | exact Inv.nil | refine Inv.keepB hs ?_ | refine Inv.keepB (Sat.start _) ?_ | refine Inv.keepC 0 hs rfl rfl ?_ | refine Inv.gone (by kernel_rfl) ?_)) ?_) | (refine isDg rfl ?_; first | refine DP_pass rfl rfl rfl rfl ?_ | refine DP_passU (j' := 0) rfl rfl rfl rfl rfl ?_) | (refine isDload rfl ?_; first | refine DP_loadC 0 hs TOK rfl rfl (by first | exact trivial | rfl) rfl rfl rfl rfl rfl (by repeat' (first | exact Inv.nil | refine Inv.keepB hs ?_ | refine Inv.keepB (Sat.start _) ?_ | refine Inv.keepC 0 hs rfl rfl ?_ | refine Inv.gone (by kernel_rfl) ?_)) ?_) | (refine isDbin rfl ?_; first | refine DP_pure TOK rfl rfl (by first | exact trivial | rfl) rfl ?_ | (refine DP_cmp rfl rfl (by first | exact trivial | rfl) rfl (fun _ => ?_) (fun _ => ?_) <;> try (exfalso; omega)) | refine DP_i64 rfl rfl (by first | exact trivial | rfl) rfl (by omega) (by omega) ?_ | refine DP_cmpB rfl rfl (by first | exact trivial | rfl) rfl ?_ | refine DP_nileq TOK rfl rfl (by first | exact trivial | rfl) rfl ?_) | refine DP_pure TOK rfl rfl (by first | exact trivial | rfl) rfl ?_) | (with_reducible first | refine LW_nil ?_ | refine then_n ?_ | refine CW_seq ?_ | refine CW_region ?_ | refine CW_block ?_ | refine CW_skip ?_ | refine CW_label ?_ | refine CW_exit ?_ | refine CW_ret ?_ | refine then_e ?_ | refine then_r ?_ | refine blk_n ?_ | refine blk_r ?_ | refine blk_same ?_ | refine QN_n ?_) | refine blk_other rfl ?_ | refine CW_true rfl ?_ | refine CW_false rfl ?_ | refine RET1 Try.results11 rfl ?_ | refine RET2 Try.results11 rfl rfl ?_ | refine RET3 Try.results11 rfl rfl rfl ?_ | refine RET0 Try.results11 ?_ | refine RET0n Try.results11 ?_))
      exact ⟨rfl, hs.below, trivial⟩
  · intro hlate
    (repeat' (first | refine hlate _ _ ?_ | (refine isLW ?_; first | refine LW_nil ?_ | (refine isLg ?_; first | refine LW_take rfl ?_ | refine LW_pass rfl rfl ?_ | refine LW_pass0 rfl rfl ?_ | refine LW_passV rfl rfl rfl ?_) | (refine isLload ?_; first | refine LW_loadC 0 TOK hs rfl rfl rfl rfl rfl ?_) | (refine isLstore ?_; first | (refine LW_storeC 0 TOK hs rfl rfl rfl rfl rfl rfl rfl ?_; clear hs; intro w hs)) | (refine isLcall ?_; first | refine LW_pure TOK rfl ?_ | refine LW_pure0 TOK rfl ?_) | (refine isLidx ?_; first | refine LW_indexAddr TOK rfl rfl rfl rfl rfl (by omega) (by omega) ?_) | (refine isLbin ?_; first | refine LW_pure TOK rfl ?_ | refine LW_i64 rfl (by omega) (by omega) ?_ | (refine LW_cmp rfl (fun _ => ?_) (fun _ => ?_) <;> try (exfalso; omega)) | refine LW_nileq TOK rfl ?_ | refine LW_cmpB rfl ?_) | refine LW_sliceH TOK rfl rfl rfl rfl rfl (by omega) (by omega) ?_ | refine LW_pure TOK rfl ?_ | refine LW_pure0 TOK rfl ?_ | refine LW_i64 rfl (by omega) (by omega) ?_ | (refine LW_box hs rfl rfl ?_; clear hs; intro _ w hs) | (refine LW_alloc TOK hs rfl rfl ?_; clear hs; intro _ w hs) | (refine LW_makeMap hs ?_; clear hs; intro _ w hs) | (refine LW_buildSlice TOK hs rfl rfl rfl rfl rfl rfl rfl ?_; clear hs; intro _ w hs) | refine LW_build TOK rfl rfl rfl rfl rfl rfl ?_) | (refine isDP ?_; first | (refine isDnil ?_; refine DP_end (by repeat' (first | exact Inv.nil | refine Inv.keepB hs ?_ | refine Inv.keepB (Sat.start _) ?_ | refine Inv.keepC 0 hs rfl rfl ?_ | refine Inv.gone (by kernel_rfl) ?_)) ?_) | (refine isDe rfl ?_; refine DP_eff rfl rfl (by repeat' (first | exact Inv.nil | refine Inv.keepB hs ?_ | refine Inv.keepB (Sat.start _) ?_ | refine Inv.keepC 0 hs rfl rfl ?_ | refine Inv.gone (by kernel_rfl) ?_)) ?_) | (refine isDg rfl ?_; first | refine DP_pass rfl rfl rfl rfl ?_ | refine DP_passU (j' := 0) rfl rfl rfl rfl rfl ?_) | (refine isDload rfl ?_; first | refine DP_loadC 0 hs TOK rfl rfl (by first | exact trivial | rfl) rfl rfl rfl rfl rfl (by repeat' (first | exact Inv.nil | refine Inv.keepB hs ?_ | refine Inv.keepB (Sat.start _) ?_ | refine Inv.keepC 0 hs rfl rfl ?_ | refine Inv.gone (by kernel_rfl) ?_)) ?_) | (refine isDbin rfl ?_; first | refine DP_pure TOK rfl rfl (by first | exact trivial | rfl) rfl ?_ | (refine DP_cmp rfl rfl (by first | exact trivial | rfl) rfl (fun _ => ?_) (fun _ => ?_) <;> try (exfalso; omega)) | refine DP_i64 rfl rfl (by first | exact trivial | rfl) rfl (by omega) (by omega) ?_ | refine DP_cmpB rfl rfl (by first | exact trivial | rfl) rfl ?_ | refine DP_nileq TOK rfl rfl (by first | exact trivial | rfl) rfl ?_) | refine DP_pure TOK rfl rfl (by first | exact trivial | rfl) rfl ?_) | (with_reducible first | refine LW_nil ?_ | refine then_n ?_ | refine CW_seq ?_ | refine CW_region ?_ | refine CW_block ?_ | refine CW_skip ?_ | refine CW_label ?_ | refine CW_exit ?_ | refine CW_ret ?_ | refine then_e ?_ | refine then_r ?_ | refine blk_n ?_ | refine blk_r ?_ | refine blk_same ?_ | refine QN_n ?_) | refine blk_other rfl ?_ | refine CW_true rfl ?_ | refine CW_false rfl ?_ | refine RET1 Try.results11 rfl ?_ | refine RET2 Try.results11 rfl rfl ?_ | refine RET3 Try.results11 rfl rfl rfl ?_ | refine RET0 Try.results11 ?_ | refine RET0n Try.results11 ?_))
    · refine ⟨b.take 65536, _, FR_forget _ ⟨?_, trivial⟩, hs, rb.take _, by simp; omega⟩
      rw [List.length_take, Nat.min_eq_left (by omega)]; rfl
    · exact ⟨b, _, FR_forget _ ⟨rfl, trivial⟩, hs, rb, by omega⟩
end Go.Proofs.Ytaofhbjlbdpjhaa
