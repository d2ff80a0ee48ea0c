/- The book of lists that were handed out; walks: stands. Printed by tools/genb4.py. -/
import Derived.Test.YtoodgenbcfdloaaB3
import Derived.Test.YtoodgenbcfdloaaSlText2
set_option linter.unusedVariables false
set_option linter.unusedSimpArgs false
namespace Go.Proofs.Ytoodgenbcfdloaa
open Go Go.Sl Go.RowKit
set_option maxRecDepth 100000
attribute [local irreducible] CW LW DW FR DP Calls
theorem row_in {α : Type} {enc : α → List Value} {e : TypeId} {sz c : Nat} {A : Option Addr} {zs : List α} {pool L : List HProp} {W w : World} (h : RowOf enc e sz A c zs ∈ pool) (hs : Sat W w (Big pool :: L)) : Rd enc w A zs := inRow.rd (.inr h) hs
theorem InB.rd {pool L : List HProp} {h : Hd} {m : UInt8} {W w : World} (k : InB pool h m) (hs : Sat W w (Big pool :: L)) : ∃ zs, Rd eB w h.1 zs ∧ h.2.1 ≤ zs.length ∧ ∀ z ∈ zs, z = m := by
  rcases k with k | ⟨zs, c, h1, h2, h3⟩
  · exact ⟨[], .inl rfl, by omega, fun z hz => by cases hz⟩
  · exact ⟨zs, row_in h1 hs, h2, h3⟩
theorem InF.rd {pool L : List HProp} {h : Hd} {m : Nm} {W w : World} (k : InF pool h m) (hs : Sat W w (Big pool :: L)) : ∃ zs, Rd eF w h.1 zs ∧ h.2.1 ≤ zs.length ∧ ∀ z ∈ zs, z.n = m := by
  rcases k with k | ⟨zs, c, h1, h2, h3⟩
  · exact ⟨[], .inl rfl, by omega, fun z hz => by cases hz⟩
  · exact ⟨zs, row_in h1 hs, h2, h3⟩
theorem InN.rd {pool L : List HProp} {h : Hd} {m : Nm} {W w : World} (k : InN pool h m) (hs : Sat W w (Big pool :: L)) : ∃ zs, Rd eN w h.1 zs ∧ h.2.1 ≤ zs.length ∧ ∀ z ∈ zs, z = m := by
  rcases k with k | ⟨zs, c, h1, h2, h3⟩
  · exact ⟨[], .inl rfl, by omega, fun z hz => by cases hz⟩
  · exact ⟨zs, row_in h1 hs, h2, h3⟩
theorem rd_mem {α : Type} [Inhabited α] {xs : List α} {j : Nat} (h : j < xs.length) : rd xs (j : Int) ∈ xs := by rw [rd_lt h]; exact List.getElem_mem h
set_option maxHeartbeats 16000000 in
theorem stands_call (W w : World) (L : List HProp) (bb : Nat) (b : Bk) (pool : List HProp) (hs0 : Sat W w (b.L bb pool ++ L)) (ok : BkOK b pool) (g1 : b.hh.length = b.ls.length) (g2 : b.ii.length = b.fs.length) (g3 : b.jj.length = b.ns.length) (h1 : b.ls.length ≤ 1000000000) (h2 : b.fs.length ≤ 1000000000) (h3 : b.ns.length ≤ 1000000000) :
    Calls Try.prog 44 [Value.pointer (some ⟨bb, 0, none⟩)].toArray w (Ret fun v w' => v = .bool true ∧ Sat w w' []) := by
  refine Calls_of Try.func44 rfl 224 Try.ntmps44 rfl ?_
  have hbx : ∀ (k : Nat) (v : Value), b.C[k]? = some v → w.cell? ⟨bb, 0 + k, none⟩ = some v := fun k v h => by
    have := hs0.cell 0 rfl k
    rw [Nat.zero_add, this]; exact h
  have hpl : Sat W w (Big pool :: _) := hs0.picks [13]
  have rL : Rd eH w b.LA b.ls := hs0.rd 1 rfl
  have rM : Rd eB w b.MA b.ms := hs0.rd 2 rfl
  have rF : Rd eH w b.FA b.fs := hs0.rd 3 rfl
  have rN : Rd eH w b.NA b.ns := hs0.rd 4 rfl
  have rS : Rd eN w b.SA b.ss := hs0.rd 5 rfl
  have rT : Rd eN w b.TA b.ts := hs0.rd 6 rfl
  have rH : Rd eH w b.HA b.hh := hs0.rd 7 rfl
  have rI : Rd eH w b.IA b.ii := hs0.rd 8 rfl
  have rJ : Rd eH w b.JA b.jj := hs0.rd 9 rfl
  have hml := ok.lm
  have hmf := ok.fs
  have hmn := ok.nt
  obtain ⟨w0, hw0⟩ : ∃ w0, w = w0 := ⟨_, rfl⟩
  rw [hw0] at hbx hpl rL rM rF rN rS rT rH rI rJ ⊢
  have hs : Sat w0 w0 [] := Sat.start w0
  have hld : ∀ {w1 : World} {L1 : List HProp}, Sat w0 w1 L1 → ∀ (k : Nat) (v : Value), b.C[k]? = some v → w1.cell? ⟨bb, 0 + k, none⟩ = some v := fun h k v e => h.base (hbx k v e)
  clear hs0 hw0
  (repeat' (first | (refine isLW ?_; first | refine LW_nil ?_ | refine LW_pure TOK rfl ?_) | (with_reducible first | refine then_n ?_ | refine CW_seq ?_ | refine CW_region ?_ | refine CW_block ?_)))
  refine CW_loop (γ := Nat) (fun i => [(0, .pointer (some ⟨bb, 0, none⟩)), (3, .int .i64 (i : Int))]) (fun i w' => Sat w0 w' [] ∧ i ≤ b.ls.length) (fun i => b.ls.length - i) 0 ⟨rfl, rfl, trivial⟩ ⟨hs, Nat.zero_le _⟩ ?_
  clear hs
  rintro i τ w ⟨hs, hi⟩
  by_cases hlt : i < b.ls.length
  case pos =>
    obtain ⟨d1, d2⟩ := ok.dl i (by omega)
    have hgb := ok.gl (rd b.hh (i : Int)) (rd_mem (by omega))
    obtain ⟨zs, rz, l1, p1⟩ := d1.rd hpl
    obtain ⟨gs, rg, l2, p2⟩ := d2.rd hpl
    (repeat' (first | (refine isLW ?_; first | refine LW_nil ?_ | (refine isLload ?_; first | refine LW_load TOK rfl rfl rfl (hld hs _ _ rfl) ?_) | (refine isLcall ?_; first | refine LW_pure TOK rfl ?_) | (refine isLbin ?_; first | (refine LW_cmp rfl (fun _ => ?_) (fun _ => ?_) <;> try (exfalso; omega))) | refine LW_pure TOK rfl ?_) | (with_reducible first | refine then_n ?_ | refine CW_seq ?_ | refine CW_region ?_ | refine CW_block ?_ | refine CW_skip ?_) | refine CW_true rfl ?_))
    refine CW_loop (γ := Nat) (fun j => [(0, .pointer (some ⟨bb, 0, none⟩)), (3, .int .i64 (i : Int)), (4, .int .i64 (j : Int))]) (fun j w' => Sat w0 w' [] ∧ j ≤ (rd b.hh (i : Int)).2.1) (fun j => (rd b.hh (i : Int)).2.1 - j) 0 ⟨rfl, rfl, rfl, trivial⟩ ⟨hs, Nat.zero_le _⟩ ?_
    clear hs
    rintro j τ w ⟨hs, hj⟩
    by_cases hjl : j < (rd b.hh (i : Int)).2.1
    · have q2 : (rd gs (j : Int)).toNat = (rd b.ms (i : Int)).toNat := by rw [p2 _ (rd_mem (by omega))]
      have q1 : j < (rd b.ls (i : Int)).2.1 → (rd zs (j : Int)).toNat = (rd b.ms (i : Int)).toNat := fun hlt2 => by rw [p1 _ (rd_mem (by omega))]
      (repeat' (first | (refine isLW ?_; first | refine LW_nil ?_ | (refine isLload ?_; first | refine LW_load TOK rfl rfl rfl (hld hs _ _ rfl) ?_ | refine LW_loadRd0 (rH.of hs) (fun _ => rfl) TOK rfl (by assumption) rfl rfl (by omega) (by omega) rfl ?_) | (refine isLcall ?_; first | refine LW_pure TOK rfl ?_) | (refine isLidx ?_; first | (refine LW_indexRd (rH.of hs) TOK rfl rfl rfl rfl rfl (by omega) (by omega) ?_; intro _ _ _)) | (refine isLbin ?_; first | refine LW_i64 rfl (by omega) (by omega) ?_ | (refine LW_cmp rfl (fun _ => ?_) (fun _ => ?_) <;> try (exfalso; omega))) | refine LW_pure TOK rfl ?_) | (refine isDP ?_; first | (refine isDnil ?_; first | refine DP_end ?_ ?_) | (refine isDg rfl ?_; first | refine DP_pass rfl rfl rfl rfl ?_) | (refine isDload rfl ?_; first | refine DP_loadB hs TOK rfl rfl (by first | exact trivial | rfl) rfl rfl rfl (hbx _ _ rfl) ?_ ?_ | refine DP_loadRd0 rH (fun _ => rfl) hs TOK rfl rfl (by first | exact trivial | rfl) rfl (by assumption) rfl rfl (by omega) (by omega) rfl ?_ ?_ | refine DP_loadRd0 rL (fun _ => rfl) hs TOK rfl rfl (by first | exact trivial | rfl) rfl (by assumption) rfl rfl (by omega) (by omega) rfl ?_ ?_ | refine DP_loadRd0 rM (fun _ => rfl) hs TOK rfl rfl (by first | exact trivial | rfl) rfl (by assumption) rfl rfl (by omega) (by omega) rfl ?_ ?_ | refine DP_loadRd0 rz (fun _ => rfl) hs TOK rfl rfl (by first | exact trivial | rfl) rfl (by assumption) rfl rfl (by omega) (by omega) rfl ?_ ?_ | refine DP_loadRd0 rg (fun _ => rfl) hs TOK rfl rfl (by first | exact trivial | rfl) rfl (by assumption) rfl rfl (by omega) (by omega) rfl ?_ ?_) | (refine isDidx rfl ?_; first | (refine DP_indexRdN (rg.of hs) TOK rfl rfl (by first | exact trivial | rfl) rfl rfl rfl rfl rfl (by omega) (by omega) (by omega) ?_; intro _ _ _) | (refine DP_indexRdN (rz.of hs) TOK rfl rfl (by first | exact trivial | rfl) rfl rfl rfl rfl rfl (by omega) (by omega) (by omega) ?_; intro _ _ _) | (refine DP_indexRd (rH.of hs) TOK rfl rfl (by first | exact trivial | rfl) rfl rfl rfl rfl rfl (by omega) (by omega) ?_; intro _ _ _) | (refine DP_indexRd (rL.of hs) TOK rfl rfl (by first | exact trivial | rfl) rfl rfl rfl rfl rfl (by omega) (by omega) ?_; intro _ _ _) | (refine DP_indexRd (rM.of hs) TOK rfl rfl (by first | exact trivial | rfl) rfl rfl rfl rfl rfl (by omega) (by omega) ?_; intro _ _ _)) | (refine isDbin rfl ?_; first | (refine DP_cmp rfl rfl (by first | exact trivial | rfl) rfl (fun _ => ?_) (fun _ => ?_) <;> try (exfalso; omega))) | refine DP_pure TOK rfl rfl (by first | exact trivial | rfl) rfl ?_) | (refine isI0 ?_; exact Inv.nil) | (refine isI1 ?_; first | refine Inv.keepB hs ?_) | (with_reducible first | refine then_n ?_ | refine CW_seq ?_ | refine CW_region ?_ | refine CW_block ?_ | refine CW_skip ?_ | refine blk_n ?_) | refine CW_true rfl ?_ | refine CW_false rfl ?_ | (refine CW_drawP (id := 7) [] [0, 1, 2, 3, 4, 5, 6, 7, 8, 9, 10, 11, 12, 13, 14, 15, 16, 17, 18, 19, 20, 21, 22, 23, 24, 25, 26, 27, 28, 29, 30, 31, 32, 33, 34, 35, 36, 37, 38, 39, 40, 41, 42, 43, 44, 45, 46, 47, 48, 49] mixed (by kernel_rfl) hs ?_; clear hs; intro hs)))
      all_goals first
        | exact ⟨j + 1, _, FR_forget _ ⟨rfl, rfl, (by push_cast; rfl), trivial⟩, ⟨hs, hjl⟩, by omega⟩
        | (exfalso; have := q1 (by omega); omega)
    · (repeat' (first | (refine isLW ?_; first | refine LW_nil ?_ | (refine isLload ?_; first | refine LW_load TOK rfl rfl rfl (hld hs _ _ rfl) ?_ | refine LW_loadRd0 (rH.of hs) (fun _ => rfl) TOK rfl (by assumption) rfl rfl (by omega) (by omega) rfl ?_) | (refine isLcall ?_; first | refine LW_pure TOK rfl ?_) | (refine isLidx ?_; first | (refine LW_indexRd (rH.of hs) TOK rfl rfl rfl rfl rfl (by omega) (by omega) ?_; intro _ _ _)) | (refine isLbin ?_; first | refine LW_i64 rfl (by omega) (by omega) ?_ | (refine LW_cmp rfl (fun _ => ?_) (fun _ => ?_) <;> try (exfalso; omega))) | refine LW_pure TOK rfl ?_) | (with_reducible first | refine then_n ?_ | refine CW_seq ?_ | refine CW_region ?_ | refine CW_exit ?_ | refine then_e ?_ | refine blk_n ?_ | refine blk_same ?_) | refine CW_false rfl ?_))
      exact ⟨i + 1, _, FR_forget _ ⟨rfl, (by push_cast; rfl), trivial⟩, ⟨hs, hlt⟩, by omega⟩

  (repeat' (first | (refine isLW ?_; first | refine LW_nil ?_ | (refine isLload ?_; first | refine LW_load TOK rfl rfl rfl (hld hs _ _ rfl) ?_) | (refine isLcall ?_; first | refine LW_pure TOK rfl ?_) | (refine isLbin ?_; first | (refine LW_cmp rfl (fun _ => ?_) (fun _ => ?_) <;> try (exfalso; omega))) | refine LW_pure TOK rfl ?_) | (with_reducible first | refine then_n ?_ | refine CW_seq ?_ | refine CW_region ?_ | refine CW_block ?_ | refine CW_exit ?_ | refine then_e ?_ | refine blk_same ?_) | refine CW_false rfl ?_))
  refine CW_loop (γ := Nat) (fun i => [(0, .pointer (some ⟨bb, 0, none⟩)), (5, .int .i64 (i : Int))]) (fun i w' => Sat w0 w' [] ∧ i ≤ b.fs.length) (fun i => b.fs.length - i) 0 ⟨rfl, rfl, trivial⟩ ⟨hs, Nat.zero_le _⟩ ?_
  clear hs
  rintro i τ w ⟨hs, hi⟩
  by_cases hlt : i < b.fs.length
  case pos =>
    obtain ⟨d1, d2⟩ := ok.df i (by omega)
    have hgb := ok.gi (rd b.ii (i : Int)) (rd_mem (by omega))
    obtain ⟨zs, rz, l1, p1⟩ := d1.rd hpl
    obtain ⟨gs, rg, l2, p2⟩ := d2.rd hpl
    (repeat' (first | (refine isLW ?_; first | refine LW_nil ?_ | (refine isLload ?_; first | refine LW_load TOK rfl rfl rfl (hld hs _ _ rfl) ?_) | (refine isLcall ?_; first | refine LW_pure TOK rfl ?_) | (refine isLbin ?_; first | (refine LW_cmp rfl (fun _ => ?_) (fun _ => ?_) <;> try (exfalso; omega))) | refine LW_pure TOK rfl ?_) | (with_reducible first | refine then_n ?_ | refine CW_seq ?_ | refine CW_region ?_ | refine CW_block ?_ | refine CW_skip ?_) | refine CW_true rfl ?_))
    refine CW_loop (γ := Nat) (fun j => [(0, .pointer (some ⟨bb, 0, none⟩)), (5, .int .i64 (i : Int)), (6, .int .i64 (j : Int))]) (fun j w' => Sat w0 w' [] ∧ j ≤ (rd b.ii (i : Int)).2.1) (fun j => (rd b.ii (i : Int)).2.1 - j) 0 ⟨rfl, rfl, rfl, trivial⟩ ⟨hs, Nat.zero_le _⟩ ?_
    clear hs
    rintro j τ w ⟨hs, hj⟩
    by_cases hjl : j < (rd b.ii (i : Int)).2.1
    · have q2 : (rd gs (j : Int)).n = rd b.ss (i : Int) := p2 _ (rd_mem (by omega))
      have q1 : j < (rd b.fs (i : Int)).2.1 → (rd zs (j : Int)).n = rd b.ss (i : Int) := fun hlt2 => p1 _ (rd_mem (by omega))
      (repeat' (first | refine DP_strNe (a := (rd gs (j : Int)).n) (b := rd b.ss (i : Int)) rfl rfl (by first | exact trivial | rfl) rfl rfl rfl rfl (fun hne => absurd q2 hne) (fun _ => ?_) | refine DP_strNe (a := (rd zs (j : Int)).n) (b := rd b.ss (i : Int)) rfl rfl (by first | exact trivial | rfl) rfl rfl rfl rfl (fun hne => absurd (q1 (by omega)) hne) (fun _ => ?_) | (refine isLW ?_; first | refine LW_nil ?_ | (refine isLload ?_; first | refine LW_load TOK rfl rfl rfl (hld hs _ _ rfl) ?_ | refine LW_loadRd0 (rI.of hs) (fun _ => rfl) TOK rfl (by assumption) rfl rfl (by omega) (by omega) rfl ?_) | (refine isLcall ?_; first | refine LW_pure TOK rfl ?_) | (refine isLidx ?_; first | (refine LW_indexRd (rI.of hs) TOK rfl rfl rfl rfl rfl (by omega) (by omega) ?_; intro _ _ _)) | (refine isLbin ?_; first | refine LW_i64 rfl (by omega) (by omega) ?_ | (refine LW_cmp rfl (fun _ => ?_) (fun _ => ?_) <;> try (exfalso; omega))) | refine LW_pure TOK rfl ?_) | (refine isDP ?_; first | (refine isDnil ?_; first | refine DP_end ?_ ?_) | (refine isDg rfl ?_; first | refine DP_pass rfl rfl rfl rfl ?_) | (refine isDload rfl ?_; first | refine DP_loadB hs TOK rfl rfl (by first | exact trivial | rfl) rfl rfl rfl (hbx _ _ rfl) ?_ ?_ | refine DP_loadRd0 rI (fun _ => rfl) hs TOK rfl rfl (by first | exact trivial | rfl) rfl (by assumption) rfl rfl (by omega) (by omega) rfl ?_ ?_ | refine DP_loadRd0 rF (fun _ => rfl) hs TOK rfl rfl (by first | exact trivial | rfl) rfl (by assumption) rfl rfl (by omega) (by omega) rfl ?_ ?_ | refine DP_loadRd0 rS (fun _ => rfl) hs TOK rfl rfl (by first | exact trivial | rfl) rfl (by assumption) rfl rfl (by omega) (by omega) rfl ?_ ?_ | refine DP_loadRd rz (fun _ => rfl) hs TOK rfl rfl (by first | exact trivial | rfl) rfl (by assumption) rfl rfl (by omega) (by omega) rfl ?_ ?_ | refine DP_loadRd rg (fun _ => rfl) hs TOK rfl rfl (by first | exact trivial | rfl) rfl (by assumption) rfl rfl (by omega) (by omega) rfl ?_ ?_) | (refine isDidx rfl ?_; first | (refine DP_indexRdN (rg.of hs) TOK rfl rfl (by first | exact trivial | rfl) rfl rfl rfl rfl rfl (by omega) (by omega) (by omega) ?_; intro _ _ _) | (refine DP_indexRdN (rz.of hs) TOK rfl rfl (by first | exact trivial | rfl) rfl rfl rfl rfl rfl (by omega) (by omega) (by omega) ?_; intro _ _ _) | (refine DP_indexRd (rI.of hs) TOK rfl rfl (by first | exact trivial | rfl) rfl rfl rfl rfl rfl (by omega) (by omega) ?_; intro _ _ _) | (refine DP_indexRd (rF.of hs) TOK rfl rfl (by first | exact trivial | rfl) rfl rfl rfl rfl rfl (by omega) (by omega) ?_; intro _ _ _) | (refine DP_indexRd (rS.of hs) TOK rfl rfl (by first | exact trivial | rfl) rfl rfl rfl rfl rfl (by omega) (by omega) ?_; intro _ _ _)) | (refine isDbin rfl ?_; first | (refine DP_cmp rfl rfl (by first | exact trivial | rfl) rfl (fun _ => ?_) (fun _ => ?_) <;> try (exfalso; omega))) | refine DP_pure TOK rfl rfl (by first | exact trivial | rfl) rfl ?_) | (refine isI0 ?_; exact Inv.nil) | (refine isI1 ?_; first | refine Inv.keepB hs ?_) | (with_reducible first | refine then_n ?_ | refine CW_seq ?_ | refine CW_region ?_ | refine CW_block ?_ | refine CW_skip ?_ | refine blk_n ?_) | refine CW_true rfl ?_ | refine CW_false rfl ?_ | (refine CW_drawP (id := 15) [] [0, 1, 2, 3, 4, 5, 6, 7, 8, 9, 10, 11, 12, 13, 14, 15, 16, 17, 18, 19, 20, 21, 22, 23, 24, 25, 26, 27, 28, 29, 30, 31, 32, 33, 34, 35, 36, 37, 38, 39, 40, 41, 42, 43, 44, 45, 46, 47, 48, 49, 50, 51] mixed (by kernel_rfl) hs ?_; clear hs; intro hs)))
      all_goals first
        | exact ⟨j + 1, _, FR_forget _ ⟨rfl, rfl, (by push_cast; rfl), trivial⟩, ⟨hs, hjl⟩, by omega⟩
        | (exfalso; have := q1 (by omega); omega)
    · (repeat' (first | (refine isLW ?_; first | refine LW_nil ?_ | (refine isLload ?_; first | refine LW_load TOK rfl rfl rfl (hld hs _ _ rfl) ?_ | refine LW_loadRd0 (rI.of hs) (fun _ => rfl) TOK rfl (by assumption) rfl rfl (by omega) (by omega) rfl ?_) | (refine isLcall ?_; first | refine LW_pure TOK rfl ?_) | (refine isLidx ?_; first | (refine LW_indexRd (rI.of hs) TOK rfl rfl rfl rfl rfl (by omega) (by omega) ?_; intro _ _ _)) | (refine isLbin ?_; first | refine LW_i64 rfl (by omega) (by omega) ?_ | (refine LW_cmp rfl (fun _ => ?_) (fun _ => ?_) <;> try (exfalso; omega))) | refine LW_pure TOK rfl ?_) | (with_reducible first | refine then_n ?_ | refine CW_seq ?_ | refine CW_region ?_ | refine CW_exit ?_ | refine then_e ?_ | refine blk_n ?_ | refine blk_same ?_) | refine CW_false rfl ?_))
      exact ⟨i + 1, _, FR_forget _ ⟨rfl, (by push_cast; rfl), trivial⟩, ⟨hs, hlt⟩, by omega⟩

  (repeat' (first | (refine isLW ?_; first | refine LW_nil ?_ | (refine isLload ?_; first | refine LW_load TOK rfl rfl rfl (hld hs _ _ rfl) ?_) | (refine isLcall ?_; first | refine LW_pure TOK rfl ?_) | (refine isLbin ?_; first | (refine LW_cmp rfl (fun _ => ?_) (fun _ => ?_) <;> try (exfalso; omega))) | refine LW_pure TOK rfl ?_) | (with_reducible first | refine then_n ?_ | refine CW_seq ?_ | refine CW_region ?_ | refine CW_block ?_ | refine CW_exit ?_ | refine then_e ?_ | refine blk_same ?_) | refine CW_false rfl ?_))
  refine CW_loop (γ := Nat) (fun i => [(0, .pointer (some ⟨bb, 0, none⟩)), (7, .int .i64 (i : Int))]) (fun i w' => Sat w0 w' [] ∧ i ≤ b.ns.length) (fun i => b.ns.length - i) 0 ⟨rfl, rfl, trivial⟩ ⟨hs, Nat.zero_le _⟩ ?_
  clear hs
  rintro i τ w ⟨hs, hi⟩
  by_cases hlt : i < b.ns.length
  case pos =>
    obtain ⟨d1, d2⟩ := ok.dn i (by omega)
    have hgb := ok.gj (rd b.jj (i : Int)) (rd_mem (by omega))
    obtain ⟨zs, rz, l1, p1⟩ := d1.rd hpl
    obtain ⟨gs, rg, l2, p2⟩ := d2.rd hpl
    (repeat' (first | (refine isLW ?_; first | refine LW_nil ?_ | (refine isLload ?_; first | refine LW_load TOK rfl rfl rfl (hld hs _ _ rfl) ?_) | (refine isLcall ?_; first | refine LW_pure TOK rfl ?_) | (refine isLbin ?_; first | (refine LW_cmp rfl (fun _ => ?_) (fun _ => ?_) <;> try (exfalso; omega))) | refine LW_pure TOK rfl ?_) | (with_reducible first | refine then_n ?_ | refine CW_seq ?_ | refine CW_region ?_ | refine CW_block ?_ | refine CW_skip ?_) | refine CW_true rfl ?_))
    refine CW_loop (γ := Nat) (fun j => [(0, .pointer (some ⟨bb, 0, none⟩)), (7, .int .i64 (i : Int)), (8, .int .i64 (j : Int))]) (fun j w' => Sat w0 w' [] ∧ j ≤ (rd b.jj (i : Int)).2.1) (fun j => (rd b.jj (i : Int)).2.1 - j) 0 ⟨rfl, rfl, rfl, trivial⟩ ⟨hs, Nat.zero_le _⟩ ?_
    clear hs
    rintro j τ w ⟨hs, hj⟩
    by_cases hjl : j < (rd b.jj (i : Int)).2.1
    · have q2 : rd gs (j : Int) = rd b.ts (i : Int) := by rw [p2 _ (rd_mem (by omega))]
      have q1 : j < (rd b.ns (i : Int)).2.1 → rd zs (j : Int) = rd b.ts (i : Int) := fun hlt2 => by rw [p1 _ (rd_mem (by omega))]
      (repeat' (first | refine DP_strNe (a := rd gs (j : Int)) (b := rd b.ts (i : Int)) rfl rfl (by first | exact trivial | rfl) rfl rfl rfl rfl (fun hne => absurd q2 hne) (fun _ => ?_) | refine DP_strNe (a := rd zs (j : Int)) (b := rd b.ts (i : Int)) rfl rfl (by first | exact trivial | rfl) rfl rfl rfl rfl (fun hne => absurd (q1 (by omega)) hne) (fun _ => ?_) | (refine isLW ?_; first | refine LW_nil ?_ | (refine isLload ?_; first | refine LW_load TOK rfl rfl rfl (hld hs _ _ rfl) ?_ | refine LW_loadRd0 (rJ.of hs) (fun _ => rfl) TOK rfl (by assumption) rfl rfl (by omega) (by omega) rfl ?_) | (refine isLcall ?_; first | refine LW_pure TOK rfl ?_) | (refine isLidx ?_; first | (refine LW_indexRd (rJ.of hs) TOK rfl rfl rfl rfl rfl (by omega) (by omega) ?_; intro _ _ _)) | (refine isLbin ?_; first | refine LW_i64 rfl (by omega) (by omega) ?_ | (refine LW_cmp rfl (fun _ => ?_) (fun _ => ?_) <;> try (exfalso; omega))) | refine LW_pure TOK rfl ?_) | (refine isDP ?_; first | (refine isDnil ?_; first | refine DP_end ?_ ?_) | (refine isDg rfl ?_; first | refine DP_pass rfl rfl rfl rfl ?_) | (refine isDload rfl ?_; first | refine DP_loadB hs TOK rfl rfl (by first | exact trivial | rfl) rfl rfl rfl (hbx _ _ rfl) ?_ ?_ | refine DP_loadRd0 rJ (fun _ => rfl) hs TOK rfl rfl (by first | exact trivial | rfl) rfl (by assumption) rfl rfl (by omega) (by omega) rfl ?_ ?_ | refine DP_loadRd0 rN (fun _ => rfl) hs TOK rfl rfl (by first | exact trivial | rfl) rfl (by assumption) rfl rfl (by omega) (by omega) rfl ?_ ?_ | refine DP_loadRd0 rT (fun _ => rfl) hs TOK rfl rfl (by first | exact trivial | rfl) rfl (by assumption) rfl rfl (by omega) (by omega) rfl ?_ ?_ | refine DP_loadRd0 rz (fun _ => rfl) hs TOK rfl rfl (by first | exact trivial | rfl) rfl (by assumption) rfl rfl (by omega) (by omega) rfl ?_ ?_ | refine DP_loadRd0 rg (fun _ => rfl) hs TOK rfl rfl (by first | exact trivial | rfl) rfl (by assumption) rfl rfl (by omega) (by omega) rfl ?_ ?_) | (refine isDidx rfl ?_; first | (refine DP_indexRdN (rg.of hs) TOK rfl rfl (by first | exact trivial | rfl) rfl rfl rfl rfl rfl (by omega) (by omega) (by omega) ?_; intro _ _ _) | (refine DP_indexRdN (rz.of hs) TOK rfl rfl (by first | exact trivial | rfl) rfl rfl rfl rfl rfl (by omega) (by omega) (by omega) ?_; intro _ _ _) | (refine DP_indexRd (rJ.of hs) TOK rfl rfl (by first | exact trivial | rfl) rfl rfl rfl rfl rfl (by omega) (by omega) ?_; intro _ _ _) | (refine DP_indexRd (rN.of hs) TOK rfl rfl (by first | exact trivial | rfl) rfl rfl rfl rfl rfl (by omega) (by omega) ?_; intro _ _ _) | (refine DP_indexRd (rT.of hs) TOK rfl rfl (by first | exact trivial | rfl) rfl rfl rfl rfl rfl (by omega) (by omega) ?_; intro _ _ _)) | (refine isDbin rfl ?_; first | (refine DP_cmp rfl rfl (by first | exact trivial | rfl) rfl (fun _ => ?_) (fun _ => ?_) <;> try (exfalso; omega))) | refine DP_pure TOK rfl rfl (by first | exact trivial | rfl) rfl ?_) | (refine isI0 ?_; exact Inv.nil) | (refine isI1 ?_; first | refine Inv.keepB hs ?_) | (with_reducible first | refine then_n ?_ | refine CW_seq ?_ | refine CW_region ?_ | refine CW_block ?_ | refine CW_skip ?_ | refine blk_n ?_) | refine CW_true rfl ?_ | refine CW_false rfl ?_ | (refine CW_drawP (id := 23) [] [0, 1, 2, 3, 4, 5, 6, 7, 8, 9, 10, 11, 12, 13, 14, 15, 16, 17, 18, 19, 20, 21, 22, 23, 24, 25, 26, 27, 28, 29, 30, 31, 32, 33, 34, 35, 36, 37, 38, 39, 40, 41, 42, 43, 44, 45, 46, 47, 48, 49] mixed (by kernel_rfl) hs ?_; clear hs; intro hs)))
      all_goals first
        | exact ⟨j + 1, _, FR_forget _ ⟨rfl, rfl, (by push_cast; rfl), trivial⟩, ⟨hs, hjl⟩, by omega⟩
        | (exfalso; have := q1 (by omega); omega)
    · (repeat' (first | (refine isLW ?_; first | refine LW_nil ?_ | (refine isLload ?_; first | refine LW_load TOK rfl rfl rfl (hld hs _ _ rfl) ?_ | refine LW_loadRd0 (rJ.of hs) (fun _ => rfl) TOK rfl (by assumption) rfl rfl (by omega) (by omega) rfl ?_) | (refine isLcall ?_; first | refine LW_pure TOK rfl ?_) | (refine isLidx ?_; first | (refine LW_indexRd (rJ.of hs) TOK rfl rfl rfl rfl rfl (by omega) (by omega) ?_; intro _ _ _)) | (refine isLbin ?_; first | refine LW_i64 rfl (by omega) (by omega) ?_ | (refine LW_cmp rfl (fun _ => ?_) (fun _ => ?_) <;> try (exfalso; omega))) | refine LW_pure TOK rfl ?_) | (with_reducible first | refine then_n ?_ | refine CW_seq ?_ | refine CW_region ?_ | refine CW_exit ?_ | refine then_e ?_ | refine blk_n ?_ | refine blk_same ?_) | refine CW_false rfl ?_))
      exact ⟨i + 1, _, FR_forget _ ⟨rfl, (by push_cast; rfl), trivial⟩, ⟨hs, hlt⟩, by omega⟩

  (repeat' (first | (refine isLW ?_; first | refine LW_nil ?_ | (refine isLload ?_; first | refine LW_load TOK rfl rfl rfl (hld hs _ _ rfl) ?_) | (refine isLcall ?_; first | refine LW_pure TOK rfl ?_) | (refine isLbin ?_; first | (refine LW_cmp rfl (fun _ => ?_) (fun _ => ?_) <;> try (exfalso; omega))) | refine LW_pure TOK rfl ?_) | (with_reducible first | refine then_n ?_ | refine CW_seq ?_ | refine CW_region ?_ | refine CW_exit ?_ | refine CW_ret ?_ | refine then_e ?_ | refine blk_same ?_) | refine CW_false rfl ?_ | refine RET1 Try.results44 rfl ?_))
  exact ⟨rfl, hs⟩
end Go.Proofs.Ytoodgenbcfdloaa
