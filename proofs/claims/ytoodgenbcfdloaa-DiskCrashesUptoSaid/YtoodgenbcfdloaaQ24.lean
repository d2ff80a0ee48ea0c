/- Two disks side by side; walks: plays. -/
import Derived.Test.YtoodgenbcfdloaaQ23
set_option linter.unusedVariables false
set_option linter.unusedSimpArgs false
namespace Go.Proofs.Ytoodgenbcfdloaa
open Go Go.Sl Go.RowKit
set_option maxRecDepth 100000
attribute [local irreducible] CW LW DW FR DP Calls

/-- A pair in the loop. -/
structure Pq where
  d : Nat
  D : DS
  k : RDk
  pool : List HProp
def Pq.Ok (p : Pq) (i : Nat) : Prop := PK p.D p.k p.pool ∧ p.D.fs.length ≤ 1048580 + i ∧ p.D.chs.length ≤ 4 + i
def eOt (o : Op) (t : Bool) : List Value := [.int .i64 o.kind, .bool t, sv o.a, sv o.b, .int .i64 o.n, .slice o.dA o.data.length o.dc, .slice o.cA o.cuts.length o.cc, .slice o.fA o.files.length o.fc]
theorem eOt_eq {o : Op} {t : Bool} (h : o.two = t) : eO o = eOt o t := by subst h; rfl
theorem eOt_ok (o : Op) (t : Bool) : ∀ u ∈ eOt o t, u.oneCell' = true := fun u h => by
  simp [eOt] at h
  rcases h with rfl | rfl | rfl | rfl | rfl | rfl | rfl | rfl <;> rfl
set_option maxHeartbeats 8000000 in
theorem plays_call (W : World) (q1 q2 lo hi : Int) (A : Option Addr) (c : Nat) (sc : List Op) (hq1 : -9223372036854775808 ≤ q1 ∧ q1 ≤ 9223372036854775807) (hq2 : -9223372036854775808 ≤ q2 ∧ q2 ≤ 9223372036854775807) (rsc : Rd eO W A sc) (hsl : sc.length ≤ 1048576) (hok : ∀ o ∈ sc, OpS W o) :
    Calls Try.prog 55 [Value.int .i64 q1, .int .i64 q2, .slice A sc.length c, .int .i64 lo, .int .i64 hi].toArray W (Ret fun v w' => v = .bool true ∧ Sat W w' []) := by
  refine Calls_of Try.func55 rfl 98 Try.ntmps55 rfl ?_
  have hs := Sat.start W
  have hf1 : ∀ {w : World} {L : List HProp}, Sat W w L → Calls Try.prog 78 [Value.int .i64 q1].toArray w (Ret (FsP W L)) := fun hs => first_call q1 hq1 hs
  have hf2 : ∀ {w : World} {L : List HProp}, Sat W w L → Calls Try.prog 78 [Value.int .i64 q2].toArray w (Ret (FsP W L)) := fun hs => first_call q2 hq2 hs
  (repeat' (first | (refine LW_alloc TOK hs rfl rfl ?_; clear hs; intro bx w hs) | (refine isLW ?_; first | refine LW_nil ?_ | (refine isLstore ?_; first | (refine LW_storeCA 0 TOK hs rfl rfl rfl rfl rfl (eQ_ok.2 (some d2) k2) rfl (Nat.le_of_ble_eq_true rfl) ?_; clear hs; intro w hs) | (refine LW_storeCA 0 TOK hs rfl rfl rfl rfl rfl (eQ_ok.2 (some d1) k1) rfl (Nat.le_of_ble_eq_true rfl) ?_; clear hs; intro w hs)) | (refine isLcall ?_; first | (refine LW_call (cap := []) rfl rfl ent78 (hf1 (L := []) hs) ?_; clear hs; rintro _ w ⟨d1, D1, k1, pool1, rfl, p1, f1, c1, hs⟩) | (refine LW_call (cap := []) rfl rfl ent78 (hf2 hs) ?_; clear hs; rintro _ w ⟨d2, D2, k2, pool2, rfl, p2, f2, c2, hs⟩)) | refine LW_pure TOK rfl ?_) | (with_reducible first | refine then_n ?_ | refine CW_seq ?_ | refine CW_region ?_ | refine CW_block ?_ | refine CW_skip ?_) | refine CW_false rfl ?_))
  rename_i bp _ _ _ _
  refine CW_loop (γ := Nat × Pq × Pq) (fun g => [(2, .slice A sc.length c), (3, .int .i64 lo), (4, .int .i64 hi), (11, .pointer (some ⟨_, 0, none⟩)), (13, .pointer (some ⟨bx, 0, none⟩)), (14, .int .i64 (g.1 : Int))])
    (fun g w' => Sat W w' [Cl bx (eQ (some g.2.2.d) g.2.2.k) 134, HD g.2.2.d g.2.2.D, Big g.2.2.pool, Cl _ (eQ (some g.2.1.d) g.2.1.k) 134, HD g.2.1.d g.2.1.D, Big g.2.1.pool] ∧ g.1 ≤ sc.length ∧ g.2.1.Ok g.1 ∧ g.2.2.Ok g.1) (fun g => sc.length - g.1) (0, ⟨d1, D1, k1, pool1⟩, ⟨d2, D2, k2, pool2⟩) ⟨rfl, rfl, rfl, rfl, rfl, rfl, trivial⟩ ⟨hs, Nat.zero_le _, ⟨p1, by omega, by omega⟩, ⟨p2, by omega, by omega⟩⟩ ?_
  clear hs
  rintro ⟨i, ⟨d1, D1, k1, pool1⟩, ⟨d2, D2, k2, pool2⟩⟩ τ w ⟨hs, h1, ⟨p1, f1, c1⟩, ⟨p2, f2, c2⟩⟩
  dsimp only at hs h1 p1 f1 c1 p2 f2 c2 ⊢
  by_cases hlt : i < sc.length
  · have hru := rd_at hlt
    have hoo := hok _ (List.getElem_mem hlt)
    obtain ⟨o, ho⟩ : ∃ o, sc[i] = o := ⟨_, rfl⟩
    rw [ho] at hru hoo
    cases htw : o.two
    · (repeat' (first | (refine LW_alloc TOK hs rfl rfl ?_; clear hs; intro bo w hs) | (refine isLW ?_; first | refine LW_nil ?_ | (refine isLg ?_; first | refine LW_take rfl ?_ | refine LW_pass rfl rfl ?_ | refine LW_passV rfl rfl rfl ?_) | (refine isLload ?_; first | refine LW_loadRdA (vs := eOt o false) (rsc.of hs) (fun _ => rfl) TOK rfl (by assumption) rfl rfl rfl (by omega) (by omega) (by rw [hru]; exact eOt_eq htw) ?_ | refine LW_loadCAE 0 (eO o) TOK hs rfl rfl rfl rfl (Nat.le_of_ble_eq_true rfl) (eOt_eq htw).symm ?_ | refine LW_loadCAE 4 (eQ (some d1) k1) TOK hs rfl rfl rfl rfl (Nat.le_of_ble_eq_true rfl) rfl ?_ | refine LW_loadC 0 TOK hs rfl rfl rfl rfl rfl ?_) | (refine isLstore ?_; first | (refine LW_storeCA 0 TOK hs rfl rfl rfl rfl rfl (eOt_ok o false) rfl (Nat.le_of_ble_eq_true rfl) ?_; clear hs; intro w hs) | (refine LW_storeCA 0 TOK hs rfl rfl rfl rfl rfl (eQ_ok.2 (some d3) k3) rfl (Nat.le_of_ble_eq_true rfl) ?_; clear hs; intro w hs)) | (refine isLcall ?_; first | (refine LW_call (cap := []) rfl rfl ent79 (step_call (w0 := W) (L0 := []) (fun w' h => ⟨_, h⟩) (hs.picks [5, 5]) p1 o hoo) ?_; clear hs; rintro _ w ⟨d3, D3, k3, pool3, rfl, g1, g2, g3, g4, g5, g6, hs⟩; replace hs := hs.picks [6]) | refine LW_pure TOK rfl ?_) | (refine isLidx ?_; first | (refine LW_indexRd (rsc.of hs) TOK rfl rfl rfl rfl rfl (by omega) (by omega) ?_; intro _ _ _)) | (refine isLbin ?_; first | refine LW_i64 rfl (by omega) (by omega) ?_ | (refine LW_cmp rfl (fun _ => ?_) (fun _ => ?_) <;> try (exfalso; omega))) | refine LW_pure TOK rfl ?_) | (with_reducible first | refine then_n ?_ | refine CW_seq ?_ | refine CW_region ?_ | refine CW_block ?_ | refine CW_skip ?_ | refine CW_exit ?_ | refine then_e ?_ | refine blk_n ?_ | refine blk_same ?_) | refine CW_true rfl ?_ | refine CW_false rfl ?_))
      all_goals first
        | exact ⟨(i + 1, ⟨d1, D1, k1, pool1⟩, ⟨d2, D2, k2, pool2⟩), _, FR_forget _ ⟨rfl, rfl, rfl, rfl, rfl, (by push_cast; rfl), trivial⟩, ⟨Sat.dropN hs 1, hlt, ⟨p1, by dsimp only; omega, by dsimp only; omega⟩, ⟨p2, by dsimp only; omega, by dsimp only; omega⟩⟩, by dsimp only; omega⟩
        | exact ⟨(i + 1, ⟨d3, D3, k3, pool3⟩, ⟨d2, D2, k2, pool2⟩), _, FR_forget _ ⟨rfl, rfl, rfl, rfl, rfl, (by push_cast; rfl), trivial⟩, ⟨Sat.keeps hs [4, 4, 4, 0, 0, 0], hlt, ⟨⟨g1, g2, g3, by dsimp only; omega, by dsimp only; omega, g6⟩, by dsimp only; omega, by dsimp only; omega⟩, ⟨p2, by dsimp only; omega, by dsimp only; omega⟩⟩, by dsimp only; omega⟩
    · (repeat' (first | (refine LW_alloc TOK hs rfl rfl ?_; clear hs; intro bo w hs) | (refine isLW ?_; first | refine LW_nil ?_ | (refine isLg ?_; first | refine LW_take rfl ?_ | refine LW_pass rfl rfl ?_ | refine LW_passV rfl rfl rfl ?_) | (refine isLload ?_; first | refine LW_loadRdA (vs := eOt o true) (rsc.of hs) (fun _ => rfl) TOK rfl (by assumption) rfl rfl rfl (by omega) (by omega) (by rw [hru]; exact eOt_eq htw) ?_ | refine LW_loadCAE 0 (eO o) TOK hs rfl rfl rfl rfl (Nat.le_of_ble_eq_true rfl) (eOt_eq htw).symm ?_ | refine LW_loadCAE 1 (eQ (some d2) k2) TOK hs rfl rfl rfl rfl (Nat.le_of_ble_eq_true rfl) rfl ?_ | refine LW_loadC 0 TOK hs rfl rfl rfl rfl rfl ?_) | (refine isLstore ?_; first | (refine LW_storeCA 0 TOK hs rfl rfl rfl rfl rfl (eOt_ok o true) rfl (Nat.le_of_ble_eq_true rfl) ?_; clear hs; intro w hs) | (refine LW_storeCA 0 TOK hs rfl rfl rfl rfl rfl (eQ_ok.2 (some d3) k3) rfl (Nat.le_of_ble_eq_true rfl) ?_; clear hs; intro w hs)) | (refine isLcall ?_; first | (refine LW_call (cap := []) rfl rfl ent79 (step_call (w0 := W) (L0 := []) (fun w' h => ⟨_, h⟩) (hs.picks [2, 2]) p2 o hoo) ?_; clear hs; rintro _ w ⟨d3, D3, k3, pool3, rfl, g1, g2, g3, g4, g5, g6, hs⟩; replace hs := hs.picks [3]) | refine LW_pure TOK rfl ?_) | (refine isLidx ?_; first | (refine LW_indexRd (rsc.of hs) TOK rfl rfl rfl rfl rfl (by omega) (by omega) ?_; intro _ _ _)) | (refine isLbin ?_; first | refine LW_i64 rfl (by omega) (by omega) ?_ | (refine LW_cmp rfl (fun _ => ?_) (fun _ => ?_) <;> try (exfalso; omega))) | refine LW_pure TOK rfl ?_) | (with_reducible first | refine then_n ?_ | refine CW_seq ?_ | refine CW_region ?_ | refine CW_block ?_ | refine CW_skip ?_ | refine CW_exit ?_ | refine then_e ?_ | refine blk_n ?_ | refine blk_same ?_) | refine CW_true rfl ?_ | refine CW_false rfl ?_))
      all_goals first
        | exact ⟨(i + 1, ⟨d1, D1, k1, pool1⟩, ⟨d2, D2, k2, pool2⟩), _, FR_forget _ ⟨rfl, rfl, rfl, rfl, rfl, (by push_cast; rfl), trivial⟩, ⟨Sat.dropN hs 1, hlt, ⟨p1, by dsimp only; omega, by dsimp only; omega⟩, ⟨p2, by dsimp only; omega, by dsimp only; omega⟩⟩, by dsimp only; omega⟩
        | exact ⟨(i + 1, ⟨d1, D1, k1, pool1⟩, ⟨d3, D3, k3, pool3⟩), _, FR_forget _ ⟨rfl, rfl, rfl, rfl, rfl, (by push_cast; rfl), trivial⟩, ⟨Sat.keeps hs [0, 0, 0, 1, 1, 1], hlt, ⟨p1, by dsimp only; omega, by dsimp only; omega⟩, ⟨⟨g1, g2, g3, by dsimp only; omega, by dsimp only; omega, g6⟩, by dsimp only; omega, by dsimp only; omega⟩⟩, by dsimp only; omega⟩
  · (repeat' (first | (refine isLW ?_; first | refine LW_nil ?_ | (refine isLcall ?_; first | refine LW_pure TOK rfl ?_) | (refine isLbin ?_; first | (refine LW_cmp rfl (fun _ => ?_) (fun _ => ?_) <;> try (exfalso; omega))) | refine LW_pure TOK rfl ?_) | (with_reducible first | refine then_n ?_ | refine CW_seq ?_ | refine CW_region ?_ | refine CW_exit ?_ | refine CW_ret ?_ | refine then_e ?_ | refine blk_same ?_) | refine CW_false rfl ?_ | refine RET1 Try.results55 rfl ?_))
    exact ⟨rfl, Sat.keeps hs []⟩
end Go.Proofs.Ytoodgenbcfdloaa
