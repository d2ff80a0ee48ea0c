/- Walks: a changing call by its number; a disk made ready. -/
import Derived.Test.YtoodgenbcfdloaaG15
set_option linter.unusedVariables false
set_option linter.unusedSimpArgs false
namespace Go.Proofs.Ytoodgenbcfdloaa
open Go Go.Sl Go.RowKit
set_option maxRecDepth 100000
attribute [local irreducible] CW LW DW FR DP Calls

set_option maxHeartbeats 1000000 in
theorem act_call (W w : World) (L : List HProp) (d : Nat) (D : DS) (o : Op) (hs : Sat W w (HD d D :: L)) (hf : Fit D) (ho : o.Ok) (hr : ∀ w', Sat W w' L → Rd eB w' o.dA o.data) :
    Calls Try.prog 34 [Value.pointer (some ⟨d, 0, none⟩), .agg (eO o).toArray].toArray w (Ret fun v w' => v = .int .i64 (D.act o.kind o.a o.b o.n o.data).1 ∧ Sat W w' (HD d (D.act o.kind o.a o.b o.n o.data).2 :: L)) := by
  refine Calls_of Try.func34 rfl 58 Try.ntmps34 rfl ?_
  unfold eO DS.act
  obtain ⟨_, _, ha, hb, hd, _⟩ := ho
  (repeat' (first | (refine isLW ?_; first | refine LW_nil ?_ | (refine isLload ?_; first | refine LW_loadC 0 TOK hs rfl rfl rfl rfl rfl ?_) | (refine isLcall ?_; first | (refine LW_call (cap := []) rfl rfl ent36 (create_call W _ _ d D o.a (hs.picks [1]) hf ha) ?_; clear hs; rintro _ w ⟨rfl, hs⟩) | (refine LW_call (cap := []) rfl rfl ent25 (append_call W _ _ d D o.a o.dA o.dc o.data (hs.picks [1]) hf ha hd (fun w' h => hr w' h.drop1)) ?_; clear hs; rintro _ w ⟨rfl, hs⟩) | (refine LW_call (cap := []) rfl rfl ent57 (sync_call W _ _ d D o.a (hs.picks [1]) hf ha) ?_; clear hs; rintro _ w ⟨rfl, hs⟩) | (refine LW_call (cap := []) rfl rfl ent71 (trunc_call W _ _ d D o.a o.n (hs.picks [1]) hf ha) ?_; clear hs; rintro _ w ⟨rfl, hs⟩) | (refine LW_call (cap := []) rfl rfl ent72 (rename_call W _ _ d D o.a o.b (hs.picks [1]) hf ha hb) ?_; clear hs; rintro _ w ⟨rfl, hs⟩) | (refine LW_call (cap := []) rfl rfl ent37 (remove_call W _ _ d D o.a (hs.picks [1]) hf ha) ?_; clear hs; rintro _ w ⟨rfl, hs⟩) | (refine LW_call (cap := []) rfl rfl ent49 (syncdir_call W _ _ d D (hs.picks [1])) ?_; clear hs; rintro _ w ⟨rfl, hs⟩) | (refine LW_call (cap := []) rfl rfl ent20 (num_call _ _) ?_; rintro _ _ ⟨rfl, rfl⟩)) | (refine isLbin ?_; first | (refine LW_cmp rfl (fun _ => ?_) (fun _ => ?_) <;> try (exfalso; omega))) | refine LW_pure TOK rfl ?_ | (refine LW_box hs rfl rfl ?_; clear hs; intro _ w hs)) | (with_reducible first | refine then_n ?_ | refine CW_seq ?_ | refine CW_region ?_ | refine CW_block ?_ | refine CW_skip ?_ | refine CW_ret ?_ | refine then_r ?_ | refine blk_n ?_ | refine blk_r ?_) | refine CW_true rfl ?_ | refine CW_false rfl ?_ | refine RET1 Try.results34 rfl ?_))
  all_goals
    replace hs := (hs.picks [1]).drop1
    first
      | (rw [if_pos (by assumption)]; exact ⟨rfl, hs⟩)
      | (rw [if_neg (by assumption), if_pos (by assumption)]; exact ⟨rfl, hs⟩)
      | (rw [if_neg (by assumption), if_neg (by assumption), if_pos (by assumption)]; exact ⟨rfl, hs⟩)
      | (rw [if_neg (by assumption), if_neg (by assumption), if_neg (by assumption), if_pos (by assumption)]; exact ⟨rfl, hs⟩)
      | (rw [if_neg (by assumption), if_neg (by assumption), if_neg (by assumption), if_neg (by assumption), if_pos (by assumption)]; exact ⟨rfl, hs⟩)
      | (rw [if_neg (by assumption), if_neg (by assumption), if_neg (by assumption), if_neg (by assumption), if_neg (by assumption), if_pos (by assumption)]; exact ⟨rfl, hs⟩)
      | (rw [if_neg (by assumption), if_neg (by assumption), if_neg (by assumption), if_neg (by assumption), if_neg (by assumption), if_neg (by assumption)]; exact ⟨rfl, hs⟩)
def zN : Nm := [122]
def d1 (q : Nat) : DS := ⟨q, [⟨[], 0⟩], [(zN, 0)], [], [⟨[], zN, some 0⟩], none, false⟩
def d2 (q : Nat) : DS := ⟨q, [⟨[7], 0⟩], [(zN, 0)], [], [⟨[], zN, some 0⟩], none, false⟩
def d3 (q : Nat) : DS := ⟨q, [⟨[7], 1⟩], [(zN, 0)], [], [⟨[], zN, some 0⟩], none, false⟩
/-- A disk with a file z of one byte, which lasts. -/
def rdyD (q : Nat) : DS := ⟨q, [⟨[7], 1⟩], [(zN, 0)], [(zN, 0)], [], none, false⟩
theorem rdy1 (q : Nat) : (newD q).create zN = (0, d1 q) := by rfl
theorem rdy2 {q : Nat} (h : 16 ≤ q) : (d1 q).append zN [7] = (0, d2 q) := by
  unfold DS.append
  have h1 : ((d1 q).find zN).1 = 0 := by rfl
  have h2 : (d1 q).free = q := by
    show ((q : Nat) : Int) - ((d1 q).taken : Int) = q
    have : (d1 q).taken = 0 := by rfl
    rw [this]; omega
  rw [if_pos h1, h2, if_neg (by simp; omega)]
  rfl
theorem rdy3 (q : Nat) : (d2 q).sync zN = (0, d3 q) := by rfl
theorem rdy4 (q : Nat) : (d3 q).syncdir = (0, rdyD q) := by rfl
theorem rdyC2 (q : Nat) : (d2 q).crash 0 [] = [] := by rfl
theorem rdyC (q : Nat) : (rdyD q).crash 0 [] = [(zN, [7])] := by rfl
theorem fit_of {D : DS} (h : Good D) (h1 : D.chs.length ≤ 1) (h2 : D.fs.length ≤ 1) : Fit D := ⟨h, by omega, by omega⟩
theorem g1 {q : Nat} (h : q ≤ 4194304) : Good (d1 q) := by
  have := (newD_good h).create zN
  rwa [rdy1] at this
theorem g2 {q : Nat} (h0 : 16 ≤ q) (h : q ≤ 4194304) : Good (d2 q) := by
  have := (g1 h).append zN [7]
  rwa [rdy2 h0] at this
theorem g3 {q : Nat} (h0 : 16 ≤ q) (h : q ≤ 4194304) : Good (d3 q) := by
  have := (g2 h0 h).sync zN
  rwa [rdy3] at this
theorem rdy_good {q : Nat} (h0 : 16 ≤ q) (h : q ≤ 4194304) : Good (rdyD q) := by
  have := (g3 h0 h).syncdir
  rwa [rdy4] at this
theorem crash_call (W w : World) (L : List HProp) (d : Nat) (D : DS) (keep : Int) (C : Option Addr) (cc : Nat) (cuts : List (Int × Int)) (hs : Sat W w (HD d D :: L)) (hf : Fit D)
    (hk1 : -9223372036854775808 ≤ keep ∧ keep ≤ 9223372036854775807) (hr : ∀ w', Sat W w' L → Rd eP w' C cuts) (hcl : cuts.length ≤ 140737488355328) :
    Calls Try.prog 23 [Value.pointer (some ⟨d, 0, none⟩), .int .i64 keep, .slice C cuts.length cc].toArray w (Ret fun v w' => ∃ A c, v = .slice A (D.crash keep cuts).length c ∧ Sat W w' (HF A c (D.crash keep cuts) :: HD d D :: L)) := by
  have hsub : ∀ i ∈ idsL (keptN D keep), i ∈ D.ids := fun i hi => by
    rcases List.mem_append.1 ((hf.good.st.kept _).sub i hi) with h1 | h1
    · exact List.mem_append_left _ h1
    · exact List.mem_append_right _ ((madeL_take _ _).subset h1)
  refine crash_callG W w L d D keep C cc cuts hs hf.good.st hf.chs hk1 hr hcl ?_ fun i hi => by have := dat_bd hf.good (hsub i hi); omega
  have h1 := (hf.good.st.kept (clamp keep 0 D.chs.length).toNat).nd
  have h2 := len_le_of_nodup h1 (l2 := List.range D.fs.length) (fun x hx => List.mem_range.2 (hf.good.idlt x (hsub x hx)))
  have h3 := hf.fs
  unfold idsL at h2
  rw [List.length_map, List.length_range] at h2
  unfold keptN
  omega
end Go.Proofs.Ytoodgenbcfdloaa

/- Walks: a disk made ready. -/
set_option linter.unusedVariables false
set_option linter.unusedSimpArgs false
namespace Go.Proofs.Ytoodgenbcfdloaa
open Go Go.Sl Go.RowKit
set_option maxRecDepth 100000
attribute [local irreducible] CW LW DW FR DP Calls

theorem one_file {rs : List RF} {n : Nm} {b : List UInt8} (h : rs.map RF.f = [(n, b)]) : ∃ r, rs = [r] ∧ r.n = n ∧ r.data = b := by
  match rs, h with
  | [r], h =>
    have : r.f = (n, b) := by simpa using h
    exact ⟨r, rfl, congrArg Prod.fst this, congrArg Prod.snd this⟩
set_option maxHeartbeats 1000000 in
theorem ready_call (W w : World) (L : List HProp) (q : Nat) (h0 : 16 ≤ q) (h1 : q ≤ 4194304) (hs : Sat W w L) :
    Calls Try.prog 15 [Value.int .i64 (q : Int)].toArray w (Ret fun v w' => ∃ d, v = .pointer (some ⟨d, 0, none⟩) ∧ Sat W w' (HD d (rdyD q) :: L)) := by
  refine Calls_of Try.func15 rfl 74 Try.ntmps15 rfl ?_
  have hz : (zN : Nm).length ≤ 140737488355328 := by decide
  have f0 : Fit (newD q) := fit_of (newD_good h1) (by simp [newD]) (by simp [newD])
  have f1 : Fit (d1 q) := fit_of (g1 h1) (by simp [d1]) (by simp [d1])
  have f2 : Fit (d2 q) := fit_of (g2 h0 h1) (by simp [d2]) (by simp [d2])
  have f3 : Fit (d3 q) := fit_of (g3 h0 h1) (by simp [d3]) (by simp [d3])
  have f4 : Fit (rdyD q) := fit_of (rdy_good h0 h1) (by simp [rdyD]) (by simp [rdyD])
  (repeat' (first | refine LW_strNe (a := r.n) (b := zN) rfl rfl rfl rfl (fun hne => absurd hrn hne) (fun _ => ?_) | (refine isLW ?_; first | refine LW_nil ?_ | (refine isLg ?_; first | refine LW_take rfl ?_ | refine LW_pass rfl rfl ?_) | (refine isLload ?_; first | refine LW_loadRd (hs.rd 1 rfl) (fun _ => rfl) TOK rfl (by assumption) rfl rfl (by omega) (by omega) rfl ?_) | (refine isLcall ?_; first | (refine LW_call (cap := []) rfl rfl ent56 (new_call W _ L q hs) ?_; clear hs; rintro _ w (⟨hq, rfl, hs⟩ | ⟨hq, d, rfl, hs⟩); rotate_left) | (refine LW_call (cap := []) rfl rfl ent20 (num_call _ _) ?_; rintro _ _ ⟨rfl, rfl⟩) | (refine LW_call (cap := []) rfl rfl ent36 (create_call W _ L d (newD q) zN hs f0 hz) ?_; clear hs; rintro _ w ⟨rfl, hs⟩; rw [rdy1] at hs ⊢) | (refine LW_call (cap := []) rfl rfl ent25 (append_call W _ _ d (d1 q) zN _ _ [7] (hs.picks [1]) f1 hz (by decide) (fun w' h => h.rdC (t := 5) 0 rfl)) ?_; clear hs; rintro _ w ⟨rfl, hs⟩; rw [rdy2 h0] at hs ⊢) | (refine LW_call (cap := []) rfl rfl ent23 (crash_call W _ _ d (d2 q) 0 none 0 [] hs f2 (by omega) (fun _ _ => Rd.nil _ _ _) (by simp)) ?_; clear hs; rintro _ w ⟨A1, c1, rfl, hs⟩; rw [rdyC2] at hs ⊢; rw [show ([] : List File).length = 0 from rfl]; replace hs := hs.picks [1]) | (refine LW_call (cap := []) rfl rfl ent57 (sync_call W _ _ d (d2 q) zN hs f2 hz) ?_; clear hs; rintro _ w ⟨rfl, hs⟩; rw [rdy3] at hs ⊢) | (refine LW_call (cap := []) rfl rfl ent49 (syncdir_call W _ _ d (d3 q) hs) ?_; clear hs; rintro _ w ⟨rfl, hs⟩; rw [rdy4] at hs ⊢) | (refine LW_call (cap := []) rfl rfl ent23 (crash_call W _ _ d (rdyD q) 0 none 0 [] hs f4 (by omega) (fun _ _ => Rd.nil _ _ _) (by simp)) ?_; clear hs; rintro _ w ⟨A2, c2, rfl, hs⟩; rw [rdyC] at hs ⊢; rw [show ([(zN, [7])] : List File).length = 1 from rfl]; obtain ⟨rs, hrs, hs⟩ := Sat.openHF hs; obtain ⟨r, rfl, hrn, hrd⟩ := one_file hrs; have hrl : ([r] : List RF).length = 1 := rfl; replace hs : Sat W w (RF.P r :: RowOf eF 30 2 A2 c2 [r] :: HD d (rdyD q) :: _) := (hs.picks [1]).big) | (refine LW_call (cap := []) rfl rfl ent27 (alike_call _ r.data [7] _ _ _ _ (hs.rd 1 rfl) (hs.rdC (t := 5) 0 rfl) (by rw [hrd]; decide)) ?_; rintro _ w2 ⟨rfl, hs2⟩; replace hs := hs.and0 hs2; clear hs2; rw [decide_eq_true hrd]) | refine LW_pure TOK rfl ?_) | (refine isLidx ?_; first | (refine LW_indexRd (hs.rd 1 rfl) TOK rfl rfl rfl rfl rfl (by omega) (by omega) ?_; intro _ _ _)) | (refine isLbin ?_; first | (refine LW_cmp rfl (fun _ => ?_) (fun _ => ?_) <;> try (exfalso; omega)) | refine LW_nileq TOK rfl ?_) | refine LW_pure TOK rfl ?_ | (refine LW_buildSlice TOK hs rfl rfl rfl rfl rfl rfl rfl ?_; clear hs; intro _ w hs)) | (with_reducible first | refine then_n ?_ | refine CW_seq ?_ | refine CW_region ?_ | refine CW_skip ?_ | refine CW_ret ?_ | refine then_r ?_) | refine CW_true rfl ?_ | refine CW_false rfl ?_ | refine RET1 Try.results15 rfl ?_))
  · exact ⟨d, rfl, Sat.dropN (hs.picks [0, 0, 0, 1, 1]) 5⟩
  · omega
end Go.Proofs.Ytoodgenbcfdloaa
