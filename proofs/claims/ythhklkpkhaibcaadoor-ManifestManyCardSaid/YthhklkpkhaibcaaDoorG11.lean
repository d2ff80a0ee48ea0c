/- Lists of files in memory; Walks: all files as they are. -/
import Derived.Test.YthhklkpkhaibcaaDoorG10
set_option linter.unusedVariables false
set_option linter.unusedSimpArgs false
namespace Go.Proofs.YthhklkpkhaibcaaDoor
open Go Go.Sl Go.RowKit
set_option maxRecDepth 100000
attribute [local irreducible] CW LW DW FR DP Calls

/-- A file in a list, as it lies. -/
structure RF where
  n : Nm
  A : Option Addr
  c : Nat
  data : List UInt8
  deriving Inhabited
def RF.f (r : RF) : File := (r.n, r.data)
def eF (r : RF) : List Value := [sv r.n, .slice r.A r.data.length r.c]
theorem eF_ok : (∀ x, (eF x).length = 2) ∧ ∀ x, ∀ u ∈ eF x, u.oneCell' = true := ⟨fun _ => rfl, fun x u h => by
  simp [eF] at h
  rcases h with rfl | rfl <;> rfl⟩
abbrev RF.P (r : RF) : HProp := RowOf eB 5 1 r.A r.c r.data
/-- A list of files of the call's own. -/
def HF (A : Option Addr) (c : Nat) (l : List File) : HProp := fun h => ∃ rs : List RF, rs.map RF.f = l ∧ sepL [RowOf eF 42 2 A c rs, Big (rs.map RF.P)] h
/-- A list of files that may be read. -/
def RdF (w : World) (A : Option Addr) (l : List File) : Prop := ∃ rs : List RF, rs.map RF.f = l ∧ Rd eF w A rs ∧ ∀ r ∈ rs, Rd eB w r.A r.data
section
variable {W w : World} {L : List HProp} {A : Option Addr} {c : Nat} {l : List File}
theorem Sat.openHF (hs : Sat W w (HF A c l :: L)) : ∃ rs : List RF, rs.map RF.f = l ∧ Sat W w (RowOf eF 42 2 A c rs :: Big (rs.map RF.P) :: L) := Sat.unpack (α := List RF) (Φ := fun rs => rs.map RF.f = l) (M := fun rs => [RowOf eF 42 2 A c rs, Big (rs.map RF.P)]) hs (fun _ h => h)
theorem Sat.closeHF {rs : List RF} (hr : rs.map RF.f = l) (hs : Sat W w (RowOf eF 42 2 A c rs :: Big (rs.map RF.P) :: L)) : Sat W w (HF A c l :: L) := Sat.pack (M := [RowOf eF 42 2 A c rs, Big (rs.map RF.P)]) hs (fun _ h => ⟨rs, hr, h⟩)
theorem bigRd {rs : List RF} (hs : Sat W w (Big (rs.map RF.P) :: L)) : ∀ r ∈ rs, Rd eB w r.A r.data := by
  intro r hr
  obtain ⟨a, b, rfl⟩ := List.append_of_mem hr
  rw [List.map_append, List.map_cons] at hs
  have h1 : Sat W w ([] ++ Big (a.map RF.P ++ RF.P r :: b.map RF.P) :: L) := hs
  exact (Sat.openBig h1).rd 0 rfl
theorem Sat.rdF (hs : Sat W w (HF A c l :: L)) : RdF w A l := by
  obtain ⟨rs, hr, hs⟩ := Sat.openHF hs
  exact ⟨rs, hr, hs.rd 0 rfl, bigRd (hs.picks [1])⟩
theorem Rd.up {α : Type} {enc : α → List Value} {xs : List α} {w' : World} (h : Rd enc w A xs) (hb : Sat w w' L) : Rd enc w' A xs := h.more hb.below
theorem RdF.up {w' : World} (h : RdF w A l) (hb : Sat w w' L) : RdF w' A l := by
  obtain ⟨rs, h1, h2, h3⟩ := h
  exact ⟨rs, h1, h2.more hb.below, fun r hr => (h3 r hr).more hb.below⟩
theorem Sat.snocP {rs : List RF} {r : RF} (hs : Sat W w (RF.P r :: Big (rs.map RF.P) :: L)) : Sat W w (Big ((rs ++ [r]).map RF.P) :: L) := by
  rw [List.map_append]
  have h1 : Sat W w (RF.P r :: ([] ++ Big (rs.map RF.P ++ []) :: L)) := by rw [List.append_nil]; exact hs
  exact Sat.closeBig h1
end
theorem filesOf_next (fs : List Fl) (l : Names) {i : Nat} (hi : i < l.length) : filesOf fs (l.take (i + 1)) = filesOf fs (l.take i) ++ [((l[i]).1, (fs.getD (l[i]).2 default).data)] := by
  unfold filesOf
  rw [List.take_add_one, List.getElem?_eq_getElem hi, List.map_append]
  rfl
theorem rd_names {S : Names} {i : Nat} (hi : i < S.length) : rd (S.map (·.1)) (i : Int) = (S[i]).1 := by
  unfold rd
  simp [List.getD, hi]
theorem dat_bd {D : DS} (h : Good D) {i : Nat} (hi : i ∈ D.ids) : (D.dat i).length ≤ 4194304 := by
  have := dat_le h hi
  have := h.room
  have := h.quota
  omega
set_option maxHeartbeats 1000000 in
/-- What a disk's bytes are bounded by, file for file. -/
theorem files_callG (W w : World) (L : List HProp) (d : Nat) (D : DS) (hs : Sat W w (HD d D :: L)) (hst : St D) (hnl : D.now.length ≤ 2199023255552) (hdl : ∀ i ∈ idsL D.now, (D.dat i).length ≤ 140737488355328) :
    Calls Tryd.prog 19 [Value.pointer (some ⟨d, 0, none⟩)].toArray w (Ret fun v w' => ∃ A c, v = .slice A D.files.length c ∧ Sat W w' (HF A c D.files :: HD d D :: L)) := by
  refine Calls_of Tryd.func19 rfl 33 Tryd.ntmps19 rfl ?_
  obtain ⟨R, ho, hs⟩ := Sat.openD hs
  have hel := ho.mN.perm.length_eq
  rw [List.length_map] at hel
  have hml : (D.now.map (·.1)).length = D.now.length := List.length_map _
  (repeat' (first | (refine isLW ?_; first | refine LW_nil ?_ | (refine isLload ?_; first | refine LW_loadC 0 TOK hs rfl rfl rfl rfl rfl ?_) | (refine isLcall ?_; first | (refine LW_call (cap := []) rfl rfl ent36 (rising_call W _ _ R.EN R.bs R.ckN D.now R.bN ho.mN (by omega) (hs.picks [1])) ?_; clear hs; rintro _ w ⟨A1, c1, rfl, hs⟩) | refine LW_pure TOK rfl ?_) | refine LW_pure TOK rfl ?_) | (with_reducible first | refine then_n ?_ | refine CW_seq ?_ | refine CW_region ?_ | refine CW_block ?_)))
  replace hs := ((hs.picks [2, 1, 1, 1, 1]).nilRow 42 2)
  replace hs : Sat W w (RowOf eF 42 2 none 0 ([] : List RF) :: Big (([] : List RF).map RF.P) :: (R.L d D ++ (RowOf eN 9 1 A1 c1 (D.now.map (·.1)) :: L))) := (Sat.mkBig (l := []) hs).picks [1]
  refine CW_loop (γ := Nat × Option Addr × Nat × List RF) (fun g => [(0, .pointer (some ⟨d, 0, none⟩)), (3, .slice g.2.1 g.2.2.2.length g.2.2.1), (10, .slice A1 (D.now.map (·.1)).length c1), (11, .int .i64 ((D.now.map (·.1)).length : Int)), (12, .int .i64 (g.1 : Int))])
    (fun g w' => Sat W w' (RowOf eF 42 2 g.2.1 g.2.2.1 g.2.2.2 :: Big (g.2.2.2.map RF.P) :: (R.L d D ++ (RowOf eN 9 1 A1 c1 (D.now.map (·.1)) :: L))) ∧ g.1 ≤ D.now.length ∧ g.2.2.2.map RF.f = filesOf D.fs (D.now.take g.1)) (fun g => D.now.length - g.1) (0, none, 0, []) ⟨rfl, rfl, rfl, rfl, rfl, trivial⟩ ⟨hs, Nat.zero_le _, rfl⟩ ?_
  clear hs
  rintro ⟨i, A, c, rs⟩ τ w ⟨hs, hi, hrs⟩
  dsimp only at hs hi hrs ⊢
  have hrl : rs.length = i := by
    have := congrArg List.length hrs
    simpa [filesOf, Nat.min_eq_left hi] using this
  by_cases hlt : i < D.now.length
  · have hrn := rd_names hlt
    have hfd : fnd D.now (D.now[i]).1 = some (D.now[i]).2 := fnd_of_mem ho.mN.srt (List.getElem_mem hlt)
    have hid : (D.now[i]).2 ∈ idsL D.now := List.mem_map.2 ⟨_, List.getElem_mem hlt, rfl⟩
    have hnx := filesOf_next D.fs D.now hlt
    have hbd := hdl _ hid
    have hfl := hst.ltNow hid
    obtain ⟨⟨n, j⟩, hnj⟩ : ∃ p, D.now[i] = p := ⟨_, rfl⟩
    rw [hnj] at hrn hfd hid hnx hbd hfl
    dsimp only at hrn hfd hid hnx hbd hfl
    have hv : (findV (kvs R.bs R.EN) n).getD (.pointer none) = ptv R.bs j := by rw [ho.mN.find, hfd]; rfl
    (repeat' (first | refine LW_lookup keyN 3 (k := n) hs TOK rfl rfl rfl rfl rfl rfl rfl rfl hv ?_ | (refine isLW ?_; first | refine LW_nil ?_ | (refine isLload ?_; first | refine LW_loadRd0 (v := sv n) (hs.rd 7 rfl) (fun _ => rfl) TOK rfl (by assumption) rfl rfl (by omega) (by omega) (by rw [hrn]; rfl) ?_ | refine LW_loadC 2 TOK hs rfl rfl rfl rfl rfl ?_) | (refine isLidx ?_; first | (refine LW_indexRd (hs.rd 7 rfl) TOK rfl rfl rfl rfl rfl (by omega) (by omega) ?_; intro _ _ _)) | (refine isLbin ?_; first | (refine LW_cmp rfl (fun _ => ?_) (fun _ => ?_) <;> try (exfalso; omega))) | refine LW_pure TOK rfl ?_) | (with_reducible first | refine then_n ?_ | refine CW_seq ?_ | refine CW_region ?_ | refine CW_block ?_ | refine CW_skip ?_) | refine CW_true rfl ?_))
    obtain ⟨f, l1, l2, hF, hl1, hff, hg, hs⟩ := Sat.openF (L := _ :: _ :: _ :: L) (hs.picks [2, 2, 2, 2, 2]) ho hfl
    have hfd2 : f.f.data = (D.fs.getD j default).data := by rw [hff]; rfl
    have hbd2 : f.f.data.length ≤ 140737488355328 := by rw [hfd2]; exact hbd
    simp only [ptv, hg]
    (repeat' (first | (refine isLW ?_; first | refine LW_nil ?_ | (refine isLload ?_; first | refine LW_loadC 0 TOK hs rfl rfl rfl rfl rfl ?_) | (refine isLcall ?_; first | (refine LW_call (cap := []) rfl rfl ent30 (CloneB_call w f.f.data f.A f.c (hs.rd 1 rfl) hbd2) ?_; rintro _ w ⟨A2, c2, rfl, hs2⟩; replace hs := hs.and1 hs2; clear hs2) | (refine LW_append1 8 eF_ok (z := ⟨n, A2, c2, f.f.data⟩) hs TOK rfl rfl rfl rfl rfl rfl rfl rfl rfl rfl (by unfold maxLen; omega) (by simp only []; omega) ?_; clear hs; intro A3 c3 w hs)) | (refine isLbin ?_; first | refine LW_i64 rfl (by omega) (by omega) ?_) | refine LW_pure TOK rfl ?_ | (refine LW_buildSlice TOK hs rfl rfl rfl rfl rfl rfl rfl ?_; clear hs; intro _ w hs) | refine LW_build TOK rfl rfl rfl rfl rfl rfl ?_) | (with_reducible first | refine then_n ?_ | refine CW_region ?_ | refine blk_n ?_)))
    have h6 := Sat.shutF hF (L := _ :: _ :: _ :: _ :: L) (hs.picks [1, 1, 1, 1, 1, 1, 1])
    have h7 := (Sat.snocP (r := ⟨n, A2, c2, f.f.data⟩) (h6.picks [5, 6])).picks [6]
    refine ⟨(i + 1, A3, c3, rs ++ [(⟨n, A2, c2, f.f.data⟩ : RF)]), _, FR_forget _ ⟨rfl, rfl, rfl, rfl, rfl, trivial⟩, ⟨h7, hlt, ?_⟩, by dsimp only; omega⟩
    dsimp only
    rw [hnx, List.map_append, hrs, ← hfd2]
    rfl
  · (repeat' (first | (refine isLW ?_; first | refine LW_nil ?_ | (refine isLbin ?_; first | (refine LW_cmp rfl (fun _ => ?_) (fun _ => ?_) <;> try (exfalso; omega))) | refine LW_pure TOK rfl ?_) | (with_reducible first | refine then_n ?_ | refine CW_seq ?_ | refine CW_region ?_ | refine CW_exit ?_ | refine CW_ret ?_ | refine then_e ?_ | refine blk_same ?_) | refine CW_false rfl ?_ | refine RET1 Tryd.results19 rfl ?_))
    have h9 : filesOf D.fs (D.now.take i) = D.files := by rw [List.take_of_length_le (by omega)]; rfl
    rw [h9] at hrs
    have hl2 : rs.length = D.files.length := by rw [← hrs, List.length_map]
    refine ⟨A, c, by rw [hl2], ?_⟩
    have h7 := (Sat.closeHF hrs hs).picks [1, 1, 1, 1, 1]
    have h8 := Sat.closeD ho (L := _ :: _ :: L) h7
    exact ((h8.picks [2]).drop1).picks [1]
theorem files_call (W w : World) (L : List HProp) (d : Nat) (D : DS) (hs : Sat W w (HD d D :: L)) (hf : Fit D) :
    Calls Tryd.prog 19 [Value.pointer (some ⟨d, 0, none⟩)].toArray w (Ret fun v w' => ∃ A c, v = .slice A D.files.length c ∧ Sat W w' (HF A c D.files :: HD d D :: L)) :=
  files_callG W w L d D hs hf.good.st (now_len hf) fun i hi => by have := dat_bd hf.good (hf.good.subNow hi); omega
end Go.Proofs.YthhklkpkhaibcaaDoor
