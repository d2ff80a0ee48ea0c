/- A disk in memory, and what it stands for. -/
import Derived.Test.YthhklkpkhaibcaaDoorG3
import Derived.Test.YthhklkpkhaibcaaDoorP4
set_option linter.unusedVariables false
set_option linter.unusedSimpArgs false
namespace Go.Proofs.YthhklkpkhaibcaaDoor
open Go Go.Sl Go.RowKit
set_option maxRecDepth 100000
structure Fm where
  b : Nat
  A : Option Addr
  c : Nat
  f : Fl
def Fm.L (x : Fm) : HProp := Big [Cl x.b [.slice x.A x.f.data.length x.c, .int .i64 (x.f.syn : Int)] 71, RowOf eB 5 1 x.A x.c x.f.data]
structure Rp where
  bN : Nat
  ckN : Nat
  EN : List Ent'
  bL : Nat
  ckL : Nat
  EL : List Ent'
  A : Option Addr
  c : Nat
  F : List Fm
  lf : Int
def ptm (bs : List Nat) : Option Nat → Value
  | none => .pointer none
  | some i => ptv bs i
def eC (bs : List Nat) (c : Chg) : List Value := [sv c.a, sv c.b, ptm bs c.made]
theorem eC_ok (bs : List Nat) : (∀ x, (eC bs x).length = 3) ∧ ∀ x, ∀ u ∈ eC bs x, u.oneCell' = true := ⟨fun _ => rfl, fun x u h => by
  simp [eC] at h
  rcases h with rfl | rfl | rfl
  · rfl
  · rfl
  · cases x.made <;> rfl⟩
abbrev Rp.wlf (R : Rp) (lf : Int) : Rp := { R with lf := lf }
abbrev Rp.wN (R : Rp) (lf : Int) (E : List Ent') (ck : Nat) (A : Option Addr) (c : Nat) : Rp := { R with lf := lf, EN := E, ckN := ck, A := A, c := c }
def Rp.bs (R : Rp) : List Nat := R.F.map (·.b)
abbrev dCells (R : Rp) (D : DS) : List Value := [.int .i64 (D.quota : Int), .map (some R.bN), .map (some R.bL), .slice R.A D.chs.length R.c, .bool D.left.isSome, .int .i64 R.lf, .bool D.down]
abbrev Rp.L (R : Rp) (d : Nat) (D : DS) : List HProp := [Cl d (dCells R D) 69, Mp keyN R.bN (kvs R.bs R.EN) R.ckN, Mp keyN R.bL (kvs R.bs R.EL) R.ckL, RowOf (eC R.bs) 80 3 R.A R.c D.chs, Big (R.F.map Fm.L)]
structure Rp.Of (R : Rp) (D : DS) : Prop where
  mN : MapOf R.EN R.ckN D.now
  mL : MapOf R.EL R.ckL D.las
  fs : R.F.map (·.f) = D.fs
  lf : ∀ k, D.left = some k → R.lf = (k : Int)
  lb : -9223372036854775808 ≤ R.lf ∧ R.lf ≤ 9223372036854775807
/-- A disk, as one word. -/
def HD (d : Nat) (D : DS) : HProp := fun h => ∃ R : Rp, R.Of D ∧ sepL (R.L d D) h
section
variable {W w : World} {L : List HProp} {R : Rp} {d : Nat} {D : DS}
theorem Sat.openD (hs : Sat W w (HD d D :: L)) : ∃ R : Rp, R.Of D ∧ Sat W w (R.L d D ++ L) := Sat.unpack (α := Rp) (Φ := fun R => R.Of D) (M := fun R => R.L d D) hs (fun _ h => h)
theorem Sat.closeD (ho : R.Of D) (hs : Sat W w (R.L d D ++ L)) : Sat W w (HD d D :: L) := Sat.pack (M := R.L d D) hs (fun _ h => ⟨R, ho, h⟩)
theorem Rp.Of.len (ho : R.Of D) : R.F.length = D.fs.length := by rw [← ho.fs, List.length_map]
theorem Rp.bsLen (R : Rp) : R.bs.length = R.F.length := by simp [Rp.bs]
theorem bs_get {F : List Fm} {i : Nat} {x : Fm} (h : F[i]? = some x) : (F.map (·.b)).getD i 0 = x.b := by simp [List.getD, h]
/-- A file is laid open. -/
theorem Sat.openF (hs : Sat W w (R.L d D ++ L)) (ho : R.Of D) {i : Nat} (hi : i < D.fs.length) :
    ∃ (x : Fm) (l1 l2 : List Fm), R.F = l1 ++ x :: l2 ∧ l1.length = i ∧ x.f = D.fl i ∧ R.bs.getD i 0 = x.b ∧
      Sat W w (Cl x.b [.slice x.A x.f.data.length x.c, .int .i64 (x.f.syn : Int)] 71 :: RowOf eB 5 1 x.A x.c x.f.data :: Cl d (dCells R D) 69 :: Mp keyN R.bN (kvs R.bs R.EN) R.ckN :: Mp keyN R.bL (kvs R.bs R.EL) R.ckL :: RowOf (eC R.bs) 80 3 R.A R.c D.chs :: Big (l1.map Fm.L ++ l2.map Fm.L) :: L) := by
  have hlt : i < R.F.length := by rw [ho.len]; exact hi
  have hg : R.F[i]? = some R.F[i] := List.getElem?_eq_getElem hlt
  refine ⟨R.F[i], R.F.take i, R.F.drop (i + 1), ?_, by simp; omega, ?_, bs_get hg, ?_⟩
  · have := List.take_append_drop i R.F
    rw [List.drop_eq_getElem_cons hlt] at this
    exact this.symm
  · unfold DS.fl
    rw [← ho.fs]
    simp [List.getD, hlt]
  · have e : R.F.map Fm.L = (R.F.take i).map Fm.L ++ R.F[i].L :: (R.F.drop (i + 1)).map Fm.L := by
      have h1 : R.F = R.F.take i ++ R.F[i] :: R.F.drop (i + 1) := by
        have := List.take_append_drop i R.F
        rw [List.drop_eq_getElem_cons hlt] at this
        exact this.symm
      have h2 := congrArg (List.map Fm.L) h1
      rwa [List.map_append, List.map_cons] at h2
    have hs' : Sat W w ([Cl d (dCells R D) 69, Mp keyN R.bN (kvs R.bs R.EN) R.ckN, Mp keyN R.bL (kvs R.bs R.EL) R.ckL, RowOf (eC R.bs) 80 3 R.A R.c D.chs] ++ Big ((R.F.take i).map Fm.L ++ R.F[i].L :: (R.F.drop (i + 1)).map Fm.L) :: L) := by
      rw [← e]; exact hs
    exact (Sat.openBig hs').big
/-- .. and laid shut, turned perhaps. -/
theorem Sat.closeF {x x' : Fm} {l1 l2 : List Fm} (ho : R.Of D) (hF : R.F = l1 ++ x :: l2) (hb : x'.b = x.b)
    (hs : Sat W w (Cl x'.b [.slice x'.A x'.f.data.length x'.c, .int .i64 (x'.f.syn : Int)] 71 :: RowOf eB 5 1 x'.A x'.c x'.f.data :: Cl d (dCells R D) 69 :: Mp keyN R.bN (kvs R.bs R.EN) R.ckN :: Mp keyN R.bL (kvs R.bs R.EL) R.ckL :: RowOf (eC R.bs) 80 3 R.A R.c D.chs :: Big (l1.map Fm.L ++ l2.map Fm.L) :: L)) :
    Rp.Of { R with F := l1 ++ x' :: l2 } (D.setF l1.length x'.f) ∧ Sat W w (Rp.L { R with F := l1 ++ x' :: l2 } d (D.setF l1.length x'.f) ++ L) := by
  refine ⟨⟨ho.mN, ho.mL, ?_, ho.lf, ho.lb⟩, ?_⟩
  · show (l1 ++ x' :: l2).map (·.f) = D.fs.set l1.length x'.f
    rw [← ho.fs, hF]
    have e : l1.length = (l1.map (·.f)).length := by simp
    rw [List.map_append, List.map_cons, List.map_append, List.map_cons, e, List.set_append_right _ _ (Nat.le_refl _), Nat.sub_self]
    rfl
  · have e0 : Rp.bs { R with F := l1 ++ x' :: l2 } = R.bs := by simp [Rp.bs, hF, hb]
    have h1 : Sat W w (x'.L :: ([Cl d (dCells R D) 69, Mp keyN R.bN (kvs R.bs R.EN) R.ckN, Mp keyN R.bL (kvs R.bs R.EL) R.ckL, RowOf (eC R.bs) 80 3 R.A R.c D.chs] ++ Big (l1.map Fm.L ++ l2.map Fm.L) :: L)) := Sat.mkBig (l := [_, _]) hs
    have h2 := Sat.closeBig h1
    unfold Rp.L
    rw [e0]
    show Sat W w ([Cl d (dCells R D) 69, Mp keyN R.bN (kvs R.bs R.EN) R.ckN, Mp keyN R.bL (kvs R.bs R.EL) R.ckL, RowOf (eC R.bs) 80 3 R.A R.c D.chs] ++ Big ((l1 ++ x' :: l2).map Fm.L) :: L)
    rw [List.map_append, List.map_cons]
    exact h2
/-- .. and laid shut as it was. -/
theorem Sat.shutF {x : Fm} {l1 l2 : List Fm} (hF : R.F = l1 ++ x :: l2)
    (hs : Sat W w (Cl x.b [.slice x.A x.f.data.length x.c, .int .i64 (x.f.syn : Int)] 71 :: RowOf eB 5 1 x.A x.c x.f.data :: Cl d (dCells R D) 69 :: Mp keyN R.bN (kvs R.bs R.EN) R.ckN :: Mp keyN R.bL (kvs R.bs R.EL) R.ckL :: RowOf (eC R.bs) 80 3 R.A R.c D.chs :: Big (l1.map Fm.L ++ l2.map Fm.L) :: L)) :
    Sat W w (R.L d D ++ L) := by
  have h1 : Sat W w (x.L :: ([Cl d (dCells R D) 69, Mp keyN R.bN (kvs R.bs R.EN) R.ckN, Mp keyN R.bL (kvs R.bs R.EL) R.ckL, RowOf (eC R.bs) 80 3 R.A R.c D.chs] ++ Big (l1.map Fm.L ++ l2.map Fm.L) :: L)) := Sat.mkBig (l := [_, _]) hs
  have h2 := Sat.closeBig h1
  show Sat W w ([Cl d (dCells R D) 69, Mp keyN R.bN (kvs R.bs R.EN) R.ckN, Mp keyN R.bL (kvs R.bs R.EL) R.ckL, RowOf (eC R.bs) 80 3 R.A R.c D.chs] ++ Big (R.F.map Fm.L) :: L)
  rw [hF, List.map_append, List.map_cons]
  exact h2
/-- All numbers that a disk names are numbers of files. -/
structure Bd (D : DS) : Prop where
  now : ∀ i ∈ idsL D.now, i < D.fs.length
  las : ∀ i ∈ idsL D.las, i < D.fs.length
  chs : ∀ c ∈ D.chs, ∀ i, c.made = some i → i < D.fs.length
theorem St.bd (h : St D) : Bd D := ⟨fun i hi => h.ltNow hi, fun i hi => h.idlt i (List.mem_append_left _ hi), fun c hc i hi => h.idlt i (List.mem_append_right _ (List.mem_filterMap.2 ⟨c, hc, hi⟩))⟩
theorem kvs_more' {E : List Ent'} {ck : Nat} {S : Names} {bs : List Nat} {b : Nat} (hm : MapOf E ck S) (h : ∀ i ∈ idsL S, i < bs.length) : kvs (bs ++ [b]) E = kvs bs E :=
  kvs_more fun x hx => h x.2.1 (List.mem_map.2 ⟨_, hm.mem hx, rfl⟩)
theorem eC_more {bs : List Nat} {b : Nat} {cs : List Chg} (h : ∀ c ∈ cs, ∀ i, c.made = some i → i < bs.length) : cs.flatMap (eC (bs ++ [b])) = cs.flatMap (eC bs) := by
  rw [List.flatMap_def, List.flatMap_def]
  congr 1
  apply List.map_congr_left
  intro c hc
  unfold eC
  cases e : c.made with
  | none => rfl
  | some i => simp only [ptm, ptv, getD_app (h c hc i e)]
theorem L_more (ho : R.Of D) (hb : Bd D) (x : Fm) : Rp.L { R with F := R.F ++ [x] } d { D with fs := D.fs ++ [x.f] } = [Cl d (dCells R D) 69, Mp keyN R.bN (kvs R.bs R.EN) R.ckN, Mp keyN R.bL (kvs R.bs R.EL) R.ckL, RowOf (eC R.bs) 80 3 R.A R.c D.chs, Big (R.F.map Fm.L ++ [x.L])] := by
  have hl : D.fs.length = R.bs.length := by rw [R.bsLen, ho.len]
  have e0 : Rp.bs { R with F := R.F ++ [x] } = R.bs ++ [x.b] := by simp [Rp.bs]
  unfold Rp.L RowOf
  rw [e0]
  dsimp only
  rw [kvs_more' ho.mN (fun i hi => hl ▸ hb.now i hi), kvs_more' ho.mL (fun i hi => hl ▸ hb.las i hi), eC_more (fun c hc i hi => hl ▸ hb.chs c hc i hi), List.map_append]
  rfl
theorem Sat.addF (ho : R.Of D) (hb : Bd D) {x : Fm} (hs : Sat W w (x.L :: (R.L d D ++ L))) : Rp.Of { R with F := R.F ++ [x] } { D with fs := D.fs ++ [x.f] } ∧ Sat W w (Rp.L { R with F := R.F ++ [x] } d { D with fs := D.fs ++ [x.f] } ++ L) := by
  refine ⟨⟨ho.mN, ho.mL, by simp [ho.fs], ho.lf, ho.lb⟩, ?_⟩
  rw [L_more ho hb x]
  have h1 : Sat W w (x.L :: ([Cl d (dCells R D) 69, Mp keyN R.bN (kvs R.bs R.EN) R.ckN, Mp keyN R.bL (kvs R.bs R.EL) R.ckL, RowOf (eC R.bs) 80 3 R.A R.c D.chs] ++ Big (R.F.map Fm.L ++ []) :: L)) := by rw [List.append_nil]; exact hs
  exact Sat.closeBig h1
theorem Sat.dropF (ho : R.Of D) (hb : Bd D) {x : Fm} (hs : Sat W w (Rp.L { R with F := R.F ++ [x] } d { D with fs := D.fs ++ [x.f] } ++ L)) : Sat W w (R.L d D ++ L) := by
  rw [L_more ho hb x] at hs
  have h1 : Sat W w ([Cl d (dCells R D) 69, Mp keyN R.bN (kvs R.bs R.EN) R.ckN, Mp keyN R.bL (kvs R.bs R.EL) R.ckL, RowOf (eC R.bs) 80 3 R.A R.c D.chs] ++ Big (R.F.map Fm.L ++ x.L :: []) :: L) := hs
  have h2 := (Sat.openBig h1).drop1
  rw [List.append_nil] at h2
  exact h2
end
end Go.Proofs.YthhklkpkhaibcaaDoor
