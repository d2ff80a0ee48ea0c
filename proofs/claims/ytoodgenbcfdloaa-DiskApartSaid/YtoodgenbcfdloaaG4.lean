/- Plain: what a disk is as far as its parts fit; loading. -/
import Derived.Test.YtoodgenbcfdloaaP3
import Derived.Test.YtoodgenbcfdloaaG3
set_option linter.unusedVariables false
set_option linter.unusedSimpArgs false
namespace Go.Proofs.Ytoodgenbcfdloaa
structure St (D : DS) : Prop where
  srtL : Srt D.las
  ok : OkC D.las D.chs
  fold : D.now = D.chs.foldl doC D.las
  idN : D.ids.Nodup
  idlt : ∀ i ∈ D.ids, i < D.fs.length
  syn : ∀ f ∈ D.fs, f.syn ≤ f.data.length
  pathL : ∀ p ∈ D.las, pathB p.1 = true
theorem Good.st {D : DS} (h : Good D) : St D := ⟨h.srtL, h.ok, h.fold, h.idN, h.idlt, h.syn, h.pathL⟩
theorem St.kept {D : DS} (h : St D) (k : Nat) : Kept D.las (D.chs.take k) ((D.chs.take k).foldl doC D.las) :=
  fold_kept h.srtL (h.ok.take k) (h.idN.sublist ((List.Sublist.refl _).append (madeL_take _ _))) h.pathL
theorem St.keptNow {D : DS} (h : St D) : Kept D.las D.chs D.now := by
  rw [h.fold]; exact fold_kept h.srtL h.ok h.idN h.pathL
theorem St.ltNow {D : DS} (h : St D) {i : Nat} (hi : i ∈ idsL D.now) : i < D.fs.length := h.idlt i (h.keptNow.sub i hi)
theorem St.ltKept {D : DS} (h : St D) {k i : Nat} (hi : i ∈ idsL ((D.chs.take k).foldl doC D.las)) : i < D.fs.length := by
  refine h.idlt i ?_
  rcases List.mem_append.1 ((h.kept k).sub i hi) with h1 | h1
  · exact List.mem_append_left _ h1
  · exact List.mem_append_right _ ((madeL_take _ _).subset h1)
def sumLen (l : List File) : Nat := (l.map fun f => f.2.length).sum
def loadGo : List Fl → Names → List File → Int ⊕ (List Fl × Names)
  | fs, now, [] => .inr (fs, now)
  | fs, now, f :: l => if pathB f.1 = false then .inl 61 else if (fnd now f.1).isSome = true then .inl 62 else loadGo (fs ++ [⟨f.2, f.2.length⟩]) (wi now f.1 fs.length) l
structure LSt (fs : List Fl) (now : Names) (l : List File) : Prop where
  srt : Srt now
  nd : (idsL now).Nodup
  lt : ∀ i ∈ idsL now, i < fs.length
  fsE : fs = l.map fun f => ⟨f.2, f.2.length⟩
  path : ∀ p ∈ now, pathB p.1 = true
  sum : ((idsL now).map fun i => (fs.getD i default).data.length).sum = sumLen l
  look : ∀ f ∈ l, ∃ i, fnd now f.1 = some i ∧ (fs.getD i default).data = f.2
  keys : (now.map (·.1)).Perm (l.map (·.1))
theorem LSt.nil : LSt [] [] [] := ⟨List.Pairwise.nil, by simp [idsL], by simp [idsL], rfl, by simp, rfl, by simp, List.Perm.refl _⟩
theorem LSt.snoc {fs : List Fl} {now : Names} {l : List File} (h : LSt fs now l) (f : File) (hp : pathB f.1 = true) (hn : fnd now f.1 = none) :
    LSt (fs ++ [⟨f.2, f.2.length⟩]) (wi now f.1 fs.length) (l ++ [f]) := by
  have hperm : (idsL (wi now f.1 fs.length)).Perm (fs.length :: idsL now) := by
    have := ids_wi_perm now f.1 fs.length
    rwa [wo_none hn] at this
  have hsame : ((idsL now).map fun i => ((fs ++ [(⟨f.2, f.2.length⟩ : Fl)]).getD i default).data.length) = (idsL now).map fun i => (fs.getD i default).data.length :=
    List.map_congr_left fun i hi => by rw [getD_app_lt (h.lt i hi)]
  refine ⟨h.srt.mkwi _ _, ?_, ?_, by rw [h.fsE]; simp, ?_, ?_, ?_, ?_⟩
  · refine hperm.nodup_iff.2 (List.nodup_cons.2 ⟨fun hi => absurd (h.lt _ hi) (Nat.lt_irrefl _), h.nd⟩)
  · intro i hi
    rw [List.length_append, List.length_singleton]
    rcases List.mem_cons.1 (hperm.mem_iff.1 hi) with rfl | hi
    · omega
    · have := h.lt i hi; omega
  · intro p hp'
    rcases mem_wi.1 hp' with rfl | hp'
    · exact hp
    · exact h.path p hp'.1
  · rw [(hperm.map _).sum_nat, List.map_cons, List.sum_cons, hsame, h.sum]
    simp [List.getD, sumLen]; omega
  · intro g hg
    rcases List.mem_append.1 hg with hg | hg
    · obtain ⟨i, h1, h2⟩ := h.look g hg
      have hne : ¬ g.1 = f.1 := fun e => by rw [e, hn] at h1; cases h1
      refine ⟨i, by rw [fnd_wi h.srt, if_neg hne]; exact h1, ?_⟩
      rw [getD_app_lt (h.lt i (List.mem_map.2 ⟨_, fnd_mem h1, rfl⟩))]; exact h2
    · simp at hg; subst hg
      exact ⟨fs.length, by rw [fnd_wi h.srt, if_pos rfl], by simp [List.getD]⟩
  · have h1 := (wi_perm now f.1 fs.length).map (·.1)
    rw [wo_none hn] at h1
    rw [List.map_append]
    exact h1.trans ((List.Perm.cons _ h.keys).trans (List.perm_append_singleton _ _).symm)
theorem loadGo_ok : ∀ {l : List File} {fs : List Fl} {now : Names} {l0 : List File} {fs' : List Fl} {now' : Names}, LSt fs now l0 → loadGo fs now l = .inr (fs', now') → LSt fs' now' (l0 ++ l)
  | [], fs, now, l0, fs', now', h, e => by cases e; simpa using h
  | f :: l, fs, now, l0, fs', now', h, e => by
    unfold loadGo at e
    split at e
    · cases e
    split at e
    · cases e
    · rename_i h1 h2
      have := loadGo_ok (h.snoc f (by simpa using h1) (by simpa using h2)) e
      simpa using this
/-- Load, the sum of the bytes told beside. -/
def load (q : Int) (s : Int) (files : List File) : Int × DS :=
  if q < 0 ∨ 4194304 < q then (1, newD 0) else match loadGo [] [] files with
    | .inl e => (e, newD 0)
    | .inr (fs, now) => if q < s then (64, newD 0) else (0, ⟨q.toNat, fs, now, now, [], none, false⟩)
theorem LSt.st {fs : List Fl} {now : Names} {l : List File} (h : LSt fs now l) (q : Nat) : St ⟨q, fs, now, now, [], none, false⟩ :=
  ⟨h.srt, trivial, rfl, by simpa [DS.ids, madeL] using h.nd, by simpa [DS.ids, madeL] using h.lt, by rw [h.fsE]; intro f hf; obtain ⟨g, _, rfl⟩ := List.mem_map.1 hf; exact Nat.le_refl _, h.path⟩
theorem LSt.good {fs : List Fl} {now : Names} {l : List File} (h : LSt fs now l) {q : Nat} (hq : q ≤ 4194304) (hs : sumLen l ≤ q) : Good ⟨q, fs, now, now, [], none, false⟩ := by
  have s := h.st q
  refine ⟨s.srtL, s.ok, s.fold, s.idN, s.idlt, s.syn, s.pathL, ?_, hq⟩
  rw [taken_eq]
  show ((idsL now ++ madeL []).map fun i => (fs.getD i default).data.length).sum ≤ q
  simp only [madeL, List.filterMap_nil, List.append_nil]
  rw [h.sum]; exact hs
theorem load_good {q : Int} {files : List File} (h : (load q (sumLen files) files).1 = 0) : Good (load q (sumLen files) files).2 ∧ ∃ fs now, LSt fs now files ∧ (load q (sumLen files) files).2 = ⟨q.toNat, fs, now, now, [], none, false⟩ := by
  unfold load at h ⊢
  split at h
  · cases h
  rename_i hq
  rw [if_neg hq]
  split at h
  · rename_i e he
    have : ∀ {l : List File} {fs : List Fl} {now : Names} {e : Int}, loadGo fs now l = .inl e → e = 61 ∨ e = 62 := by
      intro l
      induction l with
      | nil => intro fs now e h; cases h
      | cons f l ih =>
        intro fs now e h
        unfold loadGo at h
        split at h
        · cases h; exact .inl rfl
        split at h
        · cases h; exact .inr rfl
        · exact ih h
    rcases this he with h2 | h2 <;> rw [h2] at h <;> cases h
  · rename_i fs now he
    split at h
    · cases h
    · rename_i hs
      simp only [if_neg hs]
      have := loadGo_ok .nil he
      rw [List.nil_append] at this
      exact ⟨this.good (by omega) (by omega), fs, now, this, rfl⟩
end Go.Proofs.Ytoodgenbcfdloaa

/- A disk in memory, and what it stands for. -/
set_option linter.unusedVariables false
set_option linter.unusedSimpArgs false
namespace Go.Proofs.Ytoodgenbcfdloaa
open Go Go.Sl Go.RowKit
set_option maxRecDepth 100000
structure Fm where
  b : Nat
  A : Option Addr
  c : Nat
  f : Fl
def Fm.L (x : Fm) : HProp := Big [Cl x.b [.slice x.A x.f.data.length x.c, .int .i64 (x.f.syn : Int)] 107, RowOf eB 5 1 x.A x.c x.f.data]
structure Rp where
  bN : Nat
  ckN : Nat
  EN : List Ent'
  bL : Nat
  ckL : Nat
  EL : List Ent'
  A : Option Addr
  c : Nat
  F : List Fm
  lf : Int
def ptm (bs : List Nat) : Option Nat → Value
  | none => .pointer none
  | some i => ptv bs i
def eC (bs : List Nat) (c : Chg) : List Value := [sv c.a, sv c.b, ptm bs c.made]
theorem eC_ok (bs : List Nat) : (∀ x, (eC bs x).length = 3) ∧ ∀ x, ∀ u ∈ eC bs x, u.oneCell' = true := ⟨fun _ => rfl, fun x u h => by
  simp [eC] at h
  rcases h with rfl | rfl | rfl
  · rfl
  · rfl
  · cases x.made <;> rfl⟩
abbrev Rp.wlf (R : Rp) (lf : Int) : Rp := { R with lf := lf }
abbrev Rp.wN (R : Rp) (lf : Int) (E : List Ent') (ck : Nat) (A : Option Addr) (c : Nat) : Rp := { R with lf := lf, EN := E, ckN := ck, A := A, c := c }
def Rp.bs (R : Rp) : List Nat := R.F.map (·.b)
abbrev dCells (R : Rp) (D : DS) : List Value := [.int .i64 (D.quota : Int), .map (some R.bN), .map (some R.bL), .slice R.A D.chs.length R.c, .bool D.left.isSome, .int .i64 R.lf, .bool D.down]
abbrev Rp.L (R : Rp) (d : Nat) (D : DS) : List HProp := [Cl d (dCells R D) 105, Mp keyN R.bN (kvs R.bs R.EN) R.ckN, Mp keyN R.bL (kvs R.bs R.EL) R.ckL, RowOf (eC R.bs) 116 3 R.A R.c D.chs, Big (R.F.map Fm.L)]
structure Rp.Of (R : Rp) (D : DS) : Prop where
  mN : MapOf R.EN R.ckN D.now
  mL : MapOf R.EL R.ckL D.las
  fs : R.F.map (·.f) = D.fs
  lf : ∀ k, D.left = some k → R.lf = (k : Int)
  lb : -9223372036854775808 ≤ R.lf ∧ R.lf ≤ 9223372036854775807
/-- A disk, as one word. -/
def HD (d : Nat) (D : DS) : HProp := fun h => ∃ R : Rp, R.Of D ∧ sepL (R.L d D) h
section
variable {W w : World} {L : List HProp} {R : Rp} {d : Nat} {D : DS}
theorem Sat.openD (hs : Sat W w (HD d D :: L)) : ∃ R : Rp, R.Of D ∧ Sat W w (R.L d D ++ L) := Sat.unpack (α := Rp) (Φ := fun R => R.Of D) (M := fun R => R.L d D) hs (fun _ h => h)
theorem Sat.closeD (ho : R.Of D) (hs : Sat W w (R.L d D ++ L)) : Sat W w (HD d D :: L) := Sat.pack (M := R.L d D) hs (fun _ h => ⟨R, ho, h⟩)
theorem Rp.Of.len (ho : R.Of D) : R.F.length = D.fs.length := by rw [← ho.fs, List.length_map]
theorem Rp.bsLen (R : Rp) : R.bs.length = R.F.length := by simp [Rp.bs]
theorem bs_get {F : List Fm} {i : Nat} {x : Fm} (h : F[i]? = some x) : (F.map (·.b)).getD i 0 = x.b := by simp [List.getD, h]
/-- A file is laid open. -/
theorem Sat.openF (hs : Sat W w (R.L d D ++ L)) (ho : R.Of D) {i : Nat} (hi : i < D.fs.length) :
    ∃ (x : Fm) (l1 l2 : List Fm), R.F = l1 ++ x :: l2 ∧ l1.length = i ∧ x.f = D.fl i ∧ R.bs.getD i 0 = x.b ∧
      Sat W w (Cl x.b [.slice x.A x.f.data.length x.c, .int .i64 (x.f.syn : Int)] 107 :: RowOf eB 5 1 x.A x.c x.f.data :: Cl d (dCells R D) 105 :: Mp keyN R.bN (kvs R.bs R.EN) R.ckN :: Mp keyN R.bL (kvs R.bs R.EL) R.ckL :: RowOf (eC R.bs) 116 3 R.A R.c D.chs :: Big (l1.map Fm.L ++ l2.map Fm.L) :: L) := by
  have hlt : i < R.F.length := by rw [ho.len]; exact hi
  have hg : R.F[i]? = some R.F[i] := List.getElem?_eq_getElem hlt
  refine ⟨R.F[i], R.F.take i, R.F.drop (i + 1), ?_, by simp; omega, ?_, bs_get hg, ?_⟩
  · have := List.take_append_drop i R.F
    rw [List.drop_eq_getElem_cons hlt] at this
    exact this.symm
  · unfold DS.fl
    rw [← ho.fs]
    simp [List.getD, hlt]
  · have e : R.F.map Fm.L = (R.F.take i).map Fm.L ++ R.F[i].L :: (R.F.drop (i + 1)).map Fm.L := by
      have h1 : R.F = R.F.take i ++ R.F[i] :: R.F.drop (i + 1) := by
        have := List.take_append_drop i R.F
        rw [List.drop_eq_getElem_cons hlt] at this
        exact this.symm
      have h2 := congrArg (List.map Fm.L) h1
      rwa [List.map_append, List.map_cons] at h2
    have hs' : Sat W w ([Cl d (dCells R D) 105, Mp keyN R.bN (kvs R.bs R.EN) R.ckN, Mp keyN R.bL (kvs R.bs R.EL) R.ckL, RowOf (eC R.bs) 116 3 R.A R.c D.chs] ++ Big ((R.F.take i).map Fm.L ++ R.F[i].L :: (R.F.drop (i + 1)).map Fm.L) :: L) := by
      rw [← e]; exact hs
    exact (Sat.openBig hs').big
/-- .. and laid shut, turned perhaps. -/
theorem Sat.closeF {x x' : Fm} {l1 l2 : List Fm} (ho : R.Of D) (hF : R.F = l1 ++ x :: l2) (hb : x'.b = x.b)
    (hs : Sat W w (Cl x'.b [.slice x'.A x'.f.data.length x'.c, .int .i64 (x'.f.syn : Int)] 107 :: RowOf eB 5 1 x'.A x'.c x'.f.data :: Cl d (dCells R D) 105 :: Mp keyN R.bN (kvs R.bs R.EN) R.ckN :: Mp keyN R.bL (kvs R.bs R.EL) R.ckL :: RowOf (eC R.bs) 116 3 R.A R.c D.chs :: Big (l1.map Fm.L ++ l2.map Fm.L) :: L)) :
    Rp.Of { R with F := l1 ++ x' :: l2 } (D.setF l1.length x'.f) ∧ Sat W w (Rp.L { R with F := l1 ++ x' :: l2 } d (D.setF l1.length x'.f) ++ L) := by
  refine ⟨⟨ho.mN, ho.mL, ?_, ho.lf, ho.lb⟩, ?_⟩
  · show (l1 ++ x' :: l2).map (·.f) = D.fs.set l1.length x'.f
    rw [← ho.fs, hF]
    have e : l1.length = (l1.map (·.f)).length := by simp
    rw [List.map_append, List.map_cons, List.map_append, List.map_cons, e, List.set_append_right _ _ (Nat.le_refl _), Nat.sub_self]
    rfl
  · have e0 : Rp.bs { R with F := l1 ++ x' :: l2 } = R.bs := by simp [Rp.bs, hF, hb]
    have h1 : Sat W w (x'.L :: ([Cl d (dCells R D) 105, Mp keyN R.bN (kvs R.bs R.EN) R.ckN, Mp keyN R.bL (kvs R.bs R.EL) R.ckL, RowOf (eC R.bs) 116 3 R.A R.c D.chs] ++ Big (l1.map Fm.L ++ l2.map Fm.L) :: L)) := Sat.mkBig (l := [_, _]) hs
    have h2 := Sat.closeBig h1
    unfold Rp.L
    rw [e0]
    show Sat W w ([Cl d (dCells R D) 105, Mp keyN R.bN (kvs R.bs R.EN) R.ckN, Mp keyN R.bL (kvs R.bs R.EL) R.ckL, RowOf (eC R.bs) 116 3 R.A R.c D.chs] ++ Big ((l1 ++ x' :: l2).map Fm.L) :: L)
    rw [List.map_append, List.map_cons]
    exact h2
/-- .. and laid shut as it was. -/
theorem Sat.shutF {x : Fm} {l1 l2 : List Fm} (hF : R.F = l1 ++ x :: l2)
    (hs : Sat W w (Cl x.b [.slice x.A x.f.data.length x.c, .int .i64 (x.f.syn : Int)] 107 :: RowOf eB 5 1 x.A x.c x.f.data :: Cl d (dCells R D) 105 :: Mp keyN R.bN (kvs R.bs R.EN) R.ckN :: Mp keyN R.bL (kvs R.bs R.EL) R.ckL :: RowOf (eC R.bs) 116 3 R.A R.c D.chs :: Big (l1.map Fm.L ++ l2.map Fm.L) :: L)) :
    Sat W w (R.L d D ++ L) := by
  have h1 : Sat W w (x.L :: ([Cl d (dCells R D) 105, Mp keyN R.bN (kvs R.bs R.EN) R.ckN, Mp keyN R.bL (kvs R.bs R.EL) R.ckL, RowOf (eC R.bs) 116 3 R.A R.c D.chs] ++ Big (l1.map Fm.L ++ l2.map Fm.L) :: L)) := Sat.mkBig (l := [_, _]) hs
  have h2 := Sat.closeBig h1
  show Sat W w ([Cl d (dCells R D) 105, Mp keyN R.bN (kvs R.bs R.EN) R.ckN, Mp keyN R.bL (kvs R.bs R.EL) R.ckL, RowOf (eC R.bs) 116 3 R.A R.c D.chs] ++ Big (R.F.map Fm.L) :: L)
  rw [hF, List.map_append, List.map_cons]
  exact h2
/-- All numbers that a disk names are numbers of files. -/
structure Bd (D : DS) : Prop where
  now : ∀ i ∈ idsL D.now, i < D.fs.length
  las : ∀ i ∈ idsL D.las, i < D.fs.length
  chs : ∀ c ∈ D.chs, ∀ i, c.made = some i → i < D.fs.length
theorem St.bd (h : St D) : Bd D := ⟨fun i hi => h.ltNow hi, fun i hi => h.idlt i (List.mem_append_left _ hi), fun c hc i hi => h.idlt i (List.mem_append_right _ (List.mem_filterMap.2 ⟨c, hc, hi⟩))⟩
theorem kvs_more' {E : List Ent'} {ck : Nat} {S : Names} {bs : List Nat} {b : Nat} (hm : MapOf E ck S) (h : ∀ i ∈ idsL S, i < bs.length) : kvs (bs ++ [b]) E = kvs bs E :=
  kvs_more fun x hx => h x.2.1 (List.mem_map.2 ⟨_, hm.mem hx, rfl⟩)
theorem eC_more {bs : List Nat} {b : Nat} {cs : List Chg} (h : ∀ c ∈ cs, ∀ i, c.made = some i → i < bs.length) : cs.flatMap (eC (bs ++ [b])) = cs.flatMap (eC bs) := by
  rw [List.flatMap_def, List.flatMap_def]
  congr 1
  apply List.map_congr_left
  intro c hc
  unfold eC
  cases e : c.made with
  | none => rfl
  | some i => simp only [ptm, ptv, getD_app (h c hc i e)]
theorem L_more (ho : R.Of D) (hb : Bd D) (x : Fm) : Rp.L { R with F := R.F ++ [x] } d { D with fs := D.fs ++ [x.f] } = [Cl d (dCells R D) 105, Mp keyN R.bN (kvs R.bs R.EN) R.ckN, Mp keyN R.bL (kvs R.bs R.EL) R.ckL, RowOf (eC R.bs) 116 3 R.A R.c D.chs, Big (R.F.map Fm.L ++ [x.L])] := by
  have hl : D.fs.length = R.bs.length := by rw [R.bsLen, ho.len]
  have e0 : Rp.bs { R with F := R.F ++ [x] } = R.bs ++ [x.b] := by simp [Rp.bs]
  unfold Rp.L RowOf
  rw [e0]
  dsimp only
  rw [kvs_more' ho.mN (fun i hi => hl ▸ hb.now i hi), kvs_more' ho.mL (fun i hi => hl ▸ hb.las i hi), eC_more (fun c hc i hi => hl ▸ hb.chs c hc i hi), List.map_append]
  rfl
theorem Sat.addF (ho : R.Of D) (hb : Bd D) {x : Fm} (hs : Sat W w (x.L :: (R.L d D ++ L))) : Rp.Of { R with F := R.F ++ [x] } { D with fs := D.fs ++ [x.f] } ∧ Sat W w (Rp.L { R with F := R.F ++ [x] } d { D with fs := D.fs ++ [x.f] } ++ L) := by
  refine ⟨⟨ho.mN, ho.mL, by simp [ho.fs], ho.lf, ho.lb⟩, ?_⟩
  rw [L_more ho hb x]
  have h1 : Sat W w (x.L :: ([Cl d (dCells R D) 105, Mp keyN R.bN (kvs R.bs R.EN) R.ckN, Mp keyN R.bL (kvs R.bs R.EL) R.ckL, RowOf (eC R.bs) 116 3 R.A R.c D.chs] ++ Big (R.F.map Fm.L ++ []) :: L)) := by rw [List.append_nil]; exact hs
  exact Sat.closeBig h1
theorem Sat.dropF (ho : R.Of D) (hb : Bd D) {x : Fm} (hs : Sat W w (Rp.L { R with F := R.F ++ [x] } d { D with fs := D.fs ++ [x.f] } ++ L)) : Sat W w (R.L d D ++ L) := by
  rw [L_more ho hb x] at hs
  have h1 : Sat W w ([Cl d (dCells R D) 105, Mp keyN R.bN (kvs R.bs R.EN) R.ckN, Mp keyN R.bL (kvs R.bs R.EL) R.ckL, RowOf (eC R.bs) 116 3 R.A R.c D.chs] ++ Big (R.F.map Fm.L ++ x.L :: []) :: L) := hs
  have h2 := (Sat.openBig h1).drop1
  rw [List.append_nil] at h2
  exact h2
end
end Go.Proofs.Ytoodgenbcfdloaa
