/- DiskApart: lists of lists that were told; plain. -/
import Derived.Test.YtoodgenbcfdloaaB8
set_option linter.unusedVariables false
set_option linter.unusedSimpArgs false
namespace Go.Proofs.Ytoodgenbcfdloaa
open Go Go.Sl Go.RowKit
set_option maxRecDepth 100000
/-- A list of bytes that was told. -/
structure Bs where
  A : Option Addr
  c : Nat
  y : List UInt8
  deriving Inhabited
def Bs.P (x : Bs) : HProp := RowOf eB 5 1 x.A x.c x.y
def eBs (x : Bs) : List Value := [.slice x.A x.y.length x.c]
theorem eBs_ok : (∀ x, (eBs x).length = 1) ∧ ∀ x, ∀ u ∈ eBs x, u.oneCell' = true := ⟨fun _ => rfl, fun x u h => by
  simp [eBs] at h
  subst h; rfl⟩
/-- A list of names that was told. -/
structure Ns where
  A : Option Addr
  c : Nat
  y : List Nm
  deriving Inhabited
def Ns.P (x : Ns) : HProp := RowOf eN 9 1 x.A x.c x.y
def eNs (x : Ns) : List Value := [.slice x.A x.y.length x.c]
theorem eNs_ok : (∀ x, (eNs x).length = 1) ∧ ∀ x, ∀ u ∈ eNs x, u.oneCell' = true := ⟨fun _ => rfl, fun x u h => by
  simp [eNs] at h
  subst h; rfl⟩
structure Ap where
  i : Nat
  D : DS
  SA : Option Addr
  sc : Nat
  sd : List WL
  WA : Option Addr
  wc : Nat
  wt : List WL
  BA : Option Addr
  bc : Nat
  bs : List Bs
  XA : Option Addr
  xc : Nat
  tx : List Bs
  NA : Option Addr
  nc : Nat
  nm : List Ns
  OA : Option Addr
  oc : Nat
  wd : List Ns
abbrev apR (g : Ap) : List HProp := [RowOf eWL 22 1 g.SA g.sc g.sd, RowOf eWL 22 1 g.WA g.wc g.wt, RowOf eBs 23 1 g.BA g.bc g.bs, RowOf eBs 23 1 g.XA g.xc g.tx, RowOf eNs 72 1 g.NA g.nc g.nm, RowOf eNs 72 1 g.OA g.oc g.wd, Big (g.sd.map WL.P), Big (g.wt.map WL.P), Big (g.bs.map Bs.P), Big (g.tx.map Bs.P), Big (g.nm.map Ns.P), Big (g.wd.map Ns.P)]
structure ApOk (g : Ap) : Prop where
  w : g.wt.map (·.l) = g.sd.map (·.l)
  x : g.tx.map (·.y) = g.bs.map (·.y)
  o : g.wd.map (·.y) = g.nm.map (·.y)
  nb : g.nm.length = g.bs.length
  sl : g.sd.length ≤ 4 * g.i
  bl : g.bs.length ≤ 2 * g.i
  sf : ∀ z ∈ g.sd, z.l.length ≤ 1000 ∧ ∀ f ∈ z.l, f.2.length ≤ 4194304
  bf : ∀ z ∈ g.bs, z.y.length ≤ 4194304
  nf : ∀ z ∈ g.nm, z.y.length ≤ 1000
theorem Sat.snocL {α : Type} {f : α → HProp} {W w : World} {L : List HProp} {xs ys : List α} (hs : Sat W w (ys.map f ++ (Big (xs.map f) :: L))) : Sat W w (Big ((xs ++ ys).map f) :: L) := by
  have h1 : Sat W w (Big (xs.map f) :: (ys.map f ++ L)) := Sat.swp (A := ys.map f) (B := [Big (xs.map f)]) (C := L) hs
  have h2 := h1.big
  rw [← List.append_assoc, ← List.map_append] at h2
  exact Sat.mkBig h2
theorem Sat.last {W w : World} {L : List HProp} {p : HProp} (hs : Sat W w (p :: L)) : Sat W w (L ++ [p]) := Sat.rot (A := [p]) hs
theorem ap_turn {W w : World} {W2 W1 C2 C1 Y4 Y3 Y2 Y1 N2 HD N1 R2 R1 X2 X1 F2 F1 Cb sd wt bs tx nm wd Bsd Bwt Bbs Btx Bnm Bwd : HProp} (h : Sat W w [W2, W1, C2, C1, Y4, Y3, Y2, Y1, N2, HD, N1, R2, R1, X2, X1, F2, F1, Cb, sd, wt, bs, tx, nm, wd, Bsd, Bwt, Bbs, Btx, Bnm, Bwd]) :
    Sat W w [F1, F2, X1, X2, Bsd, Y1, Y2, Y3, Y4, Bwt, R1, R2, Bbs, C1, C2, Btx, N1, N2, Bnm, W1, W2, Bwd, HD, sd, wt, bs, tx, nm, wd] :=
  Sat.perm (L := [W2, W1, C2, C1, Y4, Y3, Y2, Y1, N2, HD, N1, R2, R1, X2, X1, F2, F1, sd, wt, bs, tx, nm, wd, Bsd, Bwt, Bbs, Btx, Bnm, Bwd]) (by
    have := Sat.drop1 (h.front 17 rfl)
    exact this) (by
    classical exact List.perm_iff_count.2 fun x => by simp only [List.count_cons, List.count_nil]; ac_rfl)
theorem ap_join {W w : World} {HD sd wt bs tx nm wd : HProp} {g : Ap} {s4 w4 : List WL} {b2 t2 : List Bs} {n2 o2 : List Ns}
    (h : Sat W w (s4.map WL.P ++ (Big (g.sd.map WL.P) :: (w4.map WL.P ++ (Big (g.wt.map WL.P) :: (b2.map Bs.P ++ (Big (g.bs.map Bs.P) :: (t2.map Bs.P ++ (Big (g.tx.map Bs.P) :: (n2.map Ns.P ++ (Big (g.nm.map Ns.P) :: (o2.map Ns.P ++ (Big (g.wd.map Ns.P) :: [HD, sd, wt, bs, tx, nm, wd]))))))))))))) :
    Sat W w [HD, sd, wt, bs, tx, nm, wd, Big ((g.sd ++ s4).map WL.P), Big ((g.wt ++ w4).map WL.P), Big ((g.bs ++ b2).map Bs.P), Big ((g.tx ++ t2).map Bs.P), Big ((g.nm ++ n2).map Ns.P), Big ((g.wd ++ o2).map Ns.P)] := by
  have h1 := Sat.last (Sat.snocL h)
  simp only [List.append_assoc, List.cons_append, List.nil_append] at h1
  have h2 := Sat.last (Sat.snocL h1)
  simp only [List.append_assoc, List.cons_append, List.nil_append] at h2
  have h3 := Sat.last (Sat.snocL h2)
  simp only [List.append_assoc, List.cons_append, List.nil_append] at h3
  have h4 := Sat.last (Sat.snocL h3)
  simp only [List.append_assoc, List.cons_append, List.nil_append] at h4
  have h5 := Sat.last (Sat.snocL h4)
  simp only [List.append_assoc, List.cons_append, List.nil_append] at h5
  have h6 := Sat.last (Sat.snocL h5)
  simp only [List.append_assoc, List.cons_append, List.nil_append] at h6
  exact h6
theorem rd_of_maps {α β : Type} [Inhabited α] {f : α → β} {xs ys : List α} (h : xs.map f = ys.map f) {i : Nat} (hi : i < ys.length) : f (rd xs (i : Int)) = f (rd ys (i : Int)) := by
  have hl : xs.length = ys.length := by simpa using congrArg List.length h
  have e := congrArg (fun l => l[i]?) h
  simp only [List.getElem?_map, List.getElem?_eq_getElem hi, List.getElem?_eq_getElem (show i < xs.length by omega), Option.map_some, Option.some.injEq] at e
  rw [rd_lt hi, rd_lt (by omega)]
  exact e
theorem big_rd {α : Type} {f : α → HProp} {W w : World} {L : List HProp} {xs : List α} {x : α} (hs : Sat W w (Big (xs.map f) :: L)) (hx : x ∈ xs) : ∃ L', Sat W w (f x :: L') := by
  obtain ⟨a, b, rfl⟩ := List.append_of_mem hx
  rw [List.map_append, List.map_cons] at hs
  exact ⟨_, Sat.openBig (X := []) hs⟩
theorem CW_cutB {r : Option Nat} {P : Program} {Q : Exit → Act → World → Prop} {a : Act} {w : World} {i : Nat} {c z : Code} (M : Act → World → Prop) (hx : CW r P c (Exit.inBlock i (Exit.then M Q)) a w) (hy : ∀ a w, M a w → CW r P z Q a w) : CW r P c (Exit.inBlock i (Exit.then (CW r P z Q) Q)) a w := by
  refine CW_mono hx fun e a w h => ?_
  cases e with
  | normal => exact hy _ _ h
  | exit j =>
    by_cases hj : j = i
    · simp only [Exit.inBlock, hj, if_true] at h ⊢; exact hy _ _ h
    · simp only [Exit.inBlock, hj, if_false] at h ⊢; exact h
  | _ => exact h
end Go.Proofs.Ytoodgenbcfdloaa
