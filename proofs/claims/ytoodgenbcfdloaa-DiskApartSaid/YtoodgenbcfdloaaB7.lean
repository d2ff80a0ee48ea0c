/- Walks: DiskOwn. -/
import Derived.Test.YtoodgenbcfdloaaB5
import Derived.Test.YtoodgenbcfdloaaB6
set_option linter.unusedVariables false
set_option linter.unusedSimpArgs false
namespace Go.Proofs.Ytoodgenbcfdloaa
open Go Go.Sl Go.RowKit
set_option maxRecDepth 100000
attribute [local irreducible] CW LW DW FR DP Calls
/-- The book, empty. -/
def bk0 : Bk := ⟨none, 0, [], none, 0, [], none, 0, [], none, 0, [], none, 0, [], none, 0, [], none, 0, [], none, 0, [], none, 0, []⟩
theorem bk0_ok : BkOK bk0 [] := ⟨rfl, rfl, rfl, Nat.le_refl _, Nat.le_refl _, Nat.le_refl _, fun i h => absurd h (Nat.not_lt_zero _), fun i h => absurd h (Nat.not_lt_zero _), fun i h => absurd h (Nat.not_lt_zero _), fun h k => (by cases k), fun h k => (by cases k), fun h k => (by cases k), fun h k => (by cases k), fun h k => (by cases k), fun h k => (by cases k), fun h k => (by cases k), fun h k => (by cases k)⟩
theorem bk0_sat {W w : World} {L : List HProp} {bb : Nat} (hs : Sat W w (Cl bb bk0.C 79 :: L)) : Sat W w (bk0.L bb [] ++ L) := by
  have h1 : Sat W w (Big [] :: Cl bb bk0.C 79 :: L) := Sat.mkBig (l := []) hs
  have h2 : Sat W w (Big [] :: Big [] :: Cl bb bk0.C 79 :: L) := Sat.mkBig (l := []) h1
  have h3 : Sat W w (Big [] :: Big [] :: Big [] :: Cl bb bk0.C 79 :: L) := Sat.mkBig (l := []) h2
  have h4 : Sat W w (Big [] :: Big [] :: Big [] :: Big [] :: Cl bb bk0.C 79 :: L) := Sat.mkBig (l := []) h3
  have h5 := ((((((((h4.nilRow 72 1).nilRow 22 1).nilRow 23 1).nilRow 9 1).nilRow 9 1).nilRow 72 1).nilRow 22 1).nilRow 5 1).nilRow 23 1
  exact h5.picks [13]
/-- What the caller cut data out of. -/
structure Lg where
  A : Option Addr
  c : Nat
  y : List UInt8
  deriving Inhabited
def Lg.P (x : Lg) : HProp := RowOf eB 5 1 x.A x.c (x.y ++ [91, 92, 93])
def eLg (x : Lg) : List Value := [.slice x.A (x.y.length + 3) x.c]
theorem eLg_ok : (∀ x, (eLg x).length = 1) ∧ ∀ x, ∀ u ∈ eLg x, u.oneCell' = true := ⟨fun _ => rfl, fun x u h => by
  simp [eLg] at h
  subst h; rfl⟩
theorem flat_lg (xs : List Lg) : xs.flatMap eLg = (xs.map fun x => (x.A, x.y.length + 3, x.c)).flatMap eH := by
  induction xs with
  | nil => rfl
  | cons x xs ih => rw [List.flatMap_cons, ih, List.map_cons, List.flatMap_cons]; rfl
theorem tails_lg {w : World} {A : Option Addr} {c : Nat} {xs : List Lg} {L : List HProp} {W : World} (hs : Sat W w (RowOf eLg 23 1 A c xs :: Big (xs.map Lg.P) :: L)) (hn : xs.length ≤ 1000) (hy : ∀ x ∈ xs, x.y.length ≤ 1000000) : Calls Try.prog 46 [Value.slice A xs.length c].toArray w (Ret fun v w' => v = .bool true ∧ Sat w w' []) := by
  have hr : Rd eLg w A xs := hs.rd 0 rfl
  have hrh : Rd eH w A (xs.map fun x => (x.A, x.y.length + 3, x.c)) := by
    rcases hr with rfl | ⟨b, o, h1, h2⟩
    · exact .inl rfl
    · exact .inr ⟨b, o, h1, by rw [← flat_lg]; exact h2⟩
  have := tails_call w A c (xs.map fun x => (x.A, x.y.length + 3, x.c)) hrh (by rw [List.length_map]; omega) (fun h hh => by
    obtain ⟨x, hx, rfl⟩ := List.mem_map.1 hh
    obtain ⟨a, b, rfl⟩ := List.append_of_mem hx
    have h2 := hs.picks [1]
    rw [List.map_append, List.map_cons] at h2
    have h3 : Sat W w ([] ++ Big (a.map Lg.P ++ Lg.P x :: b.map Lg.P) :: _) := h2
    have h4 : Sat W w (RowOf eB 5 1 x.A x.c (x.y ++ [91, 92, 93]) :: _) := Sat.openBig h3
    exact ⟨x.y, h4.rd 0 rfl, rfl, by have := hy x hx; omega⟩)
  rwa [List.length_map] at this
def inv255 (z : UInt8) : UInt8 := z ^^^ 255
end Go.Proofs.Ytoodgenbcfdloaa
