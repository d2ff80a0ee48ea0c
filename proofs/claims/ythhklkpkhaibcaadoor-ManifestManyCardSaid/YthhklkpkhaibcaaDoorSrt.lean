/- Walks: the library's sort of texts and copy of a map (their laying is the kit's lay-plain.mjs's print), as this framework says it. -/
import Derived.Test.YthhklkpkhaibcaaDoorTy
import Derived.Shelf.Sort.Plain
import Derived.Shelf.Slices.In.SortNone
import Derived.Sort.OwnSorted
import Derived.Shelf.SlMaps.Clone
set_option linter.unusedVariables false
set_option linter.unusedSimpArgs false
namespace Go.Proofs
open Go.Shelf
def Tryd.lays190_ren : Go.Shelf.Ren := ⟨fun | 190 => 46 | 125 => 54 | 258 => 53 | 128 => 69 | 129 => 56 | 302 => 60 | 303 => 61 | 304 => 62 | 305 => 63 | 306 => 64 | 307 => 65 | 308 => 66 | 309 => 67 | 310 => 68 | 333 => 72 | 329 => 73 | 330 => 74 | 334 => 75 | 335 => 76 | 336 => 77 | 344 => 78 | n => n, fun | 31 => 26 | 9 => 9 | 3 => 3 | 46 => 103 | 0 => 0 | 51 => 107 | 53 => 95 | 4 => 4 | 183 => 112 | 182 => 111 | 131 => 22 | 5 => 5 | 218 => 119 | 222 => 123 | 228 => 127 | 229 => 128 | n => n, fun | n => n⟩
theorem Tryd.lays190 : Go.Proofs.Lays.n190 Tryd.prog Tryd.lays190_ren := {
  mixed := by kernel_rfl
  f125 := Tryd.func54.trans (congrArg some (by kernel_rfl))
  f128 := Tryd.func69.trans (congrArg some (by kernel_rfl))
  f129 := Tryd.func56.trans (congrArg some (by kernel_rfl))
  f190 := Tryd.func46.trans (congrArg some (by kernel_rfl))
  f258 := Tryd.func53.trans (congrArg some (by kernel_rfl))
  f302 := Tryd.func60.trans (congrArg some (by kernel_rfl))
  f303 := Tryd.func61.trans (congrArg some (by kernel_rfl))
  f304 := Tryd.func62.trans (congrArg some (by kernel_rfl))
  f305 := Tryd.func63.trans (congrArg some (by kernel_rfl))
  f306 := Tryd.func64.trans (congrArg some (by kernel_rfl))
  f307 := Tryd.func65.trans (congrArg some (by kernel_rfl))
  f308 := Tryd.func66.trans (congrArg some (by kernel_rfl))
  f309 := Tryd.func67.trans (congrArg some (by kernel_rfl))
  f310 := Tryd.func68.trans (congrArg some (by kernel_rfl))
  f329 := Tryd.func73.trans (congrArg some (by kernel_rfl))
  f330 := Tryd.func74.trans (congrArg some (by kernel_rfl))
  f333 := Tryd.func72.trans (congrArg some (by kernel_rfl))
  f334 := Tryd.func75.trans (congrArg some (by kernel_rfl))
  f335 := Tryd.func76.trans (congrArg some (by kernel_rfl))
  f336 := Tryd.func77.trans (congrArg some (by kernel_rfl))
  f344 := Tryd.func78.trans (congrArg some (by kernel_rfl))
  t0 := Tryd.underlying0
  a0 := Tryd.isAgg0
  z0 := Tryd.sizeOf0
  v0 := Tryd.zeroValue0
  t3 := Tryd.underlying3
  a3 := Tryd.isAgg3
  z3 := Tryd.sizeOf3
  v3 := Tryd.zeroValue3
  t4 := Tryd.underlying4
  a4 := Tryd.isAgg4
  z4 := Tryd.sizeOf4
  v4 := Tryd.zeroValue4
  t5 := Tryd.underlying5
  a5 := Tryd.isAgg5
  z5 := Tryd.sizeOf5
  v5 := Tryd.zeroValue5
  t9 := Tryd.underlying9
  a9 := Tryd.isAgg9
  z9 := Tryd.sizeOf9
  v9 := Tryd.zeroValue9
  t31 := Tryd.underlying26
  a31 := Tryd.isAgg26
  z31 := Tryd.sizeOf26
  v31 := Tryd.zeroValue26
  t46 := Tryd.underlying103
  a46 := Tryd.isAgg103
  z46 := Tryd.sizeOf103
  v46 := Tryd.zeroValue103
  t51 := Tryd.underlying107
  a51 := Tryd.isAgg107
  z51 := Tryd.sizeOf107
  v51 := Tryd.zeroValue107
  t53 := Tryd.underlying95
  a53 := Tryd.isAgg95
  z53 := Tryd.sizeOf95
  v53 := Tryd.zeroValue95
  t131 := Tryd.underlying22
  a131 := Tryd.isAgg22
  z131 := Tryd.sizeOf22
  v131 := Tryd.zeroValue22
  t182 := Tryd.underlying111
  a182 := Tryd.isAgg111
  z182 := Tryd.sizeOf111
  v182 := Tryd.zeroValue111
  t183 := Tryd.underlying112
  a183 := Tryd.isAgg112
  z183 := Tryd.sizeOf112
  v183 := Tryd.zeroValue112
  t218 := Tryd.underlying119
  a218 := Tryd.isAgg119
  z218 := Tryd.sizeOf119
  v218 := Tryd.zeroValue119
  t222 := Tryd.underlying123
  a222 := Tryd.isAgg123
  z222 := Tryd.sizeOf123
  v222 := Tryd.zeroValue123
  t228 := Tryd.underlying127
  a228 := Tryd.isAgg127
  z228 := Tryd.sizeOf127
  v228 := Tryd.zeroValue127
  t229 := Tryd.underlying128
  a229 := Tryd.isAgg128
  z229 := Tryd.sizeOf128
  v229 := Tryd.zeroValue128 }
open Go.Sort Go.RowKit in
theorem Tryd.slices_Sort_string (blk off cap : Nat) (ss : List (List UInt8)) (w : World) (hH : Holds encStr w blk off ss.toArray) (hblk : blk < w.heap.size) (hsz : ss.length < 4611686018427387904) :
    Calls Tryd.prog 46 #[.slice (some ⟨blk, off, none⟩) ss.length cap] w fun e w' =>
      e = .returned (.tuple #[]) ∧ ∃ n os, w' = grow (putRow encStr (Sort.ahead w n) blk off (ss.mergeSort fun x y => decide (x ≤ y)).toArray) os := Any.slices_Sort_string Tryd.lays190 blk off cap ss w hH hblk hsz
open Go.RowKit Go.Sort in
/-- .. and plain. (LAID: no walk: one application.) -/
theorem Tryd.slices_Sort_string_none (p : Option Addr) (cap : Nat) (w : World) :
    Calls Tryd.prog 46 #[.slice p 0 cap] w fun e w' => e = .returned (.tuple #[]) ∧ w' = w := Any.slices_Sort_string_none Tryd.lays190 p cap w
def Tryd.lclone_ren : Go.Shelf.Ren := ⟨fun | 5 => 31 | 7 => 38 | n => n, fun | 23 => 66 | 25 => 9 | 3 => 64 | 4 => 4 | 20 => 20 | n => n, fun | n => n⟩
theorem Tryd.lclone : Go.Proofs.SlLaysW.n5 Tryd.prog Tryd.lclone_ren := {
  mixed := by kernel_rfl
  f5 := ⟨Tryd.f31.name, by decide, Tryd.func31.trans (congrArg some (by kernel_rfl))⟩
  f7 := Tryd.func38.trans (congrArg some (by kernel_rfl))
  t4 := Tryd.underlying4
  a4 := Tryd.isAgg4
  z4 := Tryd.sizeOf4
  v4 := Tryd.zeroValue4
  t20 := Tryd.underlying20
  a20 := Tryd.isAgg20
  z20 := Tryd.sizeOf20
  v20 := Tryd.zeroValue20
  t23 := Tryd.underlying66
  a23 := Tryd.isAgg66
  z23 := Tryd.sizeOf66
  v23 := Tryd.zeroValue66 }
end Go.Proofs
namespace Go.Proofs.YthhklkpkhaibcaaDoor
open Go Go.Sl Go.RowKit
set_option maxRecDepth 100000
def sortN (xs : List (List UInt8)) : List (List UInt8) := xs.mergeSort fun x y => decide (x ≤ y)
theorem sortN_len (xs : List (List UInt8)) : (sortN xs).length = xs.length := List.length_mergeSort xs
theorem flat_eN (xs : List (List UInt8)) : xs.flatMap eN = xs.map Go.Proofs.encStr := by induction xs <;> simp_all [eN]
theorem Sort_call (W w : World) (L : List HProp) (A : Option Addr) (c : Nat) (xs : List (List UInt8)) (hs : Sat W w (RowOf eN 9 1 A c xs :: L)) (hl : xs.length ≤ 4611686018427387000) :
    Calls Tryd.prog 46 [Value.slice A xs.length c].toArray w (Ret fun v w' => v = .tuple #[] ∧ Sat W w' (RowOf eN 9 1 A c (sortN xs) :: L)) := by
  have hrow := hs.row0
  rcases hrow.2 with ⟨h1, h2⟩ | ⟨g, cap, cur, h1, h2, h3, h4, h5, h6, h7⟩
  · injection h1 with q1 q2 q3
    have : xs = [] := List.length_eq_zero_iff.1 q2
    subst this; subst q1; subst q3
    refine (Tryd.slices_Sort_string_none none 0 w).mono ?_
    rintro e w' ⟨rfl, rfl⟩
    exact ⟨rfl, by simpa [sortN] using hs⟩
  · injection h1 with q1 q2 q3
    subst q1; subst q3
    have hg := (Array.getElem?_eq_some_iff.1 h3).1
    rw [flat_eN, Nat.mul_one] at h7
    have hH := holds_of_block (ss := xs) h3 h7
    refine (Tryd.slices_Sort_string g 0 c xs w hH hg (by omega)).mono ?_
    rintro e w' ⟨rfl, n, os, rfl⟩
    refine ⟨rfl, ?_⟩
    have hlen : (sortN xs).length = xs.length := sortN_len xs
    have hown : OwnR (Go.Sort.grow (Go.Sort.putRow Go.Proofs.encStr (Go.Sort.ahead w n) g 0 (sortN xs).toArray) os) W.heap.size 9 1 (.slice (some ⟨g, 0, none⟩) (sortN xs).length c) (sortN xs).length ((sortN xs).flatMap eN) := by
      refine ⟨by rw [flat_eN]; simp, .inr ⟨g, c, _, rfl, h2, heap_sorted _ h3, by omega, h5, by simpa [Go.Sort.putCells] using h6, ?_⟩⟩
      rw [flat_eN, Nat.mul_one]
      exact take_putCells cur (sortN xs) (by omega)
    obtain ⟨A', c', e1, hs'⟩ := hs.rowTurn hown (grownBy_sorted _) (.inl rfl)
    injection e1 with e2 e3 e4
    subst e2; subst e4
    exact hs'
/-- A map's copy: its entries, stamps and clock. -/
theorem CloneM_call (W w : World) (L : List HProp) (b ck : Nat) (es : Array MapEntry) (i : Nat) (hs : Sat W w L) (hi : getA L i = some (Bk b (.map es ck))) :
    Calls Tryd.prog 31 [Value.map (some b)].toArray w (Ret fun v w' => ∃ b', v = .map (some b') ∧ Sat W w' (Bk b' (.map es ck) :: L)) := by
  rw [getA_eq] at hi
  refine (Go.Proofs.AnyW.maps_Clone Tryd.lclone b es ck w (hs.at i hi).2).mono ?_
  rintro e w' ⟨rfl, rfl⟩
  exact ⟨_, rfl, hs.alloc _⟩
end Go.Proofs.YthhklkpkhaibcaaDoor
