/- Walks: the library's sort of texts and copy of a map (their laying is the kit's lay-plain.mjs's print), as this framework says it. -/
import Derived.Test.YtoodgenbcfdloaaTy
import Derived.Shelf.Sort.Plain
import Derived.Shelf.Slices.In.SortNone
import Derived.Sort.OwnSorted
import Derived.Shelf.SlMaps.Clone
set_option linter.unusedVariables false
set_option linter.unusedSimpArgs false
namespace Go.Proofs
open Go.Shelf
def Try.lays190_ren : Go.Shelf.Ren := ⟨fun | 190 => 91 | 125 => 100 | 258 => 99 | 128 => 114 | 129 => 115 | 302 => 105 | 303 => 106 | 304 => 107 | 305 => 108 | 306 => 109 | 307 => 110 | 308 => 111 | 309 => 112 | 310 => 113 | 333 => 116 | 329 => 117 | 330 => 118 | 334 => 119 | 335 => 120 | 336 => 121 | 344 => 122 | n => n, fun | 31 => 72 | 9 => 9 | 3 => 3 | 46 => 161 | 0 => 0 | 51 => 176 | 53 => 178 | 4 => 4 | 183 => 168 | 182 => 167 | 131 => 173 | 5 => 5 | 218 => 179 | 222 => 183 | 228 => 185 | 229 => 186 | n => n, fun | n => n⟩
theorem Try.lays190 : Go.Proofs.Lays.n190 Try.prog Try.lays190_ren := {
  mixed := by kernel_rfl
  f125 := Try.func100.trans (congrArg some (by kernel_rfl))
  f128 := Try.func114.trans (congrArg some (by kernel_rfl))
  f129 := Try.func115.trans (congrArg some (by kernel_rfl))
  f190 := Try.func91.trans (congrArg some (by kernel_rfl))
  f258 := Try.func99.trans (congrArg some (by kernel_rfl))
  f302 := Try.func105.trans (congrArg some (by kernel_rfl))
  f303 := Try.func106.trans (congrArg some (by kernel_rfl))
  f304 := Try.func107.trans (congrArg some (by kernel_rfl))
  f305 := Try.func108.trans (congrArg some (by kernel_rfl))
  f306 := Try.func109.trans (congrArg some (by kernel_rfl))
  f307 := Try.func110.trans (congrArg some (by kernel_rfl))
  f308 := Try.func111.trans (congrArg some (by kernel_rfl))
  f309 := Try.func112.trans (congrArg some (by kernel_rfl))
  f310 := Try.func113.trans (congrArg some (by kernel_rfl))
  f329 := Try.func117.trans (congrArg some (by kernel_rfl))
  f330 := Try.func118.trans (congrArg some (by kernel_rfl))
  f333 := Try.func116.trans (congrArg some (by kernel_rfl))
  f334 := Try.func119.trans (congrArg some (by kernel_rfl))
  f335 := Try.func120.trans (congrArg some (by kernel_rfl))
  f336 := Try.func121.trans (congrArg some (by kernel_rfl))
  f344 := Try.func122.trans (congrArg some (by kernel_rfl))
  t0 := Try.underlying0
  a0 := Try.isAgg0
  z0 := Try.sizeOf0
  v0 := Try.zeroValue0
  t3 := Try.underlying3
  a3 := Try.isAgg3
  z3 := Try.sizeOf3
  v3 := Try.zeroValue3
  t4 := Try.underlying4
  a4 := Try.isAgg4
  z4 := Try.sizeOf4
  v4 := Try.zeroValue4
  t5 := Try.underlying5
  a5 := Try.isAgg5
  z5 := Try.sizeOf5
  v5 := Try.zeroValue5
  t9 := Try.underlying9
  a9 := Try.isAgg9
  z9 := Try.sizeOf9
  v9 := Try.zeroValue9
  t31 := Try.underlying72
  a31 := Try.isAgg72
  z31 := Try.sizeOf72
  v31 := Try.zeroValue72
  t46 := Try.underlying161
  a46 := Try.isAgg161
  z46 := Try.sizeOf161
  v46 := Try.zeroValue161
  t51 := Try.underlying176
  a51 := Try.isAgg176
  z51 := Try.sizeOf176
  v51 := Try.zeroValue176
  t53 := Try.underlying178
  a53 := Try.isAgg178
  z53 := Try.sizeOf178
  v53 := Try.zeroValue178
  t131 := Try.underlying173
  a131 := Try.isAgg173
  z131 := Try.sizeOf173
  v131 := Try.zeroValue173
  t182 := Try.underlying167
  a182 := Try.isAgg167
  z182 := Try.sizeOf167
  v182 := Try.zeroValue167
  t183 := Try.underlying168
  a183 := Try.isAgg168
  z183 := Try.sizeOf168
  v183 := Try.zeroValue168
  t218 := Try.underlying179
  a218 := Try.isAgg179
  z218 := Try.sizeOf179
  v218 := Try.zeroValue179
  t222 := Try.underlying183
  a222 := Try.isAgg183
  z222 := Try.sizeOf183
  v222 := Try.zeroValue183
  t228 := Try.underlying185
  a228 := Try.isAgg185
  z228 := Try.sizeOf185
  v228 := Try.zeroValue185
  t229 := Try.underlying186
  a229 := Try.isAgg186
  z229 := Try.sizeOf186
  v229 := Try.zeroValue186 }
open Go.Sort Go.RowKit in
theorem Try.slices_Sort_string (blk off cap : Nat) (ss : List (List UInt8)) (w : World) (hH : Holds encStr w blk off ss.toArray) (hblk : blk < w.heap.size) (hsz : ss.length < 4611686018427387904) :
    Calls Try.prog 91 #[.slice (some ⟨blk, off, none⟩) ss.length cap] w fun e w' =>
      e = .returned (.tuple #[]) ∧ ∃ n os, w' = grow (putRow encStr (Sort.ahead w n) blk off (ss.mergeSort fun x y => decide (x ≤ y)).toArray) os := Any.slices_Sort_string Try.lays190 blk off cap ss w hH hblk hsz
open Go.RowKit Go.Sort in
/-- .. and plain. (LAID: no walk: one application.) -/
theorem Try.slices_Sort_string_none (p : Option Addr) (cap : Nat) (w : World) :
    Calls Try.prog 91 #[.slice p 0 cap] w fun e w' => e = .returned (.tuple #[]) ∧ w' = w := Any.slices_Sort_string_none Try.lays190 p cap w
def Try.lclone_ren : Go.Shelf.Ren := ⟨fun | 5 => 60 | 7 => 80 | n => n, fun | 23 => 102 | 25 => 9 | 3 => 100 | 4 => 4 | 20 => 20 | n => n, fun | n => n⟩
theorem Try.lclone : Go.Proofs.SlLaysW.n5 Try.prog Try.lclone_ren := {
  mixed := by kernel_rfl
  f5 := ⟨Try.f60.name, by decide, Try.func60.trans (congrArg some (by kernel_rfl))⟩
  f7 := Try.func80.trans (congrArg some (by kernel_rfl))
  t4 := Try.underlying4
  a4 := Try.isAgg4
  z4 := Try.sizeOf4
  v4 := Try.zeroValue4
  t20 := Try.underlying20
  a20 := Try.isAgg20
  z20 := Try.sizeOf20
  v20 := Try.zeroValue20
  t23 := Try.underlying102
  a23 := Try.isAgg102
  z23 := Try.sizeOf102
  v23 := Try.zeroValue102 }
end Go.Proofs
namespace Go.Proofs.Ytoodgenbcfdloaa
open Go Go.Sl Go.RowKit
set_option maxRecDepth 100000
def sortN (xs : List (List UInt8)) : List (List UInt8) := xs.mergeSort fun x y => decide (x ≤ y)
theorem sortN_len (xs : List (List UInt8)) : (sortN xs).length = xs.length := List.length_mergeSort xs
theorem flat_eN (xs : List (List UInt8)) : xs.flatMap eN = xs.map Go.Proofs.encStr := by induction xs <;> simp_all [eN]
theorem Sort_call (W w : World) (L : List HProp) (A : Option Addr) (c : Nat) (xs : List (List UInt8)) (hs : Sat W w (RowOf eN 9 1 A c xs :: L)) (hl : xs.length ≤ 4611686018427387000) :
    Calls Try.prog 91 [Value.slice A xs.length c].toArray w (Ret fun v w' => v = .tuple #[] ∧ Sat W w' (RowOf eN 9 1 A c (sortN xs) :: L)) := by
  have hrow := hs.row0
  rcases hrow.2 with ⟨h1, h2⟩ | ⟨g, cap, cur, h1, h2, h3, h4, h5, h6, h7⟩
  · injection h1 with q1 q2 q3
    have : xs = [] := List.length_eq_zero_iff.1 q2
    subst this; subst q1; subst q3
    refine (Try.slices_Sort_string_none none 0 w).mono ?_
    rintro e w' ⟨rfl, rfl⟩
    exact ⟨rfl, by simpa [sortN] using hs⟩
  · injection h1 with q1 q2 q3
    subst q1; subst q3
    have hg := (Array.getElem?_eq_some_iff.1 h3).1
    rw [flat_eN, Nat.mul_one] at h7
    have hH := holds_of_block (ss := xs) h3 h7
    refine (Try.slices_Sort_string g 0 c xs w hH hg (by omega)).mono ?_
    rintro e w' ⟨rfl, n, os, rfl⟩
    refine ⟨rfl, ?_⟩
    have hlen : (sortN xs).length = xs.length := sortN_len xs
    have hown : OwnR (Go.Sort.grow (Go.Sort.putRow Go.Proofs.encStr (Go.Sort.ahead w n) g 0 (sortN xs).toArray) os) W.heap.size 9 1 (.slice (some ⟨g, 0, none⟩) (sortN xs).length c) (sortN xs).length ((sortN xs).flatMap eN) := by
      refine ⟨by rw [flat_eN]; simp, .inr ⟨g, c, _, rfl, h2, heap_sorted _ h3, by omega, h5, by simpa [Go.Sort.putCells] using h6, ?_⟩⟩
      rw [flat_eN, Nat.mul_one]
      exact take_putCells cur (sortN xs) (by omega)
    obtain ⟨A', c', e1, hs'⟩ := hs.rowTurn hown (grownBy_sorted _) (.inl rfl)
    injection e1 with e2 e3 e4
    subst e2; subst e4
    exact hs'
/-- A map's copy: its entries, stamps and clock. -/
theorem CloneM_call (W w : World) (L : List HProp) (b ck : Nat) (es : Array MapEntry) (i : Nat) (hs : Sat W w L) (hi : getA L i = some (Bk b (.map es ck))) :
    Calls Try.prog 60 [Value.map (some b)].toArray w (Ret fun v w' => ∃ b', v = .map (some b') ∧ Sat W w' (Bk b' (.map es ck) :: L)) := by
  rw [getA_eq] at hi
  refine (Go.Proofs.AnyW.maps_Clone Try.lclone b es ck w (hs.at i hi).2).mono ?_
  rintro e w' ⟨rfl, rfl⟩
  exact ⟨_, rfl, hs.alloc _⟩
end Go.Proofs.Ytoodgenbcfdloaa
