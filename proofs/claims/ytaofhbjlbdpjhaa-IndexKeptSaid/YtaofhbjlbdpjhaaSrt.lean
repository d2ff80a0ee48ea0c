/- Walks: the library's sort of numbers (its laying is the kit's lay-plain.mjs's print), as this framework says it. -/
import Derived.Test.YtaofhbjlbdpjhaaSlB
import Derived.Test.YtaofhbjlbdpjhaaTy
import Derived.Shelf.Sort.Plain
import Derived.Shelf.Slices.In.SortNone
import Derived.Sort.OwnSortedInts
set_option linter.unusedVariables false
set_option linter.unusedSimpArgs false
namespace Go.Proofs
open Go.Shelf
def Try.lays189_ren : Go.Shelf.Ren := ⟨fun | 189 => 61 | 125 => 75 | 257 => 74 | 128 => 87 | 129 => 88 | 294 => 78 | 295 => 79 | 296 => 80 | 297 => 81 | 298 => 82 | 299 => 83 | 216 => 84 | 300 => 85 | 301 => 86 | 328 => 89 | 329 => 90 | 330 => 91 | 331 => 92 | 332 => 93 | 215 => 94 | 343 => 95 | n => n, fun | 28 => 42 | 3 => 3 | 46 => 102 | 0 => 0 | 51 => 147 | 53 => 118 | 4 => 4 | 183 => 140 | 182 => 139 | 131 => 144 | 5 => 5 | 9 => 9 | 218 => 149 | 222 => 152 | 228 => 155 | 229 => 156 | n => n, fun | n => n⟩
theorem Try.lays189 : Go.Proofs.Lays.n189 Try.prog Try.lays189_ren := {
  mixed := by kernel_rfl
  f125 := Try.func75.trans (congrArg some (by kernel_rfl))
  f128 := Try.func87.trans (congrArg some (by kernel_rfl))
  f129 := Try.func88.trans (congrArg some (by kernel_rfl))
  f189 := Try.func61.trans (congrArg some (by kernel_rfl))
  f215 := Try.func94.trans (congrArg some (by kernel_rfl))
  f216 := Try.func84.trans (congrArg some (by kernel_rfl))
  f257 := Try.func74.trans (congrArg some (by kernel_rfl))
  f294 := Try.func78.trans (congrArg some (by kernel_rfl))
  f295 := Try.func79.trans (congrArg some (by kernel_rfl))
  f296 := Try.func80.trans (congrArg some (by kernel_rfl))
  f297 := Try.func81.trans (congrArg some (by kernel_rfl))
  f298 := Try.func82.trans (congrArg some (by kernel_rfl))
  f299 := Try.func83.trans (congrArg some (by kernel_rfl))
  f300 := Try.func85.trans (congrArg some (by kernel_rfl))
  f301 := Try.func86.trans (congrArg some (by kernel_rfl))
  f328 := Try.func89.trans (congrArg some (by kernel_rfl))
  f329 := Try.func90.trans (congrArg some (by kernel_rfl))
  f330 := Try.func91.trans (congrArg some (by kernel_rfl))
  f331 := Try.func92.trans (congrArg some (by kernel_rfl))
  f332 := Try.func93.trans (congrArg some (by kernel_rfl))
  f343 := Try.func95.trans (congrArg some (by kernel_rfl))
  t0 := Try.underlying0
  a0 := Try.isAgg0
  z0 := Try.sizeOf0
  v0 := Try.zeroValue0
  t3 := Try.underlying3
  a3 := Try.isAgg3
  z3 := Try.sizeOf3
  v3 := Try.zeroValue3
  t4 := Try.underlying4
  a4 := Try.isAgg4
  z4 := Try.sizeOf4
  v4 := Try.zeroValue4
  t5 := Try.underlying5
  a5 := Try.isAgg5
  z5 := Try.sizeOf5
  v5 := Try.zeroValue5
  t9 := Try.underlying9
  a9 := Try.isAgg9
  z9 := Try.sizeOf9
  v9 := Try.zeroValue9
  t28 := Try.underlying42
  a28 := Try.isAgg42
  z28 := Try.sizeOf42
  v28 := Try.zeroValue42
  t46 := Try.underlying102
  a46 := Try.isAgg102
  z46 := Try.sizeOf102
  v46 := Try.zeroValue102
  t51 := Try.underlying147
  a51 := Try.isAgg147
  z51 := Try.sizeOf147
  v51 := Try.zeroValue147
  t53 := Try.underlying118
  a53 := Try.isAgg118
  z53 := Try.sizeOf118
  v53 := Try.zeroValue118
  t131 := Try.underlying144
  a131 := Try.isAgg144
  z131 := Try.sizeOf144
  v131 := Try.zeroValue144
  t182 := Try.underlying139
  a182 := Try.isAgg139
  z182 := Try.sizeOf139
  v182 := Try.zeroValue139
  t183 := Try.underlying140
  a183 := Try.isAgg140
  z183 := Try.sizeOf140
  v183 := Try.zeroValue140
  t218 := Try.underlying149
  a218 := Try.isAgg149
  z218 := Try.sizeOf149
  v218 := Try.zeroValue149
  t222 := Try.underlying152
  a222 := Try.isAgg152
  z222 := Try.sizeOf152
  v222 := Try.zeroValue152
  t228 := Try.underlying155
  a228 := Try.isAgg155
  z228 := Try.sizeOf155
  v228 := Try.zeroValue155
  t229 := Try.underlying156
  a229 := Try.isAgg156
  z229 := Try.sizeOf156
  v229 := Try.zeroValue156 }
open Go.Sort Go.RowKit in
theorem Try.slices_Sort_int (blk off cap : Nat) (zs : List Int) (w : World) (hH : Holds (Value.int .i64) w blk off zs.toArray) (hblk : blk < w.heap.size) (hsz : zs.length < 4611686018427387904) :
    Calls Try.prog 61 #[.slice (some ⟨blk, off, none⟩) zs.length cap] w fun e w' =>
      e = .returned (.tuple #[]) ∧ ∃ n os, w' = grow (putRow (Value.int .i64) (Sort.ahead w n) blk off (zs.mergeSort fun x y => decide (x ≤ y)).toArray) os := Any.slices_Sort_int Try.lays189 blk off cap zs w hH hblk hsz
open Go.RowKit Go.Sort in
theorem Try.slices_Sort_int_none (p : Option Addr) (cap : Nat) (w : World) :
    Calls Try.prog 61 #[.slice p 0 cap] w fun e w' => e = .returned (.tuple #[]) ∧ w' = w := Any.slices_Sort_int_none Try.lays189 p cap w
end Go.Proofs
namespace Go.Proofs.Ytaofhbjlbdpjhaa
open Go Go.Sl Go.RowKit
set_option maxRecDepth 100000
def sortI (xs : List Int) : List Int := xs.mergeSort fun x y => decide (x ≤ y)
theorem sortI_len (xs : List Int) : (sortI xs).length = xs.length := List.length_mergeSort xs
theorem flat_eI (xs : List Int) : xs.flatMap eI = xs.map (Value.int .i64) := by induction xs <;> simp_all [eI]
theorem Sort_call (W w : World) (L : List HProp) (A : Option Addr) (c : Nat) (xs : List Int) (hs : Sat W w (RowOf eI 3 1 A c xs :: L)) (hl : xs.length ≤ 1000000000) :
    Calls Try.prog 61 [Value.slice A xs.length c].toArray w (Ret fun v w' => v = .tuple #[] ∧ Sat W w' (RowOf eI 3 1 A c (sortI xs) :: L)) := by
  have hrow := hs.row0
  rcases hrow.2 with ⟨h1, h2⟩ | ⟨g, cap, cur, h1, h2, h3, h4, h5, h6, h7⟩
  · injection h1 with q1 q2 q3
    have : xs = [] := List.length_eq_zero_iff.1 q2
    subst this; subst q1; subst q3
    refine (Try.slices_Sort_int_none none 0 w).mono ?_
    rintro e w' ⟨rfl, rfl⟩
    exact ⟨rfl, by simpa [sortI] using hs⟩
  · injection h1 with q1 q2 q3
    subst q1; subst q3
    have hg := (Array.getElem?_eq_some_iff.1 h3).1
    rw [flat_eI, Nat.mul_one] at h7
    have hH := holds_of_blockI (ss := xs) h3 h7
    refine (Try.slices_Sort_int g 0 c xs w hH hg (by omega)).mono ?_
    rintro e w' ⟨rfl, n, os, rfl⟩
    refine ⟨rfl, ?_⟩
    have hlen : (sortI xs).length = xs.length := sortI_len xs
    have hown : OwnR (Go.Sort.grow (Go.Sort.putRow (Value.int .i64) (Go.Sort.ahead w n) g 0 (sortI xs).toArray) os) W.heap.size 3 1 (.slice (some ⟨g, 0, none⟩) (sortI xs).length c) (sortI xs).length ((sortI xs).flatMap eI) := by
      refine ⟨by rw [flat_eI]; simp, .inr ⟨g, c, _, rfl, h2, heap_sortedI _ h3, by omega, h5, by simpa [Go.Sort.putCells] using h6, ?_⟩⟩
      rw [flat_eI, Nat.mul_one]
      exact take_putCellsI cur (sortI xs) (by omega)
    obtain ⟨A', c', e1, hs'⟩ := hs.rowTurn hown (grownBy_sortedI _) (.inl rfl)
    injection e1 with e2 e3 e4
    subst e2; subst e4
    exact hs'
end Go.Proofs.Ytaofhbjlbdpjhaa
