/- An array of the call's own, and its front part. -/
import Derived.Test.YtbmeafeojcgndaaDoorSlB
import Derived.Test.YtbmeafeojcgndaaDoorV33
import Derived.Test.YtbmeafeojcgndaaDoorV5
import Derived.Test.YtbmeafeojcgndaaDoorCards
import Derived.Test.YtbmeafeojcgndaaDoorTie
import Derived.ProofKit
import Derived.Deep.DeepHandedRow
import Derived.Lib.LaidTab
import Derived.Lib.LaidU8T
set_option linter.unusedVariables false
set_option linter.unusedSimpArgs false
namespace Go.Sl
open Go.RowKit
section
variable {r : Option Nat} {P : Program} {T : List (Nat × TI)} {ops : Array Oper} {Q : Exit → Act → World → Prop} {rest : List Oper} {n : Nat} {s : List (Nat × Value)} {τ : Nat → Value} {ds : List Deferred} {w : World}
  {ty : TypeId} {ps : String} {af : Array Edge} {d : Nat}
/-- A new variable, its place and its world told. -/
theorem LW_allocW {t : TypeId} {ti : TI} (cs : Array Value) (hT : TyOK P T) (ht : lookT T t = some ti) (hcs : ti.zero.cells = cs) (k : LW r P ops Q rest (FR n ((d, .pointer (some ⟨w.heap.size, 0, none⟩)) :: s) τ ds) (w.alloc (.cells cs t))) :
    LW r P ops Q (⟨some d, .alloc t, ty, ps, af, none⟩ :: rest) (FR n s τ ds) w := by
  refine LW_run (v := .pointer (some ⟨w.heap.size, 0, none⟩)) (w' := w.alloc (.cells ti.zero.cells t (0, 0))) rfl (fun c e => by cases e) ?_ (by rw [put_FR, hcs]; exact k)
  show Sem.run P (do let v ← Instr.alloc t true (.tuple #[]); pure (Next.value v)) w = _
  simp only [Instr.alloc, Sem.run_bind, ty_zero (hT _ _ ht) w, Result.andThen, newVar, newRow, newObj, Sem.run, Sem.run_pure]
  rfl
theorem LW_arrH {t e : TypeId} {ti te : TI} {len : Nat} {x y : Operand} {k1 : IntKind} {hi : Int} {b : Nat} (hT : TyOK P T) (hx : EVO n s x = some (.pointer (some ⟨b, 0, none⟩))) (hy : EVO n s y = some (.int k1 hi)) (ht : lookT T t = some ti) (hu : ti.u = .array len e) (he : lookT T e = some te) (h0 : 0 ≤ hi) (h1 : hi ≤ len)
    (k : LW r P ops Q rest (FR n ((d, .slice (some ⟨b, 0, none⟩) hi.toNat len) :: s) τ ds) w) : LW r P ops Q (⟨some d, .slice t x none (some y) none, ty, ps, af, none⟩ :: rest) (FR n s τ ds) w := by
  refine LW_run (v := .slice (some ⟨b, 0, none⟩) hi.toNat len) rfl (fun c e => by cases e) ?_ (by rw [put_FR]; exact k)
  show Sem.run P (do let v ← Instr.sliceAt t ((FR n s τ ds).eval x) none (some ((FR n s τ ds).eval y)) none; pure (Next.value v)) w = _
  have hu1 := (ty_info (hT _ _ ht)).1
  rw [hu] at hu1
  have e1 : P.arrayLen t = len := by simp [Program.arrayLen, hu1]
  have e2 : P.elem t = e := by simp [Program.elem, hu1]
  have hu2 : P.underlying t = some (.array (P.arrayLen t) (P.elem t)) := by rw [e1, e2]; exact hu1
  have ha : (⟨b, 0, none⟩ : Addr).add 0 = ⟨b, 0, none⟩ := by unfold Addr.add; split <;> simp_all
  rw [eval_of hx, eval_of hy, Sem.run_bind, run_sliceAt_array_h w t _ hu2 k1 hi h0 (by rw [e1]; exact h1), e2, ty_sizeOf (hT _ _ he)]
  simp [Result.andThen, slicedAt, e1, ha]
end
end Go.Sl

/- Walks: a number's text. -/
set_option linter.unusedVariables false
set_option linter.unusedSimpArgs false
namespace Go.Proofs.YtbmeafeojcgndaaDoor
open Go Go.Sl Go.RowKit
set_option maxRecDepth 100000
abbrev Tab (W : World) : Prop := Go.Lib.TabIs Tryd.prog W "internal/strconv.uint64pow10" .u64 Go.Lib.pow10Tab
theorem Tab.to {W w : World} {L : List HProp} (h : Tab W) (hs : Sat W w L) : Tab w := Lib.tabBelow_of_tabIs h w hs.below
attribute [local irreducible] CW LW DW FR DP Calls Res Ret
section
variable {W : World} {L : List HProp}
theorem small_call (w : World) (u : Nat) (h : u < 100) : Calls Tryd.prog 69 [Value.int .i64 (u : Int)].toArray w (Ret fun v w' => v = sv (Lib.decDigits u) ∧ w' = w) :=
  (Tryd.internal_strconv_small u h w).mono fun e w' hh => by
    obtain ⟨rfl, rfl⟩ := hh
    exact ret_mk ⟨rfl, rfl⟩
theorem numDigits_call (w : World) (u : Nat) (h1 : 1 ≤ u) (h2 : u < 18446744073709551616) (ht : Tab w) : Calls Tryd.prog 70 [Value.int .u64 (u : Int)].toArray w (Ret fun v w' => v = .int .i64 (Lib.nDigits u : Nat) ∧ w' = w) :=
  (Tryd.internal_strconv_numDigits u h1 h2 w ht).mono fun e w' hh => by
    obtain ⟨rfl, rfl⟩ := hh
    exact ret_mk ⟨rfl, rfl⟩
theorem nDigits_le20 (u : Nat) (h : u < 18446744073709551616) : Lib.nDigits u ≤ 20 := by
  apply Classical.byContradiction
  intro hn
  have hp := Lib.nDigits_pos u
  have key : ∀ (k u : Nat), Lib.nDigits u = k + 1 → 0 < k → 10 ^ k ≤ u := by
    intro k
    induction k with
    | zero => intro u _ h; omega
    | succ k ih =>
      intro u hu _
      by_cases hs : u < 10
      · rw [Lib.nDigits_small hs] at hu; omega
      · rw [Lib.nDigits_big hs] at hu
        rcases Nat.eq_zero_or_pos k with rfl | hk
        · omega
        · have := ih (u / 10) (by omega) hk
          rw [Nat.pow_succ]; omega
  have h2 := key (Lib.nDigits u - 1) u (by omega) (by omega)
  have h3 : 10 ^ 20 ≤ 10 ^ (Lib.nDigits u - 1) := Nat.pow_le_pow_right (by omega) (by omega)
  have h4 : (10 : Nat) ^ 20 = 100000000000000000000 := by decide
  omega
set_option maxHeartbeats 2000000 in
theorem appendUint_call (ht : Tab W) (w : World) (out : List UInt8) (u : Nat) (hu : u < 18446744073709551616) (A : Option Addr) (c : Nat) (hs : Sat W w (RowOf eB 5 1 A c out :: L)) (ho : out.length ≤ 70368744177664) :
    Calls Tryd.prog 82 [Value.slice A out.length c, .int .u64 (u : Int), .int .i64 10].toArray w (Ret fun r w' => ∃ A' c', r = .slice A' (out ++ Lib.decDigits u).length c' ∧ Sat W w' (RowOf eB 5 1 A' c' (out ++ Lib.decDigits u) :: L)) := by
  refine Calls_of Tryd.func82 rfl 36 Tryd.ntmps82 rfl ?_
  have hdl := Lib.decDigits_length u
  have hn20 := nDigits_le20 u hu
  by_cases h100 : u < 100
  · (repeat' (first | (refine isLW ?_; first | refine LW_nil ?_ | (refine isLcall ?_; first | (refine LW_call (cap := []) rfl rfl ent69 (small_call _ u h100) ?_; rintro _ w2 ⟨rfl, rfl⟩) | (refine LW_appendS 0 (xs := out) (ys := Lib.decDigits u) hs TOK rfl rfl rfl rfl rfl rfl rfl rfl rfl rfl rfl rfl (by omega) ?_; clear hs; intro A2 c2 w hs)) | (refine isLbin ?_; first | (refine LW_cmp rfl (fun _ => ?_) (fun _ => ?_) <;> try (exfalso; omega))) | refine LW_convE (u : Int) TOK rfl rfl rfl rfl (wrap_i64 (by omega) (by omega)) ?_ | refine LW_pure TOK rfl ?_) | (with_reducible first | refine then_n ?_ | refine CW_seq ?_ | refine CW_region ?_ | refine CW_ret ?_ | refine then_r ?_) | refine CW_true rfl ?_ | refine RET1 Tryd.results82 rfl ?_))
    all_goals exact ⟨A2, c2, rfl, hs⟩
  · (repeat' (first | refine LW_allocW Lib.zeros24 TOK rfl rfl ?_ | (refine isLW ?_; first | refine LW_nil ?_ | (refine isLbin ?_; first | (refine LW_cmp rfl (fun _ => ?_) (fun _ => ?_) <;> try (exfalso; omega))) | refine LW_pure TOK rfl ?_) | (with_reducible first | refine then_n ?_ | refine CW_seq ?_ | refine CW_region ?_ | refine CW_skip ?_) | refine CW_true rfl ?_ | refine CW_false rfl ?_))
    obtain ⟨w0, hw0⟩ : ∃ w0, w = w0 := ⟨_, rfl⟩
    have hH0 := Lib.holds_zero0 w 98 (Lib.nDigits u) (by omega)
    have hs1 : Sat W (w.alloc (.cells Lib.zeros24 98)) (Bk w.heap.size (.cells Lib.zeros24 98) :: RowOf eB 5 1 A c out :: L) := hs.alloc _
    have hfmt := Tryd.internal_strconv_formatBase10 w.heap.size 0 24 u (Array.replicate (Lib.nDigits u) 0) (w.alloc (.cells Lib.zeros24 98)) hH0 (by rw [Array.size_replicate]; exact Lib.lt_pow_nDigits u) hu (by rw [Array.size_replicate]; omega)
    rw [Array.size_replicate] at hfmt
    have hf2 : Calls Tryd.prog 71 [Value.slice (some ⟨w.heap.size, 0, none⟩) (Lib.nDigits u) 24, .int .u64 (u : Int)].toArray (w.alloc (.cells Lib.zeros24 98)) (Ret fun v w' => v = .tuple #[] ∧ Sat W w' (RowOf eB 5 1 A c out :: L) ∧ Rd eB w' (some ⟨w.heap.size, 0, none⟩) (Lib.decDigits u)) := hfmt.mono fun e w' hh => by
      obtain ⟨rfl, k, v', dk, rfl, hF⟩ := hh
      obtain ⟨os, eo⟩ := Lib.fin_at w (.cells Lib.zeros24 98) dk k 0
      refine ret_mk ⟨rfl, ?_, .inr ⟨w.heap.size, 0, rfl, fun j v hj => ?_⟩⟩
      · rw [eo]
        exact hs.more (Lib.below_grow w.heap.size w (Nat.le_refl _) k os)
      · have hjl : j < (Lib.decDigits u).length := by
          have h5 := (List.getElem?_eq_some_iff.1 hj).1
          have h6 := flat_len (enc := eB) (sz := 1) (fun _ => rfl) (Lib.decDigits u)
          omega
        have e5 : ((Lib.decDigits u).flatMap eB)[j]? = some (Value.int .u8 ((Lib.decDigits u)[j].toNat : Int)) := by
          have := flat_get (enc := eB) (sz := 1) (fun _ => rfl) (List.getElem?_eq_getElem hjl) (k := 0) rfl
          simpa using this
        rw [e5] at hj
        cases hj
        rw [Lib.row_is_numeral hF j hjl, World.cell?_drewN]
        exact Go.Sort.cell?_putRow (fun (b : UInt8) => Value.int .u8 (b.toNat : Int)) _ w.heap.size 0 _ dk hH0 (by rw [hF.size, Array.size_replicate]) j (by rw [hF.size]; omega)
    clear hH0 hfmt
    (repeat' (first | (refine isLW ?_; first | refine LW_nil ?_ | (refine isLcall ?_; first | (refine LW_call (cap := []) rfl rfl ent70 (numDigits_call _ u (by omega) hu (Tab.to ht hs1)) ?_; rintro _ w2 ⟨rfl, rfl⟩) | (refine LW_call (cap := []) rfl rfl ent71 hf2 ?_; clear hs hs1; rintro _ w2 ⟨rfl, hs, hrd⟩) | (refine LW_append 0 (xs := out) (ys := Lib.decDigits u) eB_ok.1 hs TOK rfl (by rw [hdl]; rfl) hrd eB_ok.2 rfl rfl rfl rfl rfl rfl rfl (by unfold maxLen; omega) (by simp only []; omega) ?_; clear hs; intro A2 c2 w hs)) | refine LW_arrH TOK rfl rfl rfl rfl rfl (by omega) (by omega) ?_ | refine LW_pure TOK rfl ?_) | (with_reducible first | refine then_n ?_ | refine CW_seq ?_ | refine CW_region ?_ | refine CW_ret ?_ | refine then_r ?_) | refine RET1 Tryd.results82 rfl ?_))
    all_goals exact ⟨A2, c2, rfl, hs⟩
theorem appendInt66_call (ht : Tab W) (w : World) (out : List UInt8) (n : Int) (h0 : -9223372036854775808 ≤ n) (h1 : n ≤ 9223372036854775807) (A : Option Addr) (c : Nat) (hs : Sat W w (RowOf eB 5 1 A c out :: L)) (ho : out.length ≤ 35184372088832) :
    Calls Tryd.prog 66 [Value.slice A out.length c, .int .i64 n, .int .i64 10].toArray w (Ret fun r w' => ∃ A' c', r = .slice A' (out ++ Lib.itoa n).length c' ∧ Sat W w' (RowOf eB 5 1 A' c' (out ++ Lib.itoa n) :: L)) := by
  refine Calls_of Tryd.func66 rfl 21 Tryd.ntmps66 rfl ?_
  unfold Lib.itoa
  by_cases hneg : n < 0
  · rw [if_pos hneg]
    obtain ⟨m, hm⟩ : ∃ m : Nat, n.natAbs = m := ⟨_, rfl⟩
    obtain ⟨wm, hwm⟩ : ∃ wm : Nat, (wm : Int) = n + 18446744073709551616 := ⟨(n + 18446744073709551616).toNat, by omega⟩
    have e1 : IntKind.u64.wrap n = (wm : Int) := by simp [IntKind.wrap, IntKind.bits, IntKind.signed]; omega
    have e2 : IntKind.u64.wrap (0 - (wm : Int)) = (m : Int) := by simp [IntKind.wrap, IntKind.bits, IntKind.signed]; omega
    rw [hm]
    have e3 : out ++ 45 :: Lib.decDigits m = out ++ [45] ++ Lib.decDigits m := by simp
    rw [e3]
    (repeat' (first | (refine isLW ?_; first | refine LW_nil ?_ | (refine isLcall ?_; first | (refine LW_append1 0 (xs := out) (z := (45 : UInt8)) eB_ok hs TOK rfl rfl rfl rfl rfl rfl rfl rfl rfl rfl (by unfold maxLen; omega) (by simp only []; omega) ?_; clear hs; intro A c w hs) | (refine LW_call (cap := []) rfl rfl ent82 (appendUint_call ht _ (out ++ [45]) m (by omega) A c hs (by rw [List.length_append, List.length_singleton]; omega)) ?_; clear hs; rintro _ w2 ⟨A2, c2, rfl, hs⟩)) | (refine isLbin ?_; first | (refine LW_cmp rfl (fun _ => ?_) (fun _ => ?_) <;> try (exfalso; omega))) | refine LW_convE (wm : Int) TOK rfl rfl rfl rfl e1 ?_ | refine LW_unE (m : Int) rfl e2 ?_ | refine LW_pure TOK rfl ?_ | (refine LW_buildSlice TOK hs rfl rfl rfl rfl rfl rfl rfl ?_; clear hs; intro _ w hs)) | (with_reducible first | refine then_n ?_ | refine CW_seq ?_ | refine CW_region ?_ | refine CW_ret ?_) | refine CW_true rfl ?_ | refine RET1 Tryd.results66 rfl ?_))
    all_goals exact ⟨A2, c2, rfl, hs⟩
  · rw [if_neg hneg]
    obtain ⟨m, hm⟩ : ∃ m : Nat, (m : Int) = n := ⟨n.toNat, by omega⟩
    have e1 : IntKind.u64.wrap n = (m : Int) := by simp [IntKind.wrap, IntKind.bits, IntKind.signed]; omega
    have e4 : n.toNat = m := by omega
    rw [e4]
    (repeat' (first | (refine isLW ?_; first | refine LW_nil ?_ | (refine isLcall ?_; first | (refine LW_call (cap := []) rfl rfl ent82 (appendUint_call ht _ out m (by omega) A c hs (by omega)) ?_; clear hs; rintro _ w2 ⟨A2, c2, rfl, hs⟩)) | (refine isLbin ?_; first | (refine LW_cmp rfl (fun _ => ?_) (fun _ => ?_) <;> try (exfalso; omega))) | refine LW_convE (m : Int) TOK rfl rfl rfl rfl e1 ?_ | refine LW_pure TOK rfl ?_) | (with_reducible first | refine then_n ?_ | refine CW_seq ?_ | refine CW_region ?_ | refine CW_skip ?_ | refine CW_ret ?_) | refine CW_false rfl ?_ | refine RET1 Tryd.results66 rfl ?_))
    all_goals exact ⟨A2, c2, rfl, hs⟩
theorem appendInt_call (ht : Tab W) (w : World) (out : List UInt8) (n : Int) (h0 : -9223372036854775808 ≤ n) (h1 : n ≤ 9223372036854775807) (A : Option Addr) (c : Nat) (hs : Sat W w (RowOf eB 5 1 A c out :: L)) (ho : out.length ≤ 35184372088832) :
    Calls Tryd.prog 49 [Value.slice A out.length c, .int .i64 n, .int .i64 10].toArray w (Ret fun r w' => ∃ A' c', r = .slice A' (out ++ Lib.itoa n).length c' ∧ Sat W w' (RowOf eB 5 1 A' c' (out ++ Lib.itoa n) :: L)) := by
  refine Calls_of Tryd.func49 rfl 11 Tryd.ntmps49 rfl ?_
  (repeat' (first | (refine isLW ?_; first | refine LW_nil ?_ | (refine isLcall ?_; first | (refine LW_call (cap := []) rfl rfl ent66 (appendInt66_call ht _ out n h0 h1 A c hs ho) ?_; clear hs; rintro _ w2 ⟨A2, c2, rfl, hs⟩)) | refine LW_pure TOK rfl ?_) | (with_reducible first | refine then_n ?_ | refine CW_seq ?_ | refine CW_region ?_ | refine CW_ret ?_) | refine RET1 Tryd.results49 rfl ?_))
  all_goals exact ⟨A2, c2, rfl, hs⟩
theorem itoa_call (ht : Tab W) (w : World) (n : Int) (h0 : -9223372036854775808 ≤ n) (h1 : n ≤ 9223372036854775807) (hs : Sat W w L) : Calls Tryd.prog 21 [Value.int .i64 n].toArray w (Ret fun v w' => v = sv (Lib.itoa n) ∧ Sat W w' L) :=
  (Tryd.strconv_Itoa n h0 h1 w (Tab.to ht hs)).mono fun e w' hh => by
    obtain ⟨rfl, k, os, rfl⟩ := hh
    exact ret_mk ⟨rfl, hs.more (Lib.below_grow w.heap.size w (Nat.le_refl _) k os)⟩
end
end Go.Proofs.YtbmeafeojcgndaaDoor

/- The world in which the library's tables lie: what a row's list gives, and one such world. -/
set_option linter.unusedVariables false
set_option linter.unusedSimpArgs false
namespace Go.Proofs.YtbmeafeojcgndaaDoor
open Go Go.Sl Go.RowKit Go.ChangeShapes Go.WideShapes Go.ChangeAt
set_option maxRecDepth 100000
abbrev tabsL : List (String × DataW Unit) := [("math/bits.deBruijn32tab", Rows.laid_math_bits_deBruijn32tab), ("math/bits.deBruijn64tab", Rows.laid_math_bits_deBruijn64tab), ("internal/strconv.uint64pow10", Rows.laid_internal_strconv_uint64pow10), ("unicode/utf8.acceptRanges", Rows.laid_unicode_utf8_acceptRanges), ("unicode/utf8.first", Rows.laid_unicode_utf8_first)]
theorem gPow : Tryd.prog.globalNamed "internal/strconv.uint64pow10" = some 0 := by kernel_rfl
theorem gPowType : (Tryd.prog.globals[0]?).map (·.type) = some 112 := by kernel_rfl
theorem cells112 : Tryd.prog.cellsOf 112 = 20 := by kernel_rfl
theorem cells99 : Tryd.prog.cellsOf 99 = 1 := by kernel_rfl
theorem pow_data : (Rows.laid_internal_strconv_uint64pow10 : DataW Unit) = Go.Lib.tabData .u64 Go.Lib.pow10Tab := by rfl
theorem tabL_of {W : World} (h : laidMet Tryd.prog tabsL W) : Tab W := by
  obtain ⟨g', t', cs, fuel, p, hg', ht', hvar, hd⟩ := Lib.laidMet.reads h (.tail _ (.tail _ (.head _)))
  obtain rfl := Option.some.inj (gPow.symm.trans hg')
  obtain rfl := Option.some.inj (gPowType.symm.trans ht')
  rw [pow_data] at hd
  unfold Tab Go.Lib.TabIs
  rw [hvar, ← Go.Lib.cells_of_tab (ty_info (TOK 112 _ rfl)).1 (ty_info (TOK 99 _ rfl)).1 cells99 cells112 hd]
def u8_ren : Go.Shelf.Ren := ⟨fun n => n, fun | 119 => 116 | 138 => 118 | 139 => 119 | n => n, fun | 3 => 1 | 4 => 2 | n => n⟩
theorem u8_types : U8Types Tryd.prog u8_ren := ⟨(ty_info (TOK 5 _ rfl)).1, (ty_info (TOK 116 _ rfl)).1, (ty_info (TOK 118 _ rfl)).1, (ty_info (TOK 119 _ rfl)).1⟩
theorem u8_extra : U8Extra Tryd.prog u8_ren := ⟨by kernel_rfl, by kernel_rfl, by kernel_rfl, by kernel_rfl, by kernel_rfl, by kernel_rfl, by kernel_rfl⟩
theorem first_data : Rows.laid_unicode_utf8_first = Go.Lib.firstData := by kernel_rfl
theorem accept_data : (Rows.laid_unicode_utf8_acceptRanges : DataW Unit) = Go.Lib.acceptData := by kernel_rfl
theorem utf8_of {W : World} (h : laidMet Tryd.prog tabsL W) : Lib.Utf8Tabs 1 2 W :=
  utf8Tabs_of_readsT u8_types u8_extra (first_data ▸ Lib.laidMet.reads h (.tail _ (.tail _ (.tail _ (.tail _ (.head _)))))) (accept_data ▸ Lib.laidMet.reads h (.tail _ (.tail _ (.tail _ (.head _)))))
def setC (cs : Array Value) : Obj → Obj
  | .cells _ t frozen => .cells cs t frozen
  | o => o
/-- The settled world, its tables holding what their initialisers lay. -/
noncomputable def laidWorld (os : Os) (args : Array Value) : World :=
  { World.holding Tryd.prog os ⟨#[], args, []⟩ with heap := (((((World.holding Tryd.prog os ⟨#[], args, []⟩).heap.modify 0 (setC #[.int .u64 1, .int .u64 10, .int .u64 100, .int .u64 1000, .int .u64 10000, .int .u64 100000, .int .u64 1000000, .int .u64 10000000, .int .u64 100000000, .int .u64 1000000000, .int .u64 10000000000, .int .u64 100000000000, .int .u64 1000000000000, .int .u64 10000000000000, .int .u64 100000000000000, .int .u64 1000000000000000, .int .u64 10000000000000000, .int .u64 100000000000000000, .int .u64 1000000000000000000, .int .u64 10000000000000000000])).modify 1 (setC (Lib.firstTab.map fun z => Value.int .u8 z).toArray)).modify 2 (setC #[.int .u8 128, .int .u8 191, .int .u8 160, .int .u8 191, .int .u8 128, .int .u8 159, .int .u8 144, .int .u8 191, .int .u8 128, .int .u8 143, .int .u8 0, .int .u8 0, .int .u8 0, .int .u8 0, .int .u8 0, .int .u8 0, .int .u8 0, .int .u8 0, .int .u8 0, .int .u8 0, .int .u8 0, .int .u8 0, .int .u8 0, .int .u8 0, .int .u8 0, .int .u8 0, .int .u8 0, .int .u8 0, .int .u8 0, .int .u8 0, .int .u8 0, .int .u8 0])).modify 3 (setC #[.int .u8 0, .int .u8 1, .int .u8 28, .int .u8 2, .int .u8 29, .int .u8 14, .int .u8 24, .int .u8 3, .int .u8 30, .int .u8 22, .int .u8 20, .int .u8 15, .int .u8 25, .int .u8 17, .int .u8 4, .int .u8 8, .int .u8 31, .int .u8 27, .int .u8 13, .int .u8 23, .int .u8 21, .int .u8 19, .int .u8 16, .int .u8 7, .int .u8 26, .int .u8 12, .int .u8 18, .int .u8 6, .int .u8 11, .int .u8 5, .int .u8 10, .int .u8 9])).modify 4 (setC #[.int .u8 0, .int .u8 1, .int .u8 56, .int .u8 2, .int .u8 57, .int .u8 49, .int .u8 28, .int .u8 3, .int .u8 61, .int .u8 58, .int .u8 42, .int .u8 50, .int .u8 38, .int .u8 29, .int .u8 17, .int .u8 4, .int .u8 62, .int .u8 47, .int .u8 59, .int .u8 36, .int .u8 45, .int .u8 43, .int .u8 51, .int .u8 22, .int .u8 53, .int .u8 39, .int .u8 33, .int .u8 30, .int .u8 24, .int .u8 18, .int .u8 12, .int .u8 5, .int .u8 63, .int .u8 55, .int .u8 48, .int .u8 27, .int .u8 60, .int .u8 41, .int .u8 37, .int .u8 16, .int .u8 46, .int .u8 35, .int .u8 44, .int .u8 21, .int .u8 52, .int .u8 32, .int .u8 23, .int .u8 11, .int .u8 54, .int .u8 26, .int .u8 40, .int .u8 15, .int .u8 34, .int .u8 20, .int .u8 31, .int .u8 10, .int .u8 25, .int .u8 14, .int .u8 19, .int .u8 9, .int .u8 13, .int .u8 8, .int .u8 7, .int .u8 6]) }
end Go.Proofs.YtbmeafeojcgndaaDoor

/- Plain words: the text of a value. -/
set_option linter.unusedVariables false
set_option linter.unusedSimpArgs false
namespace Go.Proofs.YtbmeafeojcgndaaDoor
open Go Go.Sl Go.RowKit
set_option maxRecDepth 100000
/-- Texts, with commas between them. -/
def joinC : List (List UInt8) → List UInt8
  | [] => []
  | [x] => x
  | x :: y :: l => x ++ 44 :: joinC (y :: l)
theorem joinC_cons2 (x y : List UInt8) (l : List (List UInt8)) : joinC (x :: y :: l) = x ++ 44 :: joinC (y :: l) := rfl
theorem joinC_snoc (t : List UInt8) : ∀ l : List (List UInt8), l ≠ [] → joinC (l ++ [t]) = joinC l ++ 44 :: t
  | [], h => absurd rfl h
  | [x], _ => rfl
  | x :: y :: l, _ => by
    show joinC (x :: y :: (l ++ [t])) = _
    rw [joinC_cons2, joinC_cons2]
    have := joinC_snoc t (y :: l) (by simp)
    rw [List.cons_append] at this
    rw [this]; simp
theorem joinC_take_succ {l : List (List UInt8)} {g : Nat} {t : List UInt8} (h : l[g]? = some t) : joinC (l.take (g + 1)) = if g = 0 then t else joinC (l.take g) ++ 44 :: t := by
  have e : l.take (g + 1) = l.take g ++ [t] := by rw [List.take_add_one, h]; rfl
  rw [e]
  by_cases h0 : g = 0
  · subst h0; simp [joinC]
  · rw [if_neg h0]
    refine joinC_snoc t _ (fun hn => ?_)
    have h1 := congrArg List.length hn
    have h2 := (List.getElem?_eq_some_iff.1 h).1
    rw [List.length_take, List.length_nil] at h1
    omega
theorem joinC_len_mono {l : List (List UInt8)} : ∀ {g : Nat}, g ≤ l.length → (joinC (l.take g)).length ≤ (joinC l).length := by
  suffices h : ∀ k g, g + k = l.length → (joinC (l.take g)).length ≤ (joinC l).length by
    intro g hg; exact h (l.length - g) g (by omega)
  intro k
  induction k with
  | zero => intro g hg; rw [List.take_of_length_le (by omega)]; exact Nat.le_refl _
  | succ k ih =>
    intro g hg
    have h1 := ih (g + 1) (by omega)
    have hg2 : g < l.length := by omega
    rw [joinC_take_succ (List.getElem?_eq_getElem hg2)] at h1
    refine Nat.le_trans ?_ h1
    split
    · rename_i h0; subst h0; simp [joinC]
    · simp
def listB (ts : List (List UInt8)) : List UInt8 := 91 :: (joinC ts ++ [93])
def memB (p : List UInt8 × List UInt8) : List UInt8 := quoteB p.1 ++ 58 :: p.2
def objB (ns ts : List (List UInt8)) : List UInt8 := 123 :: (joinC ((sortP (ns.zip ts)).map memB) ++ [125])
def headB (k i : Int) (t : List UInt8) (ns ts : List (List UInt8)) : List UInt8 :=
  if k = 0 then nullB else if k = 1 then boolB (decide (i = 1)) else if k = 2 then Lib.itoa i else if k = 3 then quoteB t else if k = 4 then listB ts else objB ns ts
mutual
/-- The canonical text of a value. -/
def writeJ : J → List UInt8
  | .mk k i t ns xs => headB k i t ns (writeJs xs)
def writeJs : List J → List (List UInt8)
  | [] => []
  | x :: xs => writeJ x :: writeJs xs
end
theorem writeJs_eq : ∀ xs : List J, writeJs xs = xs.map writeJ
  | [] => by simp [writeJs]
  | x :: xs => by simp [writeJs, writeJs_eq xs]
/-- A value that can be written. -/
inductive WfJ : J → Prop where
  | mk {k i : Int} {t : List UInt8} {ns : List (List UInt8)} {xs : List J} (hk : 0 ≤ k ∧ k ≤ 5) (hi : k = 2 → -9223372036854775808 ≤ i ∧ i ≤ 9223372036854775807) (ho : k = 5 → ns.length = xs.length ∧ ns.Nodup) (hx : ∀ x ∈ xs, WfJ x) : WfJ (.mk k i t ns xs)
end Go.Proofs.YtbmeafeojcgndaaDoor
