/- DiskApart says true of every input, and leaves it as it was. (Laid by wip/tools/genrow.py.) -/
import Derived.Test.YtoodgenbcfdloaaB10
import Derived.Test.YtoodgenbcfdloaaO1
import Derived.Test.YtoodgenbcfdloaaRows
import Derived.Test.YtoodgenbcfdloaaSlB
set_option linter.unusedVariables false
set_option linter.unusedSimpArgs false
namespace Go.Proofs.Ytoodgenbcfdloaa
open Go.Sl Go.ChangeShapes Go.WideShapes Go.ChangeAt Go.RowKit

theorem trodAll_6 {H : Type} {enc : TypeId × Value → H} {P : Program} {w : World} {base : Nat} {spare : Nat → Bool} {held : Bool} {t0 t1 t2 t3 : TypeId} {args : Array Value} {ds : List (DataW H)} {ps : List MemPlace} (h : DataW.TrodAll enc P w base spare held [t0, t1, t2, t3] args.toList ds ps) :
    ∃ v0 v1 v2 v3 d0 d1 d2 d3 p0 p1 p2 p3, args = #[v0, v1, v2, v3] ∧ ds = [d0, d1, d2, d3] ∧ ps = p0 ++ (p1 ++ (p2 ++ p3)) ∧ DataW.Trod enc P w base spare held t0 v0 d0 p0 ∧ DataW.Trod enc P w base spare held t1 v1 d1 p1 ∧ DataW.Trod enc P w base spare held t2 v2 d2 p2 ∧ DataW.Trod enc P w base spare held t3 v3 d3 p3 := by
  obtain ⟨v0, vs0, d0, ds0, p0, q0, hargs, rfl, rfl, h0, r0⟩ := trodAll_cons h
  obtain ⟨v1, vs1, d1, ds1, p1, q1, rfl, rfl, rfl, h1, r1⟩ := trodAll_cons r0
  obtain ⟨v2, vs2, d2, ds2, p2, q2, rfl, rfl, rfl, h2, r2⟩ := trodAll_cons r1
  obtain ⟨v3, vs3, d3, ds3, p3, q3, rfl, rfl, rfl, h3, r3⟩ := trodAll_cons r2
  obtain ⟨rfl, rfl, rfl⟩ := trodAll_nil r3
  exact ⟨v0, v1, v2, v3, d0, d1, d2, d3, p0, p1, p2, p3, by cases args; simp_all, rfl, by simp, h0, h1, h2, h3⟩
theorem own6 : ownKnob Try.prog.godebug = none := by kernel_rfl
theorem laidOut6 : laidOutB Try.prog = true := by kernel_rfl
set_option maxRecDepth 100000 in
theorem diskApart_lifted (os : Os) (started : os.Started) (H : Type) (enc : TypeId × Value → H) :
    ReturnsInHanded {} Try.checked os 6 .any (Rows.diskApartSpec.pre6 enc Try.prog Try.f6 Rows.diskApartRow.domain false) (Rows.diskApartSpec.post enc Try.prog Try.f6 false true false false) := by
  refine returnsInHanded_of_change_sized (C := Try.checked) own6 started (by kernel_rfl) Try.func6
    (ChangeSpec.witness6 (enc := enc) (C := Try.checked) false ⟨#[], #[.int .i64 0, .slice none 0 0, .int .i64 0, .slice none 0 0], []⟩ 8 (by kernel_rfl) (by kernel_rfl) (by kernel_rfl) (by kernel_rfl)) ?_
  intro W base args ds gs before hval0 hW hcnd hsz0 _
  have hval : ∀ (j : Nat) t v, Try.f6.params[j]? = some t → args[j]? = some v → Value.okWide Try.prog W .any base t v := hval0
  have hW' := hW
  obtain ⟨p, q, hA0, hV, rfl, hfz, hnd⟩ := hW
  have hA : DataW.TrodAll enc Try.prog W 0 (fun _ => true) true Try.f6.params.toList args.toList ds p := hA0
  rw [Try.params6] at hA hval
  obtain ⟨v0, v1, v2, v3, d0, d1, d2, d3, p0, p1, p2, p3, rfl, rfl, rfl, h0, h1, h2, h3⟩ := trodAll_6 hA
  obtain ⟨rfl, rfl⟩ := trodVars_none hV
  obtain ⟨n0, rfl, g0⟩ := arg_int (hval 0 3 v0 rfl rfl) h0
  obtain ⟨A1, c1, l1, rfl, g1⟩ := arg_list (j := 1) (ty_info (TOK 62 _ rfl)).1 opn_ops (hval 1 62 v1 rfl rfl) h1 hsz0 rfl rfl
  obtain ⟨n2, rfl, g2⟩ := arg_int (hval 2 3 v2 rfl rfl) h2
  obtain ⟨A3, c3, l3, rfl, g3⟩ := arg_list (j := 3) (ty_info (TOK 24 _ rfl)).1 opn_cuts (hval 3 24 v3 rfl rfl) h3 hsz0 rfl rfl
  refine (DiskApart_call W n0 A1 c1 l1 n2 A3 c3 l3 ⟨g1.1, fun o ho => (g1.2.2.2 o ho).ok, fun o ho => (g1.2.2.2 o ho).rdD, fun o ho => (g1.2.2.2 o ho).rdC, g1.2.1⟩ (fun o ho => (g1.2.2.2 o ho).room.1) g2 g3.1 (by have := g3.2.2.1; dsimp only at this; omega)).mono fun e W' he => ?_
  cases e with
  | returned v => ?_
  | _ => exact he.elim
  obtain ⟨rfl, hs⟩ := he
  exact ⟨_, rfl, post_of_law laidOut6 (by kernel_rfl) rfl (ty_info (TOK 4 _ rfl)).1 rfl hW' rfl rfl rfl hs.below⟩
theorem diskApart_holds : Rows.DiskApartSaid :=
  OpenClaim.holds_of_wide 6 Try.f6 rfl rfl rfl rfl rfl rfl rfl ⟨rfl, rfl, rfl, rfl, rfl⟩ rfl rfl rfl rfl rfl (by kernel_rfl) Try.func6 (by kernel_rfl)
    (of_decide_eq_true (by kernel_rfl)) (by unfold Func.isWrapper; first | (rw [if_pos (by decide +kernel)]; kernel_rfl) | (rw [if_neg (by decide +kernel)]; exact ⟨rfl, rfl⟩))
    (fun os started H enc _ => diskApart_lifted os started H enc)
end Go.Proofs.Ytoodgenbcfdloaa
