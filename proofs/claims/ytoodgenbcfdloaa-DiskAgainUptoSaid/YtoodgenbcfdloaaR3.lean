/- DiskAgain says true of every input, and leaves it as it was. (Laid by wip/tools/genrow.py.) -/
import Derived.Test.YtoodgenbcfdloaaA3
import Derived.Test.YtoodgenbcfdloaaO2
import Derived.Test.YtoodgenbcfdloaaO1
import Derived.Test.YtoodgenbcfdloaaRows
import Derived.Test.YtoodgenbcfdloaaSlB
import Derived.Deep.CondSized
set_option linter.unusedVariables false
set_option linter.unusedSimpArgs false
namespace Go.Proofs.Ytoodgenbcfdloaa
open Go.Sl Go.ChangeShapes Go.WideShapes Go.ChangeAt Go.RowKit

theorem trodAll_3 {H : Type} {enc : TypeId × Value → H} {P : Program} {w : World} {base : Nat} {spare : Nat → Bool} {held : Bool} {t0 t1 t2 t3 t4 : TypeId} {args : Array Value} {ds : List (DataW H)} {ps : List MemPlace} (h : DataW.TrodAll enc P w base spare held [t0, t1, t2, t3, t4] args.toList ds ps) :
    ∃ v0 v1 v2 v3 v4 d0 d1 d2 d3 d4 p0 p1 p2 p3 p4, args = #[v0, v1, v2, v3, v4] ∧ ds = [d0, d1, d2, d3, d4] ∧ ps = p0 ++ (p1 ++ (p2 ++ (p3 ++ p4))) ∧ DataW.Trod enc P w base spare held t0 v0 d0 p0 ∧ DataW.Trod enc P w base spare held t1 v1 d1 p1 ∧ DataW.Trod enc P w base spare held t2 v2 d2 p2 ∧ DataW.Trod enc P w base spare held t3 v3 d3 p3 ∧ DataW.Trod enc P w base spare held t4 v4 d4 p4 := by
  obtain ⟨v0, vs0, d0, ds0, p0, q0, hargs, rfl, rfl, h0, r0⟩ := trodAll_cons h
  obtain ⟨v1, vs1, d1, ds1, p1, q1, rfl, rfl, rfl, h1, r1⟩ := trodAll_cons r0
  obtain ⟨v2, vs2, d2, ds2, p2, q2, rfl, rfl, rfl, h2, r2⟩ := trodAll_cons r1
  obtain ⟨v3, vs3, d3, ds3, p3, q3, rfl, rfl, rfl, h3, r3⟩ := trodAll_cons r2
  obtain ⟨v4, vs4, d4, ds4, p4, q4, rfl, rfl, rfl, h4, r4⟩ := trodAll_cons r3
  obtain ⟨rfl, rfl, rfl⟩ := trodAll_nil r4
  exact ⟨v0, v1, v2, v3, v4, d0, d1, d2, d3, d4, p0, p1, p2, p3, p4, by cases args; simp_all, rfl, by simp, h0, h1, h2, h3, h4⟩
theorem own3 : ownKnob Try.prog.godebug = none := by kernel_rfl
theorem laidOut3 : laidOutB Try.prog = true := by kernel_rfl
set_option maxRecDepth 100000 in
theorem diskAgain_lifted (os : Os) (started : os.Started) (H : Type) (enc : TypeId × Value → H) (F : Stop.Interp) :
    ReturnsInHanded {} Try.checked os 3 .any ((Rows.OpenSpec.upto Rows.diskAgainSpec).pre6 enc Try.prog Try.f3 Rows.diskAgainUptoRow.domain false) (((Rows.OpenSpec.upto Rows.diskAgainSpec).at F).post enc Try.prog Try.f3 false true false false) := by
  refine returnsInHanded_of_cond_sized (C := Try.checked) (s := (Rows.OpenSpec.upto Rows.diskAgainSpec)) (k := Rows.uptoSmall) rfl own3 started (by kernel_rfl) Try.func3
    (OpenSpec.witness (enc := enc) (C := Try.checked) (s := (Rows.OpenSpec.upto Rows.diskAgainSpec)) (k := Rows.uptoSmall) rfl false ⟨#[], #[.int .i64 0, .slice none 0 0, .slice none 0 0, .slice none 0 0, .slice none 0 0], []⟩ 8 (by kernel_rfl) (by kernel_rfl) (by kernel_rfl) (x := ([.lit (.int .i64 0), .nil, .nil, .nil, .nil], [], [])) (by kernel_rfl) rfl (by kernel_rfl)) ?_
  intro W base args ds gs before hval0 hW hcnd hk hsz0 _
  have hval : ∀ (j : Nat) t v, Try.f3.params[j]? = some t → args[j]? = some v → Value.okWide Try.prog W .any base t v := hval0
  have hW' := hW
  obtain ⟨p, q, hA0, hV, rfl, hfz, hnd⟩ := hW
  have hA : DataW.TrodAll enc Try.prog W 0 (fun _ => true) true Try.f3.params.toList args.toList ds p := hA0
  rw [Try.params3] at hA hval
  obtain ⟨v0, v1, v2, v3, v4, d0, d1, d2, d3, d4, p0, p1, p2, p3, p4, rfl, rfl, rfl, h0, h1, h2, h3, h4⟩ := trodAll_3 hA
  obtain ⟨rfl, rfl⟩ := trodVars_none hV
  obtain ⟨n0, rfl, g0⟩ := arg_int (hval 0 3 v0 rfl rfl) h0
  obtain ⟨A1, c1, l1, rfl, g1, b1⟩ := argB_list (j := 1) (ty_info (TOK 22 _ rfl)).1 opnB_files (hval 1 22 v1 rfl rfl) h1 hsz0 hk rfl rfl
  obtain ⟨A2, c2, l2, rfl, g2⟩ := arg_list (j := 2) (ty_info (TOK 23 _ rfl)).1 opn_bytes (hval 2 23 v2 rfl rfl) h2 hsz0 rfl rfl
  obtain ⟨A3, c3, l3, rfl, g3, b3⟩ := argB_list (j := 3) (ty_info (TOK 24 _ rfl)).1 opnB_cuts (hval 3 24 v3 rfl rfl) h3 hsz0 hk rfl rfl
  obtain ⟨A4, l4, c4, rfl, g4⟩ := open_arrs64 (ty_info (TOK 25 _ rfl)).1 (ty_info (TOK 57 _ rfl)).1 (by kernel_rfl) (by kernel_rfl) (ty_info (TOK 3 _ rfl)).1 (hval 4 25 v4 rfl rfl) h4
  refine (DiskAgain_call W n0 A1 c1 l1 A2 c2 l2 A3 c3 l3 A4 c4 l4 g0 g1.1 g1.2.2.1 (Nat.le_trans (Nat.le_max_left _ _) b1) (Nat.le_trans (Nat.le_max_right _ _) b1) (fun r hr => g1.2.1.names r.f (List.mem_map.2 ⟨r, hr, rfl⟩)) g2.1 g2.2.2 g3.1 b3 g4.1 (by have h5 := g4.2.1; have h6 := g4.2.2.1; unfold maxLen at h6; omega)).mono fun e W' he => ?_
  cases e with
  | returned v => ?_
  | _ => exact he.elim
  obtain ⟨rfl, hs⟩ := he
  exact ⟨_, rfl, post_of_law laidOut3 (by kernel_rfl) rfl (ty_info (TOK 4 _ rfl)).1 rfl hW' rfl rfl rfl hs.below⟩
theorem diskAgain_holds : Rows.DiskAgainUptoSaid :=
  OpenClaim.holds_of_cond 3 Try.f3 rfl rfl rfl rfl rfl rfl rfl ⟨rfl, rfl, rfl, rfl, rfl⟩ rfl rfl rfl rfl rfl (by kernel_rfl) Try.func3 (by kernel_rfl)
    (of_decide_eq_true (by kernel_rfl)) (by unfold Func.isWrapper; first | (rw [if_pos (by decide +kernel)]; kernel_rfl) | (rw [if_neg (by decide +kernel)]; exact ⟨rfl, rfl⟩))
    (fun os started H enc _ F => diskAgain_lifted os started H enc F)
end Go.Proofs.Ytoodgenbcfdloaa
