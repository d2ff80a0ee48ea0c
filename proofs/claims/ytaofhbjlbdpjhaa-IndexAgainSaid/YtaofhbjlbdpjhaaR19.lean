/- IndexAgain says true of every row of bytes and every row of turns, and leaves both as they were. No condition. -/
import Derived.Test.YtaofhbjlbdpjhaaF19
import Derived.Test.YtaofhbjlbdpjhaaRows
set_option linter.unusedVariables false
set_option linter.unusedSimpArgs false
namespace Go.Proofs.Ytaofhbjlbdpjhaa
open Go.Sl Go.ChangeShapes Go.WideShapes Go.ChangeAt Go.RowKit

theorem own9 : ownKnob Try.prog.godebug = none := by kernel_rfl
theorem laidOut9 : laidOutB Try.prog = true := by kernel_rfl
set_option maxRecDepth 100000 in
theorem indexAgain_lifted (os : Os) (started : os.Started) (H : Type) (enc : TypeId × Value → H) :
    ReturnsInHanded {} Try.checked os 9 .any (Rows.indexAgainSpec.pre6 enc Try.prog Try.f9 Rows.indexAgainRow.domain false) (Rows.indexAgainSpec.post enc Try.prog Try.f9 false true false false) := by
  refine returnsInHanded_of_change (C := Try.checked) own9 started (by kernel_rfl) Try.func9
    (ChangeSpec.witness6 (enc := enc) (C := Try.checked) false ⟨#[], #[.slice none 0 0, .slice none 0 0], []⟩ 8 (by kernel_rfl) (by kernel_rfl) (by kernel_rfl) (by kernel_rfl)) ?_
  intro W base args ds gs before hval0 hW hcnd _
  have hval : ∀ (j : Nat) t v, Try.f9.params[j]? = some t → args[j]? = some v → Value.okWide Try.prog W .any base t v := hval0
  have hW' := hW
  obtain ⟨p, q, hA0, hV, rfl, hfz, hnd⟩ := hW
  have hA : DataW.TrodAll enc Try.prog W 0 (fun _ => true) true Try.f9.params.toList args.toList ds p := hA0
  rw [Try.params9] at hA hval
  obtain ⟨v0, v1, d0, d1, p0, p1, rfl, rfl, rfl, h0, h1⟩ := trodAll_two hA
  obtain ⟨rfl, rfl⟩ := trodVars_none hV
  obtain ⟨A, b, c, rfl, rb, hc, hcm⟩ := open_bytes8 (ty_info (TOK 81 _ rfl)).1 (ty_info (TOK 5 _ rfl)).1 (by kernel_rfl) (hval 0 81 v0 rfl rfl) h0
  obtain ⟨B, ts, ct, rfl, rt, _, _, _⟩ := open_arrs64 (ty_info (TOK 99 _ rfl)).1 (ty_info (TOK 100 _ rfl)).1 (by kernel_rfl) (by kernel_rfl) (ty_info (TOK 3 _ rfl)).1 (hval 1 99 v1 rfl rfl) h1
  refine (IndexAgain_call W b A c rb ts B ct rt hc).mono fun e W' he => ?_
  cases e with
  | returned v => ?_
  | _ => exact he.elim
  obtain ⟨rfl, hs⟩ := he
  exact ⟨_, rfl, post_of_law laidOut9 (by kernel_rfl) rfl (ty_info (TOK 4 _ rfl)).1 rfl hW' rfl rfl rfl hs.below⟩
theorem indexAgain_holds : Rows.IndexAgainSaid :=
  OpenClaim.holds_of_wide 9 Try.f9 rfl rfl rfl rfl rfl rfl rfl ⟨rfl, rfl, rfl, rfl, rfl⟩ rfl rfl rfl rfl rfl (by kernel_rfl) Try.func9 (by kernel_rfl)
    (of_decide_eq_true (by kernel_rfl)) (by unfold Func.isWrapper; first | (rw [if_pos (by decide +kernel)]; kernel_rfl) | (rw [if_neg (by decide +kernel)]; exact ⟨rfl, rfl⟩))
    (fun os started H enc _ => indexAgain_lifted os started H enc)
end Go.Proofs.Ytaofhbjlbdpjhaa
