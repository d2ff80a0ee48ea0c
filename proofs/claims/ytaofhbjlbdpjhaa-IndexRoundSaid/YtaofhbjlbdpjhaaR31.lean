/- IndexRound says true of every list of gaps and every list of numbers, and leaves both as they were. No condition. -/
import Derived.Test.YtaofhbjlbdpjhaaF31
import Derived.Test.YtaofhbjlbdpjhaaSlB
import Derived.Test.YtaofhbjlbdpjhaaRows
set_option linter.unusedVariables false
set_option linter.unusedSimpArgs false
namespace Go.Proofs.Ytaofhbjlbdpjhaa
open Go.Sl Go.ChangeShapes Go.WideShapes Go.ChangeAt Go.RowKit

theorem own10 : ownKnob Try.prog.godebug = none := by kernel_rfl
theorem laidOut10 : laidOutB Try.prog = true := by kernel_rfl
set_option maxRecDepth 100000 in
theorem indexRound_lifted (os : Os) (started : os.Started) (H : Type) (enc : TypeId × Value → H) :
    ReturnsInHanded {} Try.checked os 10 .any (Rows.indexRoundSpec.pre6 enc Try.prog Try.f10 Rows.indexRoundRow.domain false) (Rows.indexRoundSpec.post enc Try.prog Try.f10 false true false false) := by
  refine returnsInHanded_of_change (C := Try.checked) own10 started (by kernel_rfl) Try.func10
    (ChangeSpec.witness6 (enc := enc) (C := Try.checked) false ⟨#[], #[.slice none 0 0, .slice none 0 0], []⟩ 8 (by kernel_rfl) (by kernel_rfl) (by kernel_rfl) (by kernel_rfl)) ?_
  intro W base args ds gs before hval0 hW hcnd _
  have hval : ∀ (j : Nat) t v, Try.f10.params[j]? = some t → args[j]? = some v → Value.okWide Try.prog W .any base t v := hval0
  have hW' := hW
  obtain ⟨p, q, hA0, hV, rfl, hfz, hnd⟩ := hW
  have hA : DataW.TrodAll enc Try.prog W 0 (fun _ => true) true Try.f10.params.toList args.toList ds p := hA0
  rw [Try.params10] at hA hval
  obtain ⟨v0, v1, d0, d1, p0, p1, rfl, rfl, rfl, h0, h1⟩ := trodAll_two hA
  obtain ⟨rfl, rfl⟩ := trodVars_none hV
  obtain ⟨A, l, c, rfl, rl, hc, hcm, hok⟩ := open_pairs64 (ty_info (TOK 22 _ rfl)).1 (ty_info (TOK 32 _ rfl)).1 (by kernel_rfl) rfl rfl (by kernel_rfl) (by kernel_rfl) (ty_info (TOK 3 _ rfl)).1 (ty_info (TOK 3 _ rfl)).1 (hval 0 22 v0 rfl rfl) h0
  obtain ⟨B, ns, d, rfl, rn, _, _, _⟩ := open_i64s (ty_info (TOK 42 _ rfl)).1 (ty_info (TOK 3 _ rfl)).1 (by kernel_rfl) (hval 1 42 v1 rfl rfl) h1
  refine (IndexRound_call W l ns A B c d rl rn).mono fun e W' he => ?_
  cases e with
  | returned v => ?_
  | _ => exact he.elim
  obtain ⟨rfl, hs⟩ := he
  exact ⟨_, rfl, post_of_law laidOut10 (by kernel_rfl) rfl (ty_info (TOK 4 _ rfl)).1 rfl hW' rfl rfl rfl hs.below⟩
theorem indexRound_holds : Rows.IndexRoundSaid :=
  OpenClaim.holds_of_wide 10 Try.f10 rfl rfl rfl rfl rfl rfl rfl ⟨rfl, rfl, rfl, rfl, rfl⟩ rfl rfl rfl rfl rfl (by kernel_rfl) Try.func10 (by kernel_rfl)
    (of_decide_eq_true (by kernel_rfl)) (by unfold Func.isWrapper; first | (rw [if_pos (by decide +kernel)]; kernel_rfl) | (rw [if_neg (by decide +kernel)]; exact ⟨rfl, rfl⟩))
    (fun os started H enc _ => indexRound_lifted os started H enc)
end Go.Proofs.Ytaofhbjlbdpjhaa
