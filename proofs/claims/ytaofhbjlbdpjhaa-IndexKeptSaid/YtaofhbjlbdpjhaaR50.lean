/- IndexKept says true of every list of pairs, and leaves it as it was. No condition. -/
import Derived.Test.YtaofhbjlbdpjhaaF50
import Derived.Test.YtaofhbjlbdpjhaaSlB
import Derived.Test.YtaofhbjlbdpjhaaRows
set_option linter.unusedVariables false
set_option linter.unusedSimpArgs false
namespace Go.Proofs.Ytaofhbjlbdpjhaa
open Go.Sl Go.ChangeShapes Go.WideShapes Go.ChangeAt Go.RowKit

theorem own13 : ownKnob Try.prog.godebug = none := by kernel_rfl
theorem laidOut13 : laidOutB Try.prog = true := by kernel_rfl
set_option maxRecDepth 100000 in
theorem indexKept_lifted (os : Os) (started : os.Started) (H : Type) (enc : TypeId × Value → H) :
    ReturnsInHanded {} Try.checked os 13 .any (Rows.indexKeptSpec.pre6 enc Try.prog Try.f13 Rows.indexKeptRow.domain false) (Rows.indexKeptSpec.post enc Try.prog Try.f13 false true false false) := by
  refine returnsInHanded_of_change (C := Try.checked) own13 started (by kernel_rfl) Try.func13
    (ChangeSpec.witness6 (enc := enc) (C := Try.checked) false ⟨#[], #[.slice none 0 0], []⟩ 8 (by kernel_rfl) (by kernel_rfl) (by kernel_rfl) (by kernel_rfl)) ?_
  intro W base args ds gs before hval0 hW hcnd _
  have hval : ∀ (j : Nat) t v, Try.f13.params[j]? = some t → args[j]? = some v → Value.okWide Try.prog W .any base t v := hval0
  have hW' := hW
  obtain ⟨p, q, hA0, hV, rfl, hfz, hnd⟩ := hW
  have hA : DataW.TrodAll enc Try.prog W 0 (fun _ => true) true Try.f13.params.toList args.toList ds p := hA0
  rw [Try.params13] at hA hval
  obtain ⟨v0, d0, hargs, rfl, h0⟩ := trodAll_one hA
  obtain rfl : args = [v0].toArray := by rw [← hargs]
  obtain ⟨rfl, rfl⟩ := trodVars_none hV
  obtain ⟨A, l, c, rfl, rl, hc, hcm, hok⟩ := open_pairs64 (ty_info (TOK 22 _ rfl)).1 (ty_info (TOK 32 _ rfl)).1 (by kernel_rfl) rfl rfl (by kernel_rfl) (by kernel_rfl) (ty_info (TOK 3 _ rfl)).1 (ty_info (TOK 3 _ rfl)).1 (hval 0 22 v0 rfl rfl) h0
  refine (IndexKept_call W l A c rl hc (fun p hp => hok p hp)).mono fun e W' he => ?_
  cases e with
  | returned v => ?_
  | _ => exact he.elim
  obtain ⟨rfl, hs⟩ := he
  exact ⟨_, rfl, post_of_law laidOut13 (by kernel_rfl) rfl (ty_info (TOK 4 _ rfl)).1 rfl hW' rfl rfl rfl hs.below⟩
theorem indexKept_holds : Rows.IndexKeptSaid :=
  OpenClaim.holds_of_wide 13 Try.f13 rfl rfl rfl rfl rfl rfl rfl ⟨rfl, rfl, rfl, rfl, rfl⟩ rfl rfl rfl rfl rfl (by kernel_rfl) Try.func13 (by kernel_rfl)
    (of_decide_eq_true (by kernel_rfl)) (by unfold Func.isWrapper; first | (rw [if_pos (by decide +kernel)]; kernel_rfl) | (rw [if_neg (by decide +kernel)]; exact ⟨rfl, rfl⟩))
    (fun os started H enc _ => indexKept_lifted os started H enc)
end Go.Proofs.Ytaofhbjlbdpjhaa
