/- CjsonStable says true of every input, and leaves it as it was; its card. (Laid by wip/tools/genrc.py.) -/
import Derived.Test.YtbmeafeojcgndaaDoorV35
import Derived.Test.YtbmeafeojcgndaaDoorV55
import Derived.Test.YtbmeafeojcgndaaDoorSlB
import Derived.SizedLaws
import Derived.ChangeMaps5
set_option linter.unusedVariables false
set_option linter.unusedSimpArgs false
namespace Go.Proofs.YtbmeafeojcgndaaDoor
open Go Go.Sl Go.RowKit Go.ChangeShapes Go.WideShapes Go.ChangeAt
abbrev wit7 : Array Value := #[.slice none 0 0]
theorem own7 : ownKnob Tryd.prog.godebug = none := by kernel_rfl
theorem laidOut7 : laidOutB Tryd.prog = true := by kernel_rfl
theorem laid_met7 (os : Os) : laidMet Tryd.prog Rows.cjsonStableRow.laid ((laidWorld os wit7).forCall (fun _ _ => 0) ⟨#[], wit7, []⟩).memory :=
  laidMet_of_run' 8 (by kernel_rfl) (by kernel_rfl)
theorem reads7 (os : Os) {H : Type} (enc : TypeId × Value → H) : ∃ places, DataW.whole enc Tryd.prog ((laidWorld os wit7).forCall (fun _ _ => 0) ⟨#[], wit7, []⟩).memory Tryd.f7.params.toList Rows.cjsonStableSpec.vars false wit7.toList 8 = some ([.nil], [], places) :=
  ⟨[], by kernel_rfl⟩
theorem trodAll_7 {H : Type} {enc : TypeId × Value → H} {P : Program} {w : World} {base : Nat} {spare : Nat → Bool} {held : Bool} {t0 : TypeId} {args : Array Value} {ds : List (DataW H)} {ps : List MemPlace} (h : DataW.TrodAll enc P w base spare held [t0] args.toList ds ps) :
    ∃ v0 d0 p0, args = #[v0] ∧ ds = [d0] ∧ ps = p0 ∧ DataW.Trod enc P w base spare held t0 v0 d0 p0 := by
  obtain ⟨v0, vs0, d0, ds0, p0, q0, hargs, rfl, rfl, h0, r0⟩ := trodAll_cons h
  obtain ⟨rfl, rfl, rfl⟩ := trodAll_nil r0
  exact ⟨v0, d0, p0, by cases args; simp_all, rfl, by simp, h0⟩
set_option maxRecDepth 100000 in
theorem lifted7 (os : Os) (started : os.Started) (H : Type) (enc : TypeId × Value → H) (F : Stop.Interp) :
    ReturnsInHanded {} Tryd.checked os 7 .any ((OpenSpec.ofChange Rows.cjsonStableSpec).preRow enc Tryd.prog Tryd.f7 Rows.cjsonStableRow.domain false Rows.cjsonStableRow.laid) (((OpenSpec.ofChange Rows.cjsonStableSpec).at F).post enc Tryd.prog Tryd.f7 false true false false) := by
  obtain ⟨places, hx⟩ := reads7 os enc
  refine returnsInHanded_of_row (C := Tryd.checked) (s := OpenSpec.ofChange Rows.cjsonStableSpec) own7 started (by kernel_rfl) Tryd.func7
    (witness_row_at (enc := enc) (C := Tryd.checked) false (laidWorld os wit7) wit7 rfl (by kernel_rfl) (by kernel_rfl) (by kernel_rfl)
      (OpenSpec.preRow_of_cond 8 hx (by kernel_rfl) (fun k hk => by cases hk) (by kernel_rfl) (laid_met7 os))) ?_
  intro W base args ds gs before hval0 hW _ _ hsz0 hL _ _
  have hL' : laidMet Tryd.prog tabsL W := hL
  have hval : ∀ (j : Nat) t v, Tryd.f7.params[j]? = some t → args[j]? = some v → Value.okWide Tryd.prog W .any base t v := hval0
  have hW' := hW
  obtain ⟨p, q, hA0, hV, rfl, hfz, hnd⟩ := hW
  have hA : DataW.TrodAll enc Tryd.prog W 0 (fun _ => true) true Tryd.f7.params.toList args.toList ds p := hA0
  rw [Tryd.params7] at hA hval
  obtain ⟨v0, d0, p0, rfl, rfl, rfl, h0⟩ := trodAll_7 hA
  obtain ⟨rfl, rfl⟩ := trodVars_none hV
  obtain ⟨A0, l0, c0, rfl, rb0, hc0, hm0⟩ := open_bytes8 (ty_info (TOK 22 _ rfl)).1 (ty_info (TOK 5 _ rfl)).1 (by kernel_rfl) (hval 0 22 v0 rfl rfl) h0
  refine (CjsonStable_call (utf8_of hL') (tabL_of hL') rb0 hc0).mono fun e W' he => ?_
  cases e with
  | returned v => ?_
  | _ => exact he.elim
  obtain ⟨rfl, hs⟩ := he
  exact ⟨_, rfl, post_of_law laidOut7 (by kernel_rfl) rfl (ty_info (TOK 4 _ rfl)).1 rfl hW' rfl rfl rfl hs.below⟩
theorem cjsonStable_said : Rows.CjsonStableSaid :=
  OpenClaim.holds_of_cond 7 Tryd.f7 rfl rfl rfl rfl rfl rfl rfl ⟨rfl, rfl, rfl, rfl, rfl⟩ rfl rfl rfl rfl rfl (by kernel_rfl) Tryd.func7 (by kernel_rfl)
    (of_decide_eq_true (by kernel_rfl)) (by unfold Func.isWrapper; first | (rw [if_pos (by decide +kernel)]; kernel_rfl) | (rw [if_neg (by decide +kernel)]; exact ⟨rfl, rfl⟩))
    (fun os started H enc _ F => by rw [OpenClaim.pre_eq_preRow]; exact lifted7 os started H enc F)
theorem plain7 (f : FuncId) (fn : Func) (hf : Tryd.pinned.checked.prog.funcNamed "annals/annalslaw13.CjsonStable" = some f) (hfn : Tryd.pinned.checked.prog.funcs[f]? = some fn) :
    true = Tryd.pinned.checked.prog.looks [] ∧ ∀ (j : Nat) t, fn.params[j]? = some t → Tryd.pinned.checked.prog.wantsStandIn t = false := by
  obtain rfl : f = 7 := Option.some.inj ((show Tryd.prog.funcNamed "annals/annalslaw13.CjsonStable" = some 7 by kernel_rfl).symm.trans hf) |>.symm
  obtain rfl : fn = Tryd.f7 := (Option.some.inj (Tryd.func7.symm.trans hfn)).symm
  refine ⟨by kernel_rfl, fun j t ht => ?_⟩
  rw [Tryd.params7] at ht
  have hm := Array.mem_of_getElem? ht
  simp at hm
  subst hm
  exact (show Tryd.prog.wantsStandIn 22 = false by kernel_rfl)
theorem cjsonStable_holds : Rows.CjsonStableCardSaid :=
  Claim7.holds_tied_plain_at .later [] _ _ _ _ cjsonStable_said (fun _ h => by cases h) (by kernel_rfl) (fun _ h => by cases h) cjsonStable_row_tie rfl ⟨rfl, rfl⟩ (by kernel_rfl) rfl plain7 (by kernel_rfl)
end Go.Proofs.YtbmeafeojcgndaaDoor
