/- IndexWithin says true of every list, bounds, acts and stop, and leaves them as they were. No condition. -/
import Derived.Test.YtaofhbjlbdpjhaaF44
import Derived.Test.YtaofhbjlbdpjhaaP9
import Derived.Test.YtaofhbjlbdpjhaaSlB
import Derived.Test.YtaofhbjlbdpjhaaRows
set_option linter.unusedVariables false
set_option linter.unusedSimpArgs false
namespace Go.Proofs.Ytaofhbjlbdpjhaa
open Go.Sl Go.ChangeShapes Go.WideShapes Go.ChangeAt Go.RowKit

theorem trodAll_six {H : Type} {enc : TypeId × Value → H} {P : Program} {w : World} {base : Nat} {spare : Nat → Bool} {held : Bool} {t0 t1 t2 t3 t4 t5 : TypeId} {args : Array Value} {ds : List (DataW H)} {ps : List MemPlace} (h : DataW.TrodAll enc P w base spare held [t0, t1, t2, t3, t4, t5] args.toList ds ps) :
    ∃ v0 v1 v2 v3 v4 v5 d0 d1 d2 d3 d4 d5 p0 p1 p2 p3 p4 p5, args = #[v0, v1, v2, v3, v4, v5] ∧ ds = [d0, d1, d2, d3, d4, d5] ∧ ps = p0 ++ (p1 ++ (p2 ++ (p3 ++ (p4 ++ p5)))) ∧ DataW.Trod enc P w base spare held t0 v0 d0 p0 ∧ DataW.Trod enc P w base spare held t1 v1 d1 p1 ∧ DataW.Trod enc P w base spare held t2 v2 d2 p2 ∧ DataW.Trod enc P w base spare held t3 v3 d3 p3 ∧ DataW.Trod enc P w base spare held t4 v4 d4 p4 ∧ DataW.Trod enc P w base spare held t5 v5 d5 p5 := by
  obtain ⟨v0, vs, d0, ds0, p0, q0, hargs, rfl, rfl, h0, r0⟩ := trodAll_cons h
  obtain ⟨v1, vs1, d1, ds1, p1, q1, rfl, rfl, rfl, h1, r1⟩ := trodAll_cons r0
  obtain ⟨v2, vs2, d2, ds2, p2, q2, rfl, rfl, rfl, h2, r2⟩ := trodAll_cons r1
  obtain ⟨v3, vs3, d3, ds3, p3, q3, rfl, rfl, rfl, h3, r3⟩ := trodAll_cons r2
  obtain ⟨v4, vs4, d4, ds4, p4, q4, rfl, rfl, rfl, h4, r4⟩ := trodAll_cons r3
  obtain ⟨v5, vs5, d5, ds5, p5, q5, rfl, rfl, rfl, h5, r5⟩ := trodAll_cons r4
  obtain ⟨rfl, rfl, rfl⟩ := trodAll_nil r5
  exact ⟨v0, v1, v2, v3, v4, v5, d0, d1, d2, d3, d4, d5, p0, p1, p2, p3, p4, p5, by cases args; simp_all, rfl, by simp, h0, h1, h2, h3, h4, h5⟩
theorem own6 : ownKnob Try.prog.godebug = none := by kernel_rfl
theorem laidOut6 : laidOutB Try.prog = true := by kernel_rfl
set_option maxRecDepth 100000 in
theorem indexWithin_lifted (os : Os) (started : os.Started) (H : Type) (enc : TypeId × Value → H) :
    ReturnsInHanded {} Try.checked os 6 .any (Rows.indexWithinSpec.pre6 enc Try.prog Try.f6 Rows.indexWithinRow.domain false) (Rows.indexWithinSpec.post enc Try.prog Try.f6 false true false false) := by
  refine returnsInHanded_of_change (C := Try.checked) own6 started (by kernel_rfl) Try.func6
    (ChangeSpec.witness6 (enc := enc) (C := Try.checked) false ⟨#[], #[.slice none 0 0, .bool false, .int .i64 0, .int .i64 0, .slice none 0 0, .int .i64 0], []⟩ 8 (by kernel_rfl) (by kernel_rfl) (by kernel_rfl) (by kernel_rfl)) ?_
  intro W base args ds gs before hval0 hW hcnd _
  have hval : ∀ (j : Nat) t v, Try.f6.params[j]? = some t → args[j]? = some v → Value.okWide Try.prog W .any base t v := hval0
  have hW' := hW
  obtain ⟨p, q, hA0, hV, rfl, hfz, hnd⟩ := hW
  have hA : DataW.TrodAll enc Try.prog W 0 (fun _ => true) true Try.f6.params.toList args.toList ds p := hA0
  rw [Try.params6] at hA hval
  obtain ⟨v0, v1, v2, v3, v4, v5, d0, d1, d2, d3, d4, d5, p0, p1, p2, p3, p4, p5, rfl, rfl, rfl, h0, h1, h2, h3, h4, h5⟩ := trodAll_six hA
  obtain ⟨rfl, rfl⟩ := trodVars_none hV
  obtain ⟨A, l, c, rfl, rl, hc, hcm, hok⟩ := open_pairs64 (ty_info (TOK 22 _ rfl)).1 (ty_info (TOK 32 _ rfl)).1 (by kernel_rfl) rfl rfl (by kernel_rfl) (by kernel_rfl) (ty_info (TOK 3 _ rfl)).1 (ty_info (TOK 3 _ rfl)).1 (hval 0 22 v0 rfl rfl) h0
  obtain ⟨all, rfl, rfl, rfl⟩ := open_bool (ty_info (TOK 4 _ rfl)).1 (hval 1 4 v1 rfl rfl) h1
  obtain ⟨lo, rfl, rfl, rfl, hlo⟩ := open_int (ty_info (TOK 3 _ rfl)).1 (hval 2 3 v2 rfl rfl) h2
  obtain ⟨hi, rfl, rfl, rfl, hhi⟩ := open_int (ty_info (TOK 3 _ rfl)).1 (hval 3 3 v3 rfl rfl) h3
  obtain ⟨Ac, acts, cc, rfl, ra, hca, hak⟩ := open_acts (hval 4 71 v4 rfl rfl) h4
  obtain ⟨stop, rfl, rfl, rfl, hst⟩ := open_int (ty_info (TOK 3 _ rfl)).1 (hval 5 3 v5 rfl rfl) h5
  refine (IndexWithin_call W l A c all lo hi stop acts Ac cc rl hc (fun p hp => (hok p hp).1) ra hca hak).mono fun e W' he => ?_
  cases e with
  | returned v => ?_
  | _ => exact he.elim
  obtain ⟨rfl, hs⟩ := he
  exact ⟨_, rfl, post_of_law laidOut6 (by kernel_rfl) rfl (ty_info (TOK 4 _ rfl)).1 rfl hW' rfl rfl rfl hs.below⟩
theorem indexWithin_holds : Rows.IndexWithinSaid :=
  OpenClaim.holds_of_wide 6 Try.f6 rfl rfl rfl rfl rfl rfl rfl ⟨rfl, rfl, rfl, rfl, rfl⟩ rfl rfl rfl rfl rfl (by kernel_rfl) Try.func6 (by kernel_rfl)
    (of_decide_eq_true (by kernel_rfl)) (by unfold Func.isWrapper; first | (rw [if_pos (by decide +kernel)]; kernel_rfl) | (rw [if_neg (by decide +kernel)]; exact ⟨rfl, rfl⟩))
    (fun os started H enc _ => indexWithin_lifted os started H enc)
end Go.Proofs.Ytaofhbjlbdpjhaa
