/- Parts of strings. -/
import Derived.Test.YtbmeafeojcgndaaDoorV12
import Derived.Laws.Strings2
import Derived.Test.YtbmeafeojcgndaaDoorV24
import Derived.Test.YtbmeafeojcgndaaDoorV30
set_option linter.unusedVariables false
set_option linter.unusedSimpArgs false
namespace Go.Sl
open Go.RowKit
theorem extract_lst (a : List UInt8) (i j : Nat) : (ByteArray.mk a.toArray).extract i j = ⟨((a.take j).drop i).toArray⟩ := by
  apply ByteArray.ext
  simp [ByteArray.data_extract]
  rw [List.drop_take]
section
variable {r : Option Nat} {P : Program} {T : List (Nat × TI)} {ops : Array Oper} {Q : Exit → Act → World → Prop} {rest : List Oper} {n : Nat} {s : List (Nat × Value)} {τ : Nat → Value} {ds : List Deferred} {w : World}
  {ty : TypeId} {ps : String} {af : Array Edge} {d : Nat} {t : TypeId} {x y z : Operand} {ti : TI} {a : List UInt8} {k k' : IntKind} {i j : Int}
theorem LW_strL (c : List UInt8) (hT : TyOK P T) (hx : EVO n s x = some (sv a)) (hy : EVO n s y = some (.int k i)) (ht : lookT T t = some ti) (hu : ti.u = .string) (h0 : 0 ≤ i) (h1 : i ≤ a.length) (hc : a.drop i.toNat = c)
    (kk : LW r P ops Q rest (FR n ((d, sv c) :: s) τ ds) w) : LW r P ops Q (⟨some d, .slice t x (some y) none none, ty, ps, af, none⟩ :: rest) (FR n s τ ds) w := by
  refine LW_run (v := sv c) rfl (fun c e => by cases e) ?_ (by rw [put_FR]; exact kk)
  show Sem.run P (do let v ← Instr.sliceAt t ((FR n s τ ds).eval x) (some ((FR n s τ ds).eval y)) none none; pure (Next.value v)) w = _
  have hu1 := (ty_info (hT _ _ ht)).1
  rw [hu] at hu1
  have hsz : (ByteArray.mk a.toArray).size = a.length := rfl
  rw [eval_of hx, eval_of hy, Sem.run_bind, run_sliceAt_string w t _ _ _ _ hu1, run_slice_string_l w t _ hu1 k i h0 (by rw [hsz]; exact h1), extract_lst, hsz, List.take_length, hc]; rfl
theorem LW_strH (c : List UInt8) (hT : TyOK P T) (hx : EVO n s x = some (sv a)) (hy : EVO n s y = some (.int k i)) (ht : lookT T t = some ti) (hu : ti.u = .string) (h0 : 0 ≤ i) (h1 : i ≤ a.length) (hc : a.take i.toNat = c)
    (kk : LW r P ops Q rest (FR n ((d, sv c) :: s) τ ds) w) : LW r P ops Q (⟨some d, .slice t x none (some y) none, ty, ps, af, none⟩ :: rest) (FR n s τ ds) w := by
  refine LW_run (v := sv c) rfl (fun c e => by cases e) ?_ (by rw [put_FR]; exact kk)
  show Sem.run P (do let v ← Instr.sliceAt t ((FR n s τ ds).eval x) none (some ((FR n s τ ds).eval y)) none; pure (Next.value v)) w = _
  have hu1 := (ty_info (hT _ _ ht)).1
  rw [hu] at hu1
  have hsz : (ByteArray.mk a.toArray).size = a.length := rfl
  rw [eval_of hx, eval_of hy, Sem.run_bind, run_sliceAt_string w t _ _ _ _ hu1, run_slice_string_h w t _ hu1 k i h0 (by rw [hsz]; exact h1), extract_lst, List.drop_zero, hc]; rfl
theorem LW_strLH (c : List UInt8) (hT : TyOK P T) (hx : EVO n s x = some (sv a)) (hy : EVO n s y = some (.int k i)) (hz : EVO n s z = some (.int k' j)) (ht : lookT T t = some ti) (hu : ti.u = .string) (h0 : 0 ≤ i) (h1 : i ≤ j) (h2 : j ≤ a.length) (hc : (a.take j.toNat).drop i.toNat = c)
    (kk : LW r P ops Q rest (FR n ((d, sv c) :: s) τ ds) w) : LW r P ops Q (⟨some d, .slice t x (some y) (some z) none, ty, ps, af, none⟩ :: rest) (FR n s τ ds) w := by
  refine LW_run (v := sv c) rfl (fun c e => by cases e) ?_ (by rw [put_FR]; exact kk)
  show Sem.run P (do let v ← Instr.sliceAt t ((FR n s τ ds).eval x) (some ((FR n s τ ds).eval y)) (some ((FR n s τ ds).eval z)) none; pure (Next.value v)) w = _
  have hu1 := (ty_info (hT _ _ ht)).1
  rw [hu] at hu1
  have hsz : (ByteArray.mk a.toArray).size = a.length := rfl
  rw [eval_of hx, eval_of hy, eval_of hz, Sem.run_bind, run_sliceAt_string w t _ _ _ _ hu1, run_slice_string w t _ k k' i j hu1 h0 h1 (by rw [hsz]; exact h2), extract_lst, hc]; rfl
end
end Go.Sl

/- Walks: are the fields those of the kind? -/
set_option linter.unusedVariables false
set_option linter.unusedSimpArgs false
namespace Go.Proofs.YtbmeafeojcgndaaDoor
open Go Go.Sl Go.RowKit
set_option maxRecDepth 100000
attribute [local irreducible] CW LW DW FR DP Calls Res Ret
def ShP (k i : Int) (t : Prop) (a b : Nat) : Prop := ¬ (k < 0 ∨ 5 < k) ∧ ¬ ((¬ i = 0 ∧ ¬ (k = 1 ∨ k = 2)) ∨ (k = 1 ∧ ¬ i = 0 ∧ ¬ i = 1)) ∧ ¬ ((¬ t ∧ ¬ k = 3) ∨ (0 < a ∧ ¬ k = 5)) ∧ ¬ (0 < b ∧ ¬ k = 4 ∧ ¬ k = 5) ∧ (¬ k = 5 ∨ a = b)
open Classical in
noncomputable def shB (k i : Int) (t : Prop) (a b : Nat) : Bool := decide (ShP k i t a b)
theorem shB_t {k i : Int} {t : Prop} {a b : Nat} (h : ShP k i t a b) : Value.bool true = .bool (shB k i t a b) := by unfold shB; simp [h]
theorem shB_f {k i : Int} {t : Prop} {a b : Nat} (h : ¬ ShP k i t a b) : Value.bool false = .bool (shB k i t a b) := by unfold shB; simp [h]
section
set_option maxHeartbeats 2000000 in
theorem shaped_call (w : World) (k i : Int) (t : List UInt8) (NA : Option Addr) (nc : Nat) (a : Nat) (IA : Option Addr) (b ic : Nat) :
    Calls Tryd.prog 45 [Value.agg #[.int .i64 k, .int .i64 i, sv t, .slice NA a nc, .slice IA b ic]].toArray w (Ret fun v w' => v = .bool (shB k i (t = []) a b) ∧ Sat w w' []) := by
  refine Calls_of Tryd.func45 rfl 91 Tryd.ntmps45 rfl ?_
  have hs := Sat.start w
  by_cases ht : t = []
  · (repeat' (first | refine LW_strNe (a := t) (b := []) rfl rfl rfl rfl (fun h => absurd ht h) (fun _ => ?_) | (refine isLW ?_; first | refine LW_nil ?_ | (refine isLg ?_; first | refine LW_take rfl ?_ | refine LW_pass rfl rfl ?_ | refine LW_passV rfl rfl rfl ?_) | (refine isLload ?_; first | refine LW_loadC 0 TOK hs rfl rfl rfl rfl rfl ?_) | (refine isLcall ?_; first | refine LW_pure TOK rfl ?_) | (refine isLbin ?_; first | (refine LW_cmp rfl (fun _ => ?_) (fun _ => ?_) <;> try (exfalso; omega))) | refine LW_pure TOK rfl ?_ | (refine LW_box hs rfl rfl ?_; clear hs; intro _ w hs)) | (with_reducible first | refine then_n ?_ | refine CW_seq ?_ | refine CW_region ?_ | refine CW_block ?_ | refine CW_skip ?_ | refine CW_ret ?_ | refine then_r ?_ | refine blk_n ?_ | refine blk_r ?_) | refine CW_true rfl ?_ | refine CW_false rfl ?_ | refine RET1 Tryd.results45 rfl ?_))
    all_goals first
      | exact ⟨shB_t (by unfold ShP; simp only [ht, not_true_eq_false, not_false_eq_true, false_and, false_or, true_and]; omega), hs.drop1⟩
      | exact ⟨shB_f (by unfold ShP; simp only [ht, not_true_eq_false, not_false_eq_true, false_and, false_or, true_and]; omega), hs.drop1⟩
  · (repeat' (first | refine LW_strNe (a := t) (b := []) rfl rfl rfl rfl (fun _ => ?_) (fun h => absurd h ht) | (refine isLW ?_; first | refine LW_nil ?_ | (refine isLg ?_; first | refine LW_take rfl ?_ | refine LW_pass rfl rfl ?_ | refine LW_passV rfl rfl rfl ?_) | (refine isLload ?_; first | refine LW_loadC 0 TOK hs rfl rfl rfl rfl rfl ?_) | (refine isLcall ?_; first | refine LW_pure TOK rfl ?_) | (refine isLbin ?_; first | (refine LW_cmp rfl (fun _ => ?_) (fun _ => ?_) <;> try (exfalso; omega))) | refine LW_pure TOK rfl ?_ | (refine LW_box hs rfl rfl ?_; clear hs; intro _ w hs)) | (with_reducible first | refine then_n ?_ | refine CW_seq ?_ | refine CW_region ?_ | refine CW_block ?_ | refine CW_skip ?_ | refine CW_ret ?_ | refine then_r ?_ | refine blk_n ?_ | refine blk_r ?_) | refine CW_true rfl ?_ | refine CW_false rfl ?_ | refine RET1 Tryd.results45 rfl ?_))
    all_goals first
      | exact ⟨shB_t (by unfold ShP; simp only [ht, not_true_eq_false, not_false_eq_true, false_and, false_or, true_and]; omega), hs.drop1⟩
      | exact ⟨shB_f (by unfold ShP; simp only [ht, not_true_eq_false, not_false_eq_true, false_and, false_or, true_and]; omega), hs.drop1⟩
end
end Go.Proofs.YtbmeafeojcgndaaDoor

/- Walks: is a text UTF-8 throughout? The names of an object; is a value sound? -/
set_option linter.unusedVariables false
set_option linter.unusedSimpArgs false
namespace Go.Proofs.YtbmeafeojcgndaaDoor
open Go Go.Sl Go.RowKit
set_option maxRecDepth 100000
attribute [local irreducible] CW LW DW FR DP Calls Res Ret
theorem decode_drop (l : List UInt8) (pos : Nat) (h : pos < l.length) : Utf8.decode ⟨l.toArray⟩ pos = decN (l.drop pos) := by
  have hl : (l.drop pos).length = l.length - pos := List.length_drop
  have hsz : (ByteArray.mk l.toArray).size = l.length := rfl
  have hsz2 : (ByteArray.mk (l.drop pos).toArray).size = (l.drop pos).length := rfl
  unfold decN Lib.decodeGo
  rw [if_neg (by rw [hsz2]; omega)]
  have hg : ∀ k, (ByteArray.mk l.toArray).get! (pos + k) = (ByteArray.mk (l.drop pos).toArray).get! (0 + k) := fun k => by
    show (l.toArray)[pos + k]! = ((l.drop pos).toArray)[0 + k]!
    simp only [List.getElem!_toArray, Nat.zero_add]
    rw [List.getElem!_eq_getElem?_getD, List.getElem!_eq_getElem?_getD, List.getElem?_drop]
  have hb : ∀ k, decide (pos + k < (ByteArray.mk l.toArray).size) = decide (0 + k < (ByteArray.mk (l.drop pos).toArray).size) := fun k => by
    rw [hsz, hsz2, hl]; congr 1; apply propext; omega
  unfold Utf8.decode
  simp only [hg, hb]
/-- UTF-8 throughout. -/
def wholeL : Nat → List UInt8 → Bool
  | 0, _ => true
  | f + 1, l => if l = [] then true else if (decN l).1 = 65533 ∧ (decN l).2 = 1 then false else wholeL f (l.drop (decN l).2)
theorem wholeL_succ (f : Nat) (l : List UInt8) : wholeL (f + 1) l = if l = [] then true else if (decN l).1 = 65533 ∧ (decN l).2 = 1 then false else wholeL f (l.drop (decN l).2) := rfl
def wholeB (s : List UInt8) : Bool := wholeL (s.length + 1) s
section
variable {W : World} {L : List HProp}
theorem decodeS_call (w : World) (xs : List UInt8) (hU : Lib.Utf8Tabs 1 2 W) (hs : Sat W w L) :
    Calls Tryd.prog 64 [sv xs].toArray w (Ret fun v w' => v = .tuple #[.int .i32 ((decN xs).1 : Int), .int .i64 ((decN xs).2 : Int)] ∧ Sat W w' L) := by
  refine (Tryd.utf8_DecodeRuneInString ⟨xs.toArray⟩ w (tabs_of hU hs)).mono fun e w' h => ?_
  obtain ⟨rfl, hb⟩ := h
  exact ret_mk ⟨rfl, hs.and0 (Sat.of_below hb)⟩
set_option maxHeartbeats 2000000 in
theorem whole_call (hU : Lib.Utf8Tabs 1 2 W) (w : World) (s : List UInt8) (hs : Sat W w L) (hsl : s.length ≤ 140737488355328) :
    Calls Tryd.prog 46 [sv s].toArray w (Ret fun v w' => v = .bool (wholeB s) ∧ Sat W w' L) := by
  refine Calls_of Tryd.func46 rfl 24 Tryd.ntmps46 rfl ?_
  (repeat' (first | (refine isLW ?_; first | refine LW_nil ?_ | (refine LW_rangeS (p := ⟨s.toArray⟩) hs TOK rfl rfl rfl ?_; clear hs; intro q w hs) | refine LW_pure TOK rfl ?_) | (with_reducible first | refine then_n ?_ | refine CW_seq ?_ | refine CW_region ?_ | refine CW_block ?_)))
  refine CW_loop (γ := Nat × Nat) (fun g => [(0, sv s), (8, .pointer (some ⟨q, 0, none⟩))]) (fun g w' => Sat W w' (Bk q (.stringIter ⟨s.toArray⟩ g.1) :: L) ∧ g.1 ≤ s.length ∧ s.length < g.1 + g.2 ∧ wholeL g.2 (s.drop g.1) = wholeB s) (fun g => s.length - g.1) (0, s.length + 1) ⟨rfl, rfl, trivial⟩ ⟨hs, Nat.zero_le _, by dsimp only; omega, rfl⟩ ?_
  clear hs
  rintro ⟨g, f⟩ τ w1 ⟨hs, h1, h2, h3⟩
  dsimp only at hs h1 h2 h3 ⊢
  obtain ⟨f, rfl⟩ : ∃ f', f = f' + 1 := ⟨f - 1, by omega⟩
  rw [wholeL_succ] at h3
  have hdl : (s.drop g).length = s.length - g := List.length_drop
  have hsz : (ByteArray.mk s.toArray).size = s.length := rfl
  by_cases hg : g < s.length
  · have hne : s.drop g ≠ [] := fun h => by rw [h] at hdl; simp at hdl; omega
    rw [if_neg hne] at h3
    obtain ⟨hw1, hw2⟩ := dec_width hne
    have hdd := decode_drop s g hg
    obtain ⟨⟨rr, nn⟩, hdec⟩ : ∃ z, decN (s.drop g) = z := ⟨_, rfl⟩
    rw [hdec] at h3 hw1 hw2 hdd
    dsimp only at h3 hw1 hw2
    rw [List.drop_drop] at h3
    by_cases hr : (rr : Int) = 65533
    · by_cases hn : nn = 1
      · rw [if_pos ⟨by omega, hn⟩] at h3
        (repeat' (first | (refine isLW ?_; first | refine LW_nil ?_ | (refine isLcall ?_; first | (refine LW_call (cap := []) rfl rfl ent64 (decodeS_call _ (s.drop g) hU hs) ?_; clear hs; rintro _ w2 ⟨rfl, hs⟩; rw [hdec])) | (refine isLbin ?_; first | (refine LW_cmp rfl (fun _ => ?_) (fun _ => ?_) <;> try (exfalso; omega))) | (refine LW_nextS 0 hs rfl rfl (by rw [hsz]; exact hg) ?_; clear hs; intro w hs; rw [hdd] at hs ⊢) | refine LW_strL (s.drop g) TOK rfl rfl rfl rfl (by omega) (by omega) (by simp) ?_ | refine LW_pure TOK rfl ?_) | (with_reducible first | refine then_n ?_ | refine CW_seq ?_ | refine CW_region ?_ | refine CW_block ?_ | refine CW_skip ?_ | refine CW_ret ?_ | refine then_r ?_ | refine blk_r ?_) | refine CW_true rfl ?_ | refine CW_false rfl ?_ | refine RET1 Tryd.results46 rfl ?_))
        all_goals exact ⟨by rw [h3], hs.drop1⟩
      · rw [if_neg (by omega)] at h3
        (repeat' (first | (refine isLW ?_; first | refine LW_nil ?_ | (refine isLcall ?_; first | (refine LW_call (cap := []) rfl rfl ent64 (decodeS_call _ (s.drop g) hU hs) ?_; clear hs; rintro _ w2 ⟨rfl, hs⟩; rw [hdec])) | (refine isLbin ?_; first | (refine LW_cmp rfl (fun _ => ?_) (fun _ => ?_) <;> try (exfalso; omega))) | (refine LW_nextS 0 hs rfl rfl (by rw [hsz]; exact hg) ?_; clear hs; intro w hs; rw [hdd] at hs ⊢) | refine LW_strL (s.drop g) TOK rfl rfl rfl rfl (by omega) (by omega) (by simp) ?_ | refine LW_pure TOK rfl ?_) | (with_reducible first | refine then_n ?_ | refine CW_seq ?_ | refine CW_region ?_ | refine CW_block ?_ | refine CW_skip ?_ | refine blk_n ?_) | refine CW_true rfl ?_ | refine CW_false rfl ?_))
        all_goals exact ⟨((g + nn, f) : Nat × Nat), _, FR_forget _ ⟨rfl, rfl, trivial⟩, ⟨hs, by dsimp only; omega, by dsimp only; omega, h3⟩, by dsimp only; omega⟩
    · rw [if_neg (by omega)] at h3
      (repeat' (first | (refine isLW ?_; first | refine LW_nil ?_ | (refine isLbin ?_; first | (refine LW_cmp rfl (fun _ => ?_) (fun _ => ?_) <;> try (exfalso; omega))) | (refine LW_nextS 0 hs rfl rfl (by rw [hsz]; exact hg) ?_; clear hs; intro w hs; rw [hdd] at hs ⊢) | refine LW_pure TOK rfl ?_) | (with_reducible first | refine then_n ?_ | refine CW_seq ?_ | refine CW_region ?_ | refine CW_block ?_ | refine CW_skip ?_ | refine CW_exit ?_ | refine then_e ?_ | refine blk_same ?_) | refine CW_true rfl ?_))
      all_goals exact ⟨((g + nn, f) : Nat × Nat), _, FR_forget _ ⟨rfl, rfl, trivial⟩, ⟨hs, by dsimp only; omega, by dsimp only; omega, h3⟩, by dsimp only; omega⟩
  · have hemp : s.drop g = [] := List.drop_of_length_le (by omega)
    rw [if_pos hemp] at h3
    (repeat' (first | (refine isLW ?_; first | refine LW_nil ?_ | refine LW_nextE 0 hs rfl rfl (by rw [hsz]; exact hg) ?_ | refine LW_pure TOK rfl ?_) | (with_reducible first | refine then_n ?_ | refine CW_seq ?_ | refine CW_region ?_ | refine CW_exit ?_ | refine CW_ret ?_ | refine then_e ?_ | refine blk_same ?_) | refine CW_false rfl ?_ | refine RET1 Tryd.results46 rfl ?_))
    all_goals exact ⟨by rw [← h3], hs.drop1⟩
end
end Go.Proofs.YtbmeafeojcgndaaDoor
