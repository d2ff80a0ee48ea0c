/- The reader of texts: its box, what it gives up with; the plain words of its first calls. -/
import Derived.Test.YtbmeafeojcgndaaDoorTy
import Derived.Test.YtbmeafeojcgndaaDoorSlPan
import Derived.Test.YtbmeafeojcgndaaDoorSlText2
set_option linter.unusedVariables false
set_option linter.unusedSimpArgs false
namespace Go.Proofs.YtbmeafeojcgndaaDoor
open Go Go.Sl Go.RowKit
set_option maxRecDepth 100000
attribute [local irreducible] CW LW DW FR DP Calls
abbrev Er := Int × Nat
abbrev Mo (α : Type) := Except Er α
def stopV (e : Er) : Value := .iface 53 (.agg #[.int .i64 e.1, .int .i64 (e.2 : Int)])
/-- What a call of the reader comes to: as the plain word m says. -/
def Gives (W : World) (L : List HProp) {α : Type} (m : Mo α) (R : α → Value → World → Prop) : Ending → World → Prop :=
  Res (fun v w' => ∃ a, m = .ok a ∧ R a v w') (fun v w' => ∃ e, m = .error e ∧ v = stopV e ∧ Sat W w' L)
/-- The reader's box. -/
def eR (B : Option Addr) (n : Nat) (c : Nat) (p d : Nat) : List Value := [.slice B n c, .int .i64 p, .int .i64 d]
def peekM (b : List UInt8) (p : Nat) : Mo UInt8 := match b[p]? with
  | some c => .ok c
  | none => .error (130, p)
def blank (c : UInt8) : Bool := c == 32 || c == 9 || c == 10 || c == 13
def blanksL : List UInt8 → Nat
  | [] => 0
  | c :: l => if blank c then blanksL l + 1 else 0
/-- Where the blanks end. -/
def blanksM (b : List UInt8) (p : Nat) : Nat := p + blanksL (b.drop p)
theorem get_rd {b : List UInt8} {p : Nat} (h : p < b.length) : b[p]? = some (Go.Sl.rd b (p : Int)) := by
  have := rd_get (xs := b) (i := (p : Int)) (by omega) (by omega)
  simpa using this
theorem blanks_no {b : List UInt8} {p : Nat} (h : (b[p]?.map blank).getD false = false) : blanksM b p = p := by
  unfold blanksM
  cases e : b.drop p with
  | nil => rfl
  | cons c l =>
    have h1 : b[p]? = some c := by rw [← List.head?_drop, e]; rfl
    rw [h1] at h
    simp [blanksL, show blank c = false from h]
theorem blanks_yes {b : List UInt8} {p : Nat} {c : UInt8} (h : b[p]? = some c) (hc : blank c = true) : blanksM b p = blanksM b (p + 1) := by
  unfold blanksM
  have hl : p < b.length := by
    rcases Nat.lt_or_ge p b.length with h1 | h1
    · exact h1
    · rw [List.getElem?_eq_none h1] at h; cases h
  rw [List.drop_eq_getElem_cons hl]
  rw [List.getElem?_eq_getElem hl] at h
  cases h
  simp [blanksL, hc]; omega
theorem blanksL_le : ∀ l : List UInt8, blanksL l ≤ l.length
  | [] => Nat.le_refl _
  | c :: l => by unfold blanksL; split <;> simp [blanksL_le l]
theorem blanks_le {b : List UInt8} {p : Nat} (h : p ≤ b.length) : p ≤ blanksM b p ∧ blanksM b p ≤ b.length := by
  have := blanksL_le (b.drop p)
  rw [List.length_drop] at this
  unfold blanksM
  omega
section
variable {W : World} {b : List UInt8} {B : Option Addr} {c br p d : Nat} {L : List HProp}
theorem fail_call (w : World) (r : Value) (why : Int) (at' : Nat) :
    Calls Tryd.prog 27 [r, .int .i64 why, .int .i64 (at' : Int)].toArray w (Res (fun _ _ => False) fun v w' => v = stopV (why, at') ∧ w' = w) := by
  refine Calls_of Tryd.func27 rfl 10 Tryd.ntmps27 rfl ?_
  (repeat' (first | (refine isLW ?_; first | refine LW_pure TOK rfl ?_ | refine LW_build TOK rfl rfl rfl rfl rfl rfl ?_ | refine LW_makeIface TOK rfl rfl rfl ?_ | refine LW_panic rfl ?_) | (with_reducible first | refine CW_region ?_) | refine RXP ?_))
  exact ⟨rfl, rfl⟩
theorem next_call (w : World) (x : UInt8) (hs : Sat W w (Cl br (eR B b.length c p d) 57 :: L)) (rb : Rd eB W B b) (hp : p ≤ 140737488355328) (hb : b.length ≤ 140737488355328) :
    Calls Tryd.prog 34 [Value.pointer (some ⟨br, 0, none⟩), .int .u8 (x.toNat : Int)].toArray w (Ret fun v w' => v = .bool (b[p]? == some x) ∧ Sat W w' (Cl br (eR B b.length c p d) 57 :: L)) := by
  refine Calls_of Tryd.func34 rfl 29 Tryd.ntmps34 rfl ?_
  unfold eR at hs ⊢
  by_cases hlt : p < b.length
  · have e1 := get_rd hlt
    by_cases hx : ((Go.Sl.rd b (p : Int)).toNat : Int) = (x.toNat : Int)
    · (repeat' (first | (refine isLW ?_; first | refine LW_nil ?_ | refine LW_pure TOK rfl ?_) | (refine isDP ?_; first | (refine isDnil ?_; first | refine DP_end ?_ ?_) | (refine isDload rfl ?_; first | refine DP_loadC 0 hs TOK rfl rfl (by first | exact trivial | rfl) rfl rfl rfl rfl rfl ?_ ?_ | refine DP_loadRd0 rb (fun _ => rfl) hs TOK rfl rfl (by first | exact trivial | rfl) rfl (by assumption) rfl rfl (by omega) (by omega) rfl ?_ ?_) | (refine isDidx rfl ?_; first | (refine DP_indexRd (rb.of hs) TOK rfl rfl (by first | exact trivial | rfl) rfl rfl rfl rfl rfl (by omega) (by omega) ?_; intro _ _ _)) | (refine isDbin rfl ?_; first | (refine DP_cmp rfl rfl (by first | exact trivial | rfl) rfl (fun _ => ?_) (fun _ => ?_) <;> try (exfalso; omega))) | refine DP_pure TOK rfl rfl (by first | exact trivial | rfl) rfl ?_) | (refine isI0 ?_; exact Inv.nil) | (refine isI1 ?_; first | refine Inv.keepB hs ?_ | refine Inv.keepC 0 hs rfl rfl ?_) | (with_reducible first | refine then_n ?_ | refine CW_seq ?_ | refine CW_region ?_ | refine CW_ret ?_) | (refine CW_drawP (id := 1) [] [0, 1, 2, 3, 4, 5, 6, 7, 8, 9, 10, 11, 12, 13, 14, 15, 16, 17, 18, 19, 20, 21, 22, 23, 24] mixed (by kernel_rfl) hs ?_; clear hs; intro hs) | refine RET1 Tryd.results34 rfl ?_))
      refine ⟨?_, hs⟩
      rw [e1]
      have : Go.Sl.rd b (p : Int) = x := UInt8.toNat_inj.1 (by omega)
      simp [this]
    · (repeat' (first | (refine isLW ?_; first | refine LW_nil ?_ | refine LW_pure TOK rfl ?_) | (refine isDP ?_; first | (refine isDnil ?_; first | refine DP_end ?_ ?_) | (refine isDload rfl ?_; first | refine DP_loadC 0 hs TOK rfl rfl (by first | exact trivial | rfl) rfl rfl rfl rfl rfl ?_ ?_ | refine DP_loadRd0 rb (fun _ => rfl) hs TOK rfl rfl (by first | exact trivial | rfl) rfl (by assumption) rfl rfl (by omega) (by omega) rfl ?_ ?_) | (refine isDidx rfl ?_; first | (refine DP_indexRd (rb.of hs) TOK rfl rfl (by first | exact trivial | rfl) rfl rfl rfl rfl rfl (by omega) (by omega) ?_; intro _ _ _)) | (refine isDbin rfl ?_; first | (refine DP_cmp rfl rfl (by first | exact trivial | rfl) rfl (fun _ => ?_) (fun _ => ?_) <;> try (exfalso; omega))) | refine DP_pure TOK rfl rfl (by first | exact trivial | rfl) rfl ?_) | (refine isI0 ?_; exact Inv.nil) | (refine isI1 ?_; first | refine Inv.keepB hs ?_ | refine Inv.keepC 0 hs rfl rfl ?_) | (with_reducible first | refine then_n ?_ | refine CW_seq ?_ | refine CW_region ?_ | refine CW_ret ?_) | (refine CW_drawP (id := 1) [] [0, 1, 2, 3, 4, 5, 6, 7, 8, 9, 10, 11, 12, 13, 14, 15, 16, 17, 18, 19, 20, 21, 22, 23, 24] mixed (by kernel_rfl) hs ?_; clear hs; intro hs) | refine RET1 Tryd.results34 rfl ?_))
      refine ⟨?_, hs⟩
      rw [e1]
      have : ¬ Go.Sl.rd b (p : Int) = x := fun h => hx (by rw [h])
      simp [this]
  · (repeat' (first | (refine isLW ?_; first | refine LW_nil ?_ | refine LW_pure TOK rfl ?_) | (refine isDP ?_; first | (refine isDnil ?_; first | refine DP_end ?_ ?_) | (refine isDg rfl ?_; first | refine DP_pass rfl rfl rfl rfl ?_) | (refine isDload rfl ?_; first | refine DP_loadC 0 hs TOK rfl rfl (by first | exact trivial | rfl) rfl rfl rfl rfl rfl ?_ ?_) | (refine isDbin rfl ?_; first | (refine DP_cmp rfl rfl (by first | exact trivial | rfl) rfl (fun _ => ?_) (fun _ => ?_) <;> try (exfalso; omega))) | refine DP_pure TOK rfl rfl (by first | exact trivial | rfl) rfl ?_) | (refine isI0 ?_; exact Inv.nil) | (refine isI1 ?_; first | refine Inv.keepC 0 hs rfl rfl ?_) | (with_reducible first | refine then_n ?_ | refine CW_seq ?_ | refine CW_region ?_ | refine CW_ret ?_) | (refine CW_drawP (id := 1) [] [0, 1, 2, 3, 4, 5, 6, 7, 8, 9, 10, 11, 12, 13, 14, 15, 16, 17, 18, 19, 20, 21, 22, 23, 24] mixed (by kernel_rfl) hs ?_; clear hs; intro hs) | refine RET1 Tryd.results34 rfl ?_))
    refine ⟨?_, hs⟩
    rw [List.getElem?_eq_none (by omega)]; rfl
theorem peek_call (w : World) (hs : Sat W w (Cl br (eR B b.length c p d) 57 :: L)) (rb : Rd eB W B b) (hp : p ≤ b.length) (hb : b.length ≤ 140737488355328) :
    Calls Tryd.prog 35 [Value.pointer (some ⟨br, 0, none⟩)].toArray w (Gives W L (peekM b p) fun x v w' => v = .int .u8 (x.toNat : Int) ∧ Sat W w' (Cl br (eR B b.length c p d) 57 :: L)) := by
  unfold Gives
  refine Calls_of Tryd.func35 rfl 29 Tryd.ntmps35 rfl ?_
  unfold eR at hs ⊢
  by_cases hlt : p < b.length
  · (repeat' (first | (refine isLW ?_; first | refine LW_nil ?_ | refine LW_pure TOK rfl ?_) | (refine isDP ?_; first | (refine isDnil ?_; first | refine DP_end ?_ ?_) | (refine isDload rfl ?_; first | refine DP_loadC 0 hs TOK rfl rfl (by first | exact trivial | rfl) rfl rfl rfl rfl rfl ?_ ?_ | refine DP_loadRd0 rb (fun _ => rfl) hs TOK rfl rfl (by first | exact trivial | rfl) rfl (by assumption) rfl rfl (by omega) (by omega) rfl ?_ ?_) | (refine isDidx rfl ?_; first | (refine DP_indexRd (rb.of hs) TOK rfl rfl (by first | exact trivial | rfl) rfl rfl rfl rfl rfl (by omega) (by omega) ?_; intro _ _ _)) | (refine isDbin rfl ?_; first | (refine DP_cmp rfl rfl (by first | exact trivial | rfl) rfl (fun _ => ?_) (fun _ => ?_) <;> try (exfalso; omega))) | refine DP_pure TOK rfl rfl (by first | exact trivial | rfl) rfl ?_) | (refine isI0 ?_; exact Inv.nil) | (refine isI1 ?_; first | refine Inv.keepB hs ?_ | refine Inv.keepC 0 hs rfl rfl ?_) | (with_reducible first | refine then_n ?_ | refine CW_seq ?_ | refine CW_region ?_ | refine CW_skip ?_ | refine CW_ret ?_) | refine CW_false rfl ?_ | (refine CW_drawP (id := 1) [] [0, 1, 2, 3, 4, 5, 6, 7, 8, 9] mixed (by kernel_rfl) hs ?_; clear hs; intro hs) | (refine CW_drawP (id := 3) [] [0, 1, 2, 3, 4, 5, 6, 7, 8, 9, 10] mixed (by kernel_rfl) hs ?_; clear hs; intro hs) | refine RX1 Tryd.results35 rfl ?_))
    refine ⟨Go.Sl.rd b (p : Int), ?_, rfl, hs⟩
    unfold peekM
    rw [get_rd hlt]
  · (repeat' (first | (refine isLW ?_; first | refine LW_nil ?_ | (refine isLload ?_; first | refine LW_loadC 0 TOK hs rfl rfl rfl rfl rfl ?_) | (refine isLcall ?_; first | (refine LW_callX (cap := []) rfl rfl ent27 (fail_call _ _ _ p) (fun _ _ h => h.elim) ?_; rintro _ w2 ⟨rfl, rfl⟩)) | refine LW_pure TOK rfl ?_) | (refine isDP ?_; first | (refine isDnil ?_; first | refine DP_end ?_ ?_) | (refine isDload rfl ?_; first | refine DP_loadC 0 hs TOK rfl rfl (by first | exact trivial | rfl) rfl rfl rfl rfl rfl ?_ ?_) | (refine isDbin rfl ?_; first | (refine DP_cmp rfl rfl (by first | exact trivial | rfl) rfl (fun _ => ?_) (fun _ => ?_) <;> try (exfalso; omega))) | refine DP_pure TOK rfl rfl (by first | exact trivial | rfl) rfl ?_) | (refine isI0 ?_; exact Inv.nil) | (refine isI1 ?_; first | refine Inv.keepC 0 hs rfl rfl ?_) | (with_reducible first | refine then_n ?_ | refine CW_seq ?_ | refine CW_region ?_ | refine then_p ?_) | refine CW_true rfl ?_ | (refine CW_drawP (id := 1) [] [0, 1, 2, 3, 4, 5, 6, 7, 8, 9] mixed (by kernel_rfl) hs ?_; clear hs; intro hs) | refine RXP ?_))
    refine ⟨(130, p), ?_, rfl, hs.drop1⟩
    unfold peekM
    rw [List.getElem?_eq_none (by omega)]
theorem peek_some {x : UInt8} (h : peekM b p = .ok x) : b[p]? = some x ∧ p < b.length := by
  unfold peekM at h
  split at h
  · rename_i y e
    cases h
    refine ⟨e, ?_⟩
    rcases Nat.lt_or_ge p b.length with h1 | h1
    · exact h1
    · rw [List.getElem?_eq_none h1] at e; cases e
  · cases h
theorem blanks_call (w : World) (hs : Sat W w (Cl br (eR B b.length c p d) 57 :: L)) (rb : Rd eB W B b) (hp : p ≤ b.length) (hb : b.length ≤ 140737488355328) :
    Calls Tryd.prog 25 [Value.pointer (some ⟨br, 0, none⟩)].toArray w (Ret fun v w' => Sat W w' (Cl br (eR B b.length c (blanksM b p) d) 57 :: L)) := by
  refine Calls_of Tryd.func25 rfl 23 Tryd.ntmps25 rfl ?_
  (repeat' (first | (with_reducible first | refine CW_block ?_)))
  refine CW_loop (γ := Nat) (fun g => [(0, .pointer (some ⟨br, 0, none⟩))]) (fun g w' => Sat W w' (Cl br (eR B b.length c g d) 57 :: L) ∧ g ≤ b.length ∧ blanksM b g = blanksM b p) (fun g => b.length - g) p ⟨rfl, trivial⟩ ⟨hs, hp, rfl⟩ ?_
  clear hs
  rintro g τ w' ⟨hs, h1, h2⟩
  try dsimp only
  obtain ⟨o, ho⟩ : ∃ o, b[g]? = o := ⟨_, rfl⟩
  obtain ⟨x1, hx1⟩ : ∃ z, (o == some (32 : UInt8)) = z := ⟨_, rfl⟩
  obtain ⟨x2, hx2⟩ : ∃ z, (o == some (9 : UInt8)) = z := ⟨_, rfl⟩
  obtain ⟨x3, hx3⟩ : ∃ z, (o == some (10 : UInt8)) = z := ⟨_, rfl⟩
  obtain ⟨x4, hx4⟩ : ∃ z, (o == some (13 : UInt8)) = z := ⟨_, rfl⟩
  have hb1 : (o.map blank).getD false = (x1 || x2 || x3 || x4) := by
    rw [← hx1, ← hx2, ← hx3, ← hx4]
    cases o <;> rfl
  have fin : (x1 || x2 || x3 || x4) = false → blanksM b p = g := fun h => by rw [← h2]; exact blanks_no (by rw [ho, hb1, h])
  have nxt : (x1 || x2 || x3 || x4) = true → g < b.length ∧ blanksM b (g + 1) = blanksM b p := fun h => by
    rw [h] at hb1
    cases o with
    | none => cases hb1
    | some y =>
      refine ⟨?_, by rw [← h2]; exact (blanks_yes ho hb1).symm⟩
      rcases Nat.lt_or_ge g b.length with h1 | h1
      · exact h1
      · rw [List.getElem?_eq_none h1] at ho; cases ho
  cases x1 <;> cases x2 <;> cases x3 <;> cases x4 <;> first
    | (have f := fin rfl
       clear nxt fin
       rw [f]
       (repeat' (first | (refine isLW ?_; first | refine LW_nil ?_ | (refine isLg ?_; first | refine LW_take rfl ?_) | (refine isLcall ?_; first | (refine LW_call (cap := []) rfl rfl ent34 (next_call _ 32 hs rb (by omega) hb) ?_; clear hs; rintro _ w2 ⟨rfl, hs⟩; rw [ho, hx1]) | (refine LW_call (cap := []) rfl rfl ent34 (next_call _ 9 hs rb (by omega) hb) ?_; clear hs; rintro _ w2 ⟨rfl, hs⟩; rw [ho, hx2]) | (refine LW_call (cap := []) rfl rfl ent34 (next_call _ 10 hs rb (by omega) hb) ?_; clear hs; rintro _ w2 ⟨rfl, hs⟩; rw [ho, hx3]) | (refine LW_call (cap := []) rfl rfl ent34 (next_call _ 13 hs rb (by omega) hb) ?_; clear hs; rintro _ w2 ⟨rfl, hs⟩; rw [ho, hx4])) | refine LW_pure TOK rfl ?_) | (with_reducible first | refine then_n ?_ | refine CW_seq ?_ | refine CW_region ?_ | refine CW_exit ?_ | refine then_e ?_ | refine blk_same ?_) | refine CW_false rfl ?_ | refine RET0 Tryd.results25 ?_))
       exact hs)
    | (obtain ⟨n1, n2⟩ := nxt rfl
       clear nxt fin
       (repeat' (first | (refine isLW ?_; first | refine LW_nil ?_ | (refine isLg ?_; first | refine LW_take rfl ?_ | refine LW_pass rfl rfl ?_) | (refine isLload ?_; first | refine LW_loadC 0 TOK hs rfl rfl rfl rfl rfl ?_) | (refine isLstore ?_; first | (refine LW_storeC 0 TOK hs rfl rfl rfl rfl rfl rfl rfl ?_; clear hs; intro w hs)) | (refine isLcall ?_; first | (refine LW_call (cap := []) rfl rfl ent34 (next_call _ 32 hs rb (by omega) hb) ?_; clear hs; rintro _ w2 ⟨rfl, hs⟩; rw [ho, hx1]) | (refine LW_call (cap := []) rfl rfl ent34 (next_call _ 9 hs rb (by omega) hb) ?_; clear hs; rintro _ w2 ⟨rfl, hs⟩; rw [ho, hx2]) | (refine LW_call (cap := []) rfl rfl ent34 (next_call _ 10 hs rb (by omega) hb) ?_; clear hs; rintro _ w2 ⟨rfl, hs⟩; rw [ho, hx3]) | (refine LW_call (cap := []) rfl rfl ent34 (next_call _ 13 hs rb (by omega) hb) ?_; clear hs; rintro _ w2 ⟨rfl, hs⟩; rw [ho, hx4])) | (refine isLbin ?_; first | refine LW_i64 rfl (by omega) (by omega) ?_) | refine LW_pure TOK rfl ?_) | (with_reducible first | refine then_n ?_ | refine CW_seq ?_ | refine CW_region ?_ | refine CW_block ?_ | refine CW_skip ?_ | refine blk_n ?_) | refine CW_true rfl ?_))
       exact ⟨g + 1, _, FR_forget _ ⟨rfl, trivial⟩, ⟨hs, by omega, n2⟩, by omega⟩)
end
end Go.Proofs.YtbmeafeojcgndaaDoor
