/- Drawn regions: parts of slices. -/
import Derived.Test.YtbmeafeojcgndaaDoorSlText2
import Derived.Test.YtbmeafeojcgndaaDoorV1
import Derived.Test.YtbmeafeojcgndaaDoorV2
import Derived.Test.YtbmeafeojcgndaaDoorSlText
set_option linter.unusedVariables false
set_option linter.unusedSimpArgs false
namespace Go.Sl
open Go.RowKit
section
variable {r : Option Nat} {P : Program} {T : List (Nat × TI)} {l : List Oper} {eff : List Nat} {K : Act → World → Prop} {Cs : List (Nat × (World → Prop))} {plan : List Nat} {listed : Array Bool} {a : Act} {w : World} {n : Nat} {s : List (Nat × Value)} {τ : Nat → Value} {ds : List Deferred}
  {ty : TypeId} {ps : String} {af : Array Edge} {d i : Nat} {gd : Option (Nat × Bool)}
theorem DP_sliceL (A' : Option Addr) (len' cap' : Nat) {t e : TypeId} {x y : Operand} {ti te : TI} {A : Option Addr} {len cap : Nat} {k1 : IntKind} {lo : Int} (hT : TyOK P T) (heff : eff.contains i = false) (hi : getA l i = some ⟨some d, .slice t x (some y) none none, ty, ps, af, gd⟩) (hg : gdOK s n l gd)
    (hx : EVO n s x = some (.slice A len cap)) (hy : EVO n s y = some (.int k1 lo)) (ht : lookT T t = some ti) (hu : ti.u = .slice e) (he : lookT T e = some te) (h0 : 0 ≤ lo) (h1 : lo ≤ len)
    (ea : slicedA A lo.toNat cap (lo.toNat * te.size) = A') (el : len - lo.toNat = len') (ec : cap - lo.toNat = cap')
    (c : DP r P l eff K Cs plan (listed.setIfInBounds i true) (FR n ((d, .slice A' len' cap') :: s) τ ds) w) : DP r P l eff K Cs (i :: plan) listed (FR n s τ ds) w := by
  subst ea el ec
  refine DP_plain (v := .slice (slicedA A lo.toNat cap (lo.toNat * te.size)) (len - lo.toNat) (cap - lo.toNat)) heff hi (YC.mkD hg fun w _ => ?_) (by rw [put_FR]; exact c)
  show Sem.run P (do let v ← Instr.sliceAt t ((FR n s τ ds).eval x) (some ((FR n s τ ds).eval y)) none none; pure (Next.value v)) w = _
  have hu1 := (ty_info (hT _ _ ht)).1
  rw [hu] at hu1
  have hel := elem_of hu1
  have hu2 : P.underlying t = some (.slice (P.elem t)) := by rw [hel]; exact hu1
  rw [eval_of hx, eval_of hy, Sem.run_bind, run_sliceAt_slice w t _ _ _ _ hu2, run_slice_l w t A len cap hu2 k1 lo h0 h1, hel, ty_sizeOf (hT _ _ he)]
  simp [Result.andThen, sliced, slicedA, movedA]
theorem DP_sliceLH (A' : Option Addr) (len' cap' : Nat) {t e : TypeId} {x y z : Operand} {ti te : TI} {A : Option Addr} {len cap : Nat} {k1 k2 : IntKind} {lo hi' : Int} (hT : TyOK P T) (heff : eff.contains i = false) (hi : getA l i = some ⟨some d, .slice t x (some y) (some z) none, ty, ps, af, gd⟩) (hg : gdOK s n l gd)
    (hx : EVO n s x = some (.slice A len cap)) (hy : EVO n s y = some (.int k1 lo)) (hz : EVO n s z = some (.int k2 hi')) (ht : lookT T t = some ti) (hu : ti.u = .slice e) (he : lookT T e = some te) (h0 : 0 ≤ lo) (h1 : lo ≤ hi') (h2 : hi' ≤ cap)
    (ea : slicedA A lo.toNat cap (lo.toNat * te.size) = A') (el : hi'.toNat - lo.toNat = len') (ec : cap - lo.toNat = cap')
    (c : DP r P l eff K Cs plan (listed.setIfInBounds i true) (FR n ((d, .slice A' len' cap') :: s) τ ds) w) : DP r P l eff K Cs (i :: plan) listed (FR n s τ ds) w := by
  subst ea el ec
  refine DP_plain (v := .slice (slicedA A lo.toNat cap (lo.toNat * te.size)) (hi'.toNat - lo.toNat) (cap - lo.toNat)) heff hi (YC.mkD hg fun w _ => ?_) (by rw [put_FR]; exact c)
  show Sem.run P (do let v ← Instr.sliceAt t ((FR n s τ ds).eval x) (some ((FR n s τ ds).eval y)) (some ((FR n s τ ds).eval z)) none; pure (Next.value v)) w = _
  have hu1 := (ty_info (hT _ _ ht)).1
  rw [hu] at hu1
  have hel := elem_of hu1
  have hu2 : P.underlying t = some (.slice (P.elem t)) := by rw [hel]; exact hu1
  rw [eval_of hx, eval_of hy, eval_of hz, Sem.run_bind, run_sliceAt_slice w t _ _ _ _ hu2, run_slice_lh w t A len cap hu2 k1 k2 lo hi' h0 h1 h2, hel, ty_sizeOf (hT _ _ he)]
  simp [Result.andThen, sliced, slicedA, movedA]
end
theorem Sat.of_below {w w' : World} (h : Below w.heap.size w w') : Sat w w' [] := ⟨h, trivial⟩
end Go.Sl

/- Walks of the reader: a run of digits, an exponent. -/
set_option linter.unusedVariables false
set_option linter.unusedSimpArgs false
namespace Go.Proofs.YtbmeafeojcgndaaDoor
open Go Go.Sl Go.RowKit
set_option maxRecDepth 100000
attribute [local irreducible] CW LW DW FR DP Calls Res Ret
theorem rd_at {α : Type} [Inhabited α] {xs : List α} {i : Nat} (h : i < xs.length) : Go.Sl.rd xs (i : Int) = xs[i] := by simp [Go.Sl.rd, h]
def digit (c : UInt8) : Bool := 48 ≤ c.toNat && c.toNat ≤ 57
/-- How many digits stand at the head. -/
def digs : List UInt8 → Nat
  | [] => 0
  | c :: l => if digit c then digs l + 1 else 0
theorem digs_le : ∀ l : List UInt8, digs l ≤ l.length
  | [] => Nat.le_refl _
  | c :: l => by unfold digs; split <;> simp [digs_le l]
theorem digs_all : ∀ l : List UInt8, ∀ x ∈ l.take (digs l), digit x = true
  | [], x, h => by simp at h
  | c :: l, x, h => by
    unfold digs at h
    split at h
    · rename_i hc
      rw [List.take_succ_cons] at h
      rcases List.mem_cons.1 h with rfl | h
      · exact hc
      · exact digs_all l x h
    · simp at h
/-- One digit or more: the digits, and where they end. -/
def runM (b : List UInt8) (p : Nat) : Mo (List UInt8 × Nat) := match peekM b p with
  | .error e => .error e
  | .ok c => if digit c then .ok ((b.drop p).take (digs (b.drop p)), p + digs (b.drop p)) else .error (131, p)
/-- The number that digits say, at most 2^40. -/
def expV (l : List UInt8) : Nat := l.foldl (fun n c => min 1099511627776 (n * 10 + (c.toNat - 48))) 0
def exponentM (b : List UInt8) (p : Nat) : Mo (Int × Nat) := match runM b (if (b[p]? == some 45) || (b[p]? == some 43) then p + 1 else p) with
  | .error e => .error e
  | .ok q => .ok (if b[p]? == some 45 then -(expV q.1 : Int) else (expV q.1 : Int), q.2)
theorem digs_yes {b : List UInt8} {p : Nat} {x : UInt8} (h : b[p]? = some x) (hx : digit x = true) : digs (b.drop p) = digs (b.drop (p + 1)) + 1 := by
  have hl : p < b.length := by
    rcases Nat.lt_or_ge p b.length with h1 | h1
    · exact h1
    · rw [List.getElem?_eq_none h1] at h; cases h
  rw [List.drop_eq_getElem_cons hl]
  rw [List.getElem?_eq_getElem hl] at h
  cases h
  show (if digit b[p] then _ else 0) = _
  rw [if_pos hx]
theorem digs_no {b : List UInt8} {p : Nat} (h : (b[p]?.map digit).getD false = false) : digs (b.drop p) = 0 := by
  cases e : b.drop p with
  | nil => rfl
  | cons c l =>
    have h1 : b[p]? = some c := by rw [← List.head?_drop, e]; rfl
    rw [h1] at h
    simp [digs, show digit c = false from h]
theorem runM_ok {b : List UInt8} {p : Nat} {q : List UInt8 × Nat} (h : runM b p = .ok q) : p < q.2 ∧ q.2 ≤ b.length ∧ q.1.length = q.2 - p ∧ (∀ x ∈ q.1, digit x = true) ∧ q.1 = (b.drop p).take (q.2 - p) := by
  unfold runM at h
  split at h
  · cases h
  rename_i c hc
  split at h
  · rename_i hd
    injection h with h
    obtain ⟨h1, h2⟩ := peek_some hc
    have hy := digs_yes h1 hd
    have hle := digs_le (b.drop p)
    rw [List.length_drop] at hle
    rw [← h]
    refine ⟨by dsimp only; omega, by dsimp only; omega, ?_, digs_all _, ?_⟩
    · dsimp only; rw [List.length_take, List.length_drop]; omega
    · dsimp only; congr 1; omega
  · cases h
theorem cutA6 {bb oo p c : Nat} (h : p < c) : slicedA (some ⟨bb, oo, none⟩) p c (p * 1) = some ⟨bb, oo + p, none⟩ := by
  unfold slicedA
  rw [if_neg (by omega), movedA_some, Nat.mul_one]
section
variable {W : World} {b : List UInt8} {B : Option Addr} {c br p d : Nat} {L : List HProp}
set_option maxHeartbeats 1000000 in
theorem run_call (w : World) (hs : Sat W w (Cl br (eR B b.length c p d) 57 :: L)) (rb : Rd eB W B b) (hp : p ≤ b.length) (hcb : b.length ≤ c) (hb : b.length ≤ 140737488355328) :
    Calls Tryd.prog 59 [Value.pointer (some ⟨br, 0, none⟩)].toArray w (Gives W L (runM b p) fun q v w' => ∃ A' c', v = .slice A' q.1.length c' ∧ Rd eB W A' q.1 ∧ Sat W w' (Cl br (eR B b.length c q.2 d) 57 :: L)) := by
  unfold Gives
  refine Calls_of Tryd.func59 rfl 76 Tryd.ntmps59 rfl ?_
  unfold runM
  rcases hk : peekM b p with er | x
  · have hs0 := hs
    unfold eR at hs0
    replace hs := hs0
    (repeat' (first | (refine isLW ?_; first | refine LW_nil ?_ | (refine isLload ?_; first | refine LW_loadC 0 TOK hs rfl rfl rfl rfl rfl ?_) | (refine isLcall ?_; first | (refine LW_callX (cap := []) rfl rfl ent35 (peek_call (p := p) (d := d) (c := c) _ (by unfold eR; exact hs) rb hp hb) ?_ ?_; (rintro _ w2 ⟨x, hx, _⟩; rw [hk] at hx; cases hx); rintro _ w2 ⟨er2, hx, rfl, hs2⟩; rw [hk] at hx; cases hx)) | refine LW_pure TOK rfl ?_) | (with_reducible first | refine then_n ?_ | refine CW_seq ?_ | refine CW_region ?_ | refine then_p ?_) | refine RXP ?_))
    exact ⟨_, rfl, rfl, hs2⟩
  obtain ⟨hx1, hx2⟩ := peek_some hk
  dsimp only
  have hs0 := hs
  unfold eR at hs0
  replace hs := hs0
  clear hs0
  by_cases hd : digit x = true
  · rw [if_pos hd]
    have hd2 : 48 ≤ x.toNat ∧ x.toNat ≤ 57 := by unfold digit at hd; simpa using hd
    obtain ⟨bb, oo, hB⟩ := rb.some (i := (p : Int)) (by omega) (by omega)
    subst hB
    (repeat' (first | (refine isLW ?_; first | refine LW_nil ?_ | (refine isLg ?_; first | refine LW_take rfl ?_) | (refine isLload ?_; first | refine LW_loadC 0 TOK hs rfl rfl rfl rfl rfl ?_) | (refine isLcall ?_; first | (refine LW_callX (cap := []) rfl rfl ent35 (peek_call (p := p) (d := d) (c := c) _ (by unfold eR; exact hs) rb hp hb) ?_ ?_; rotate_left; (rintro _ w2 ⟨x, hx, _⟩; rw [hk] at hx; cases hx); clear hs; rintro _ w2 ⟨er2, hx, rfl, hs⟩; rw [hk] at hx; cases hx)) | (refine isLbin ?_; first | (refine LW_cmp rfl (fun _ => ?_) (fun _ => ?_) <;> try (exfalso; omega))) | refine LW_pure TOK rfl ?_) | (with_reducible first | refine then_n ?_ | refine CW_seq ?_ | refine CW_region ?_ | refine CW_block ?_ | refine CW_skip ?_) | refine CW_false rfl ?_))
    refine CW_loop (γ := Nat) (fun g => [(0, .pointer (some ⟨br, 0, none⟩)), (3, .int .i64 (p : Int))]) (fun g w' => Sat W w' (Cl br (eR (some ⟨bb, oo, none⟩) b.length c g d) 57 :: L) ∧ p ≤ g ∧ g ≤ b.length ∧ g + digs (b.drop g) = p + digs (b.drop p)) (fun g => b.length - g) p ⟨rfl, rfl, trivial⟩ ⟨hs, Nat.le_refl _, hp, rfl⟩ ?_
    clear hs
    rintro g τ w' ⟨hs, h1, h2, h3⟩
    try dsimp only
    unfold eR at hs
    by_cases hlt : g < b.length
    · have e1 := get_rd hlt
      have h256 := (Go.Sl.rd b (g : Int)).toNat_lt
      by_cases hd3 : digit (Go.Sl.rd b (g : Int)) = true
      · have hd4 : 48 ≤ (Go.Sl.rd b (g : Int)).toNat ∧ (Go.Sl.rd b (g : Int)).toNat ≤ 57 := by unfold digit at hd3; simpa using hd3
        have hy := digs_yes e1 hd3
        (repeat' (first | (refine isLW ?_; first | refine LW_nil ?_ | (refine isLload ?_; first | refine LW_loadC 0 TOK hs rfl rfl rfl rfl rfl ?_) | (refine isLstore ?_; first | (refine LW_storeC 0 TOK hs rfl rfl rfl rfl rfl rfl rfl ?_; clear hs; intro w hs)) | (refine isLbin ?_; first | refine LW_i64 rfl (by omega) (by omega) ?_) | refine LW_pure TOK rfl ?_) | (refine isDP ?_; first | (refine isDnil ?_; first | refine DP_end ?_ ?_) | (refine isDload rfl ?_; first | refine DP_loadC 0 hs TOK rfl rfl (by first | exact trivial | rfl) rfl rfl rfl rfl rfl ?_ ?_ | refine DP_loadRd0 rb (fun _ => rfl) hs TOK rfl rfl (by first | exact trivial | rfl) rfl (by assumption) rfl rfl (by omega) (by omega) rfl ?_ ?_) | (refine isDidx rfl ?_; first | (refine DP_indexRd (rb.of hs) TOK rfl rfl (by first | exact trivial | rfl) rfl rfl rfl rfl rfl (by omega) (by omega) ?_; intro _ _ _)) | (refine isDbin rfl ?_; first | (refine DP_cmp rfl rfl (by first | exact trivial | rfl) rfl (fun _ => ?_) (fun _ => ?_) <;> try (exfalso; omega))) | refine DP_pure TOK rfl rfl (by first | exact trivial | rfl) rfl ?_) | (refine isI0 ?_; exact Inv.nil) | (refine isI1 ?_; first | refine Inv.keepB hs ?_ | refine Inv.keepC 0 hs rfl rfl ?_) | (with_reducible first | refine then_n ?_ | refine CW_seq ?_ | refine CW_region ?_ | refine CW_block ?_ | refine CW_skip ?_ | refine blk_n ?_) | refine CW_true rfl ?_ | (refine CW_drawP (id := 5) [] [0, 1, 2, 3, 4, 5, 6, 7, 8, 9, 10, 11, 12, 13, 14, 15, 16, 17, 18, 19, 20, 21, 22, 23, 24, 25, 26, 27, 28, 29, 30, 31, 32, 33, 34, 35] mixed (by kernel_rfl) hs ?_; clear hs; intro hs)))
        exact ⟨g + 1, _, FR_forget _ ⟨rfl, rfl, trivial⟩, ⟨hs, by omega, by omega, by omega⟩, by omega⟩
      · have hd4 : ¬ (48 ≤ (Go.Sl.rd b (g : Int)).toNat ∧ (Go.Sl.rd b (g : Int)).toNat ≤ 57) := fun h => hd3 (by unfold digit; simpa using h)
        have hn := digs_no (b := b) (p := g) (by rw [e1]; simpa using hd3)
        have hcut := cutA6 (bb := bb) (oo := oo) (p := p) (c := c) (by omega)
        have hln : ((b.drop p).take (digs (b.drop p))).length = g - p := by rw [List.length_take, List.length_drop]; have := digs_le (b.drop p); rw [List.length_drop] at this; omega
        have hrd := (rb.drop (sz := 1) (fun _ => rfl) p hp).take (digs (b.drop p))
        rw [movedA_some, Nat.mul_one] at hrd
        (repeat' (first | (refine isDP ?_; first | (refine isDnil ?_; first | refine DP_end ?_ ?_) | (refine isDg rfl ?_; first | refine DP_pass rfl rfl rfl rfl ?_) | (refine isDload rfl ?_; first | refine DP_loadC 0 hs TOK rfl rfl (by first | exact trivial | rfl) rfl rfl rfl rfl rfl ?_ ?_ | refine DP_loadRd0 rb (fun _ => rfl) hs TOK rfl rfl (by first | exact trivial | rfl) rfl (by assumption) rfl rfl (by omega) (by omega) rfl ?_ ?_) | (refine isDidx rfl ?_; first | (refine DP_indexRd (rb.of hs) TOK rfl rfl (by first | exact trivial | rfl) rfl rfl rfl rfl rfl (by omega) (by omega) ?_; intro _ _ _)) | (refine isDbin rfl ?_; first | (refine DP_cmp rfl rfl (by first | exact trivial | rfl) rfl (fun _ => ?_) (fun _ => ?_) <;> try (exfalso; omega))) | refine DP_sliceLH (some ⟨bb, oo + p, none⟩) ((b.drop p).take (digs (b.drop p))).length (c - p) TOK rfl rfl (by first | exact trivial | rfl) rfl rfl rfl rfl rfl rfl (by omega) (by omega) (by omega) hcut (by omega) rfl ?_ | refine DP_pure TOK rfl rfl (by first | exact trivial | rfl) rfl ?_) | (refine isI0 ?_; exact Inv.nil) | (refine isI1 ?_; first | refine Inv.keepB hs ?_ | refine Inv.keepC 0 hs rfl rfl ?_) | (with_reducible first | refine then_n ?_ | refine CW_seq ?_ | refine CW_exit ?_ | refine CW_ret ?_ | refine then_e ?_ | refine blk_same ?_) | refine CW_false rfl ?_ | (refine CW_drawP (id := 5) [] [0, 1, 2, 3, 4, 5, 6, 7, 8, 9, 10, 11, 12, 13, 14, 15, 16, 17, 18, 19, 20, 21, 22, 23, 24, 25, 26, 27, 28, 29, 30, 31, 32, 33, 34, 35] mixed (by kernel_rfl) hs ?_; clear hs; intro hs) | (refine CW_drawP (id := 7) [] [0, 1, 2, 3, 4, 5, 6, 7, 8, 9, 10] mixed (by kernel_rfl) hs ?_; clear hs; intro hs) | refine RX1 Tryd.results59 rfl ?_))
        all_goals exact ⟨_, rfl, _, _, rfl, hrd, by rw [← h3, hn]; exact hs⟩
    · have hn := digs_no (b := b) (p := g) (by rw [List.getElem?_eq_none (by omega)]; rfl)
      have hcut := cutA6 (bb := bb) (oo := oo) (p := p) (c := c) (by omega)
      have hln : ((b.drop p).take (digs (b.drop p))).length = g - p := by rw [List.length_take, List.length_drop]; have := digs_le (b.drop p); rw [List.length_drop] at this; omega
      have hrd := (rb.drop (sz := 1) (fun _ => rfl) p hp).take (digs (b.drop p))
      rw [movedA_some, Nat.mul_one] at hrd
      (repeat' (first | (refine isDP ?_; first | (refine isDnil ?_; first | refine DP_end ?_ ?_) | (refine isDg rfl ?_; first | refine DP_pass rfl rfl rfl rfl ?_) | (refine isDload rfl ?_; first | refine DP_loadC 0 hs TOK rfl rfl (by first | exact trivial | rfl) rfl rfl rfl rfl rfl ?_ ?_) | (refine isDbin rfl ?_; first | (refine DP_cmp rfl rfl (by first | exact trivial | rfl) rfl (fun _ => ?_) (fun _ => ?_) <;> try (exfalso; omega))) | refine DP_sliceLH (some ⟨bb, oo + p, none⟩) ((b.drop p).take (digs (b.drop p))).length (c - p) TOK rfl rfl (by first | exact trivial | rfl) rfl rfl rfl rfl rfl rfl (by omega) (by omega) (by omega) hcut (by omega) rfl ?_ | refine DP_pure TOK rfl rfl (by first | exact trivial | rfl) rfl ?_) | (refine isI0 ?_; exact Inv.nil) | (refine isI1 ?_; first | refine Inv.keepC 0 hs rfl rfl ?_) | (with_reducible first | refine then_n ?_ | refine CW_seq ?_ | refine CW_exit ?_ | refine CW_ret ?_ | refine then_e ?_ | refine blk_same ?_) | refine CW_false rfl ?_ | (refine CW_drawP (id := 5) [] [0, 1, 2, 3, 4, 5, 6, 7, 8, 9, 10, 11, 12, 13, 14, 15, 16, 17, 18, 19, 20, 21, 22, 23, 24, 25, 26, 27, 28, 29, 30, 31, 32, 33, 34, 35] mixed (by kernel_rfl) hs ?_; clear hs; intro hs) | (refine CW_drawP (id := 7) [] [0, 1, 2, 3, 4, 5, 6, 7, 8, 9, 10] mixed (by kernel_rfl) hs ?_; clear hs; intro hs) | refine RX1 Tryd.results59 rfl ?_))
      all_goals exact ⟨_, rfl, _, _, rfl, hrd, by rw [← h3, hn]; exact hs⟩
  · rw [if_neg hd]
    have hd2 : ¬ (48 ≤ x.toNat ∧ x.toNat ≤ 57) := fun h => hd (by unfold digit; simpa using h)
    (repeat' (first | (refine isLW ?_; first | refine LW_nil ?_ | (refine isLg ?_; first | refine LW_take rfl ?_ | refine LW_pass rfl rfl ?_) | (refine isLload ?_; first | refine LW_loadC 0 TOK hs rfl rfl rfl rfl rfl ?_) | (refine isLcall ?_; first | (refine LW_callX (cap := []) rfl rfl ent35 (peek_call (p := p) (d := d) (c := c) _ (by unfold eR; exact hs) rb hp hb) ?_ ?_; rotate_left; (rintro _ w2 ⟨x, hx, _⟩; rw [hk] at hx; cases hx); clear hs; rintro _ w2 ⟨er2, hx, rfl, hs⟩; rw [hk] at hx; cases hx; unfold eR at hs) | (refine LW_callX (cap := []) rfl rfl ent27 (fail_call _ _ _ p) (fun _ _ h => h.elim) ?_; rintro _ w2 ⟨rfl, rfl⟩)) | (refine isLbin ?_; first | (refine LW_cmp rfl (fun _ => ?_) (fun _ => ?_) <;> try (exfalso; omega))) | refine LW_pure TOK rfl ?_) | (with_reducible first | refine then_n ?_ | refine CW_seq ?_ | refine CW_region ?_ | refine then_p ?_) | refine CW_true rfl ?_ | refine RXP ?_))
    all_goals exact ⟨_, rfl, rfl, hs.drop1⟩
theorem expV_take {l : List UInt8} {k : Nat} (h : k < l.length) : expV (l.take (k + 1)) = min 1099511627776 (expV (l.take k) * 10 + (l[k].toNat - 48)) := by
  unfold expV
  rw [List.take_succ_eq_append_getElem h, List.foldl_append]
  rfl
theorem expV_le : ∀ l : List UInt8, expV l ≤ 1099511627776 := fun l => by
  rcases List.eq_nil_or_concat l with rfl | ⟨t, x, rfl⟩
  · decide
  · unfold expV
    rw [List.concat_eq_append, List.foldl_append]
    exact Nat.min_le_left _ _
set_option maxHeartbeats 1000000 in
theorem exponent_call (w : World) (hs : Sat W w (Cl br (eR B b.length c p d) 57 :: L)) (rb : Rd eB W B b) (hp : p ≤ b.length) (hcb : b.length ≤ c) (hb : b.length ≤ 140737488355328) :
    Calls Tryd.prog 60 [Value.pointer (some ⟨br, 0, none⟩)].toArray w (Gives W L (exponentM b p) fun q v w' => v = .int .i64 q.1 ∧ -1099511627776 ≤ q.1 ∧ q.1 ≤ 1099511627776 ∧ p < q.2 ∧ q.2 ≤ b.length ∧ Sat W w' (Cl br (eR B b.length c q.2 d) 57 :: L)) := by
  unfold Gives
  refine Calls_of Tryd.func60 rfl 40 Tryd.ntmps60 rfl ?_
  obtain ⟨o, ho⟩ : ∃ o, b[p]? = o := ⟨_, rfl⟩
  obtain ⟨mi, hmi⟩ : ∃ z, (o == some (45 : UInt8)) = z := ⟨_, rfl⟩
  obtain ⟨pl, hpl⟩ : ∃ z, (o == some (43 : UInt8)) = z := ⟨_, rfl⟩
  have hlt : (mi || pl) = true → p < b.length := fun h => by
    rcases Nat.lt_or_ge p b.length with h1 | h1
    · exact h1
    · rw [List.getElem?_eq_none h1] at ho; subst ho; rw [← hmi, ← hpl] at h; cases h
  unfold exponentM
  rw [ho, hmi, hpl]
  have hpw : ((b[p]? == some (45 : UInt8)) = mi) ∧ ((b[p]? == some (43 : UInt8)) = pl) := by rw [ho]; exact ⟨hmi, hpl⟩
  obtain ⟨p1, hp1⟩ : ∃ p1, (if (mi || pl) = true then p + 1 else p) = p1 := ⟨_, rfl⟩
  rw [hp1]
  have hp1b : p1 ≤ b.length ∧ p ≤ p1 := by
    rw [← hp1]
    split
    · rename_i h; have := hlt h; omega
    · omega
  have hs0 := hs
  unfold eR at hs0
  replace hs := hs0
  clear hs0
  obtain ⟨hpw1, hpw2⟩ := hpw
  (repeat' (first | refine CW_late3 (fun a w => ∃ (τ : Nat → Value), a = FR 40 [(0, .pointer (some ⟨br, 0, none⟩)), (3, .bool mi)] τ [] ∧ Sat W w (Cl br (eR B b.length c p1 d) 57 :: L)) ?_ ?_))
  · clear hs
    rintro _ w ⟨τ, rfl, hs⟩
    rcases hk : runM b p1 with er | ⟨ds, p2⟩
    · (repeat' (first | (refine isLW ?_; first | refine LW_nil ?_ | (refine isLcall ?_; first | (refine LW_callX (cap := []) rfl rfl ent59 (run_call _ hs rb hp1b.1 hcb hb) ?_ ?_; (rintro _ w2 ⟨x, hx, _⟩; rw [hk] at hx; cases hx); rintro _ w2 ⟨er2, hx, rfl, hs2⟩; rw [hk] at hx; cases hx)) | refine LW_pure TOK rfl ?_) | (with_reducible first | refine then_n ?_ | refine CW_seq ?_ | refine CW_region ?_ | refine then_p ?_) | refine RXP ?_))
      exact ⟨_, rfl, rfl, hs2⟩
    obtain ⟨r1, r2, r3, r4, _⟩ := runM_ok hk
    dsimp only at r1 r2 r3 r4 ⊢
    have r5 : ds.length ≤ 140737488355328 := by omega
    (repeat' (first | (refine isLW ?_; first | refine LW_nil ?_ | (refine isLcall ?_; first | (refine LW_callX (cap := []) rfl rfl ent59 (run_call _ hs rb hp1b.1 hcb hb) ?_ ?_; rotate_left; (rintro _ w2 ⟨x, hx, _⟩; rw [hk] at hx; cases hx); clear hs; rintro _ w2 ⟨q, hx, A2, c2, rfl, hrd, hs⟩; rw [hk] at hx; cases hx; dsimp only at hrd hs ⊢) | refine LW_pure TOK rfl ?_) | refine LW_pure TOK rfl ?_) | (with_reducible first | refine then_n ?_ | refine CW_seq ?_ | refine CW_region ?_ | refine CW_block ?_)))
    refine CW_loop (γ := Nat) (fun g => [(0, .pointer (some ⟨br, 0, none⟩)), (3, .bool mi), (4, .int .i64 (expV (ds.take g) : Int)), (22, .slice A2 ds.length c2), (23, .int .i64 (ds.length : Int)), (24, .int .i64 (g : Int))]) (fun g w' => Sat W w' (Cl br (eR B b.length c p2 d) 57 :: L) ∧ g ≤ ds.length) (fun g => ds.length - g) 0 ⟨rfl, rfl, rfl, rfl, rfl, rfl, trivial⟩ ⟨hs, Nat.zero_le _⟩ ?_
    clear hs
    rintro g τ w' ⟨hs, h1⟩
    try dsimp only
    by_cases hg : g < ds.length
    · have hv := expV_le (ds.take g)
      have hx256 := (Go.Sl.rd ds (g : Int)).toNat_lt
      have hgd : Go.Sl.rd ds (g : Int) = ds[g] := rd_at hg
      have hdig := r4 _ (List.getElem_mem hg)
      rw [← hgd] at hdig
      have hd4 : 48 ≤ (Go.Sl.rd ds (g : Int)).toNat ∧ (Go.Sl.rd ds (g : Int)).toNat ≤ 57 := by unfold digit at hdig; simpa using hdig
      have hst := expV_take hg
      rw [← hgd] at hst
      obtain ⟨n0, hn0⟩ : ∃ n0, expV (ds.take g) = n0 := ⟨_, rfl⟩
      rw [hn0] at hst hv ⊢
      obtain ⟨h, hh⟩ : ∃ h : Nat, (Go.Sl.rd ds (g : Int)).toNat = h + 48 := ⟨(Go.Sl.rd ds (g : Int)).toNat - 48, by omega⟩
      have hmin : (if ((n0 : Int) * 10 + (h : Int)) < 1099511627776 then ((n0 : Int) * 10 + (h : Int)) else 1099511627776) = (expV (ds.take (g + 1)) : Int) := by
        rw [hst, hh]
        split <;> omega
      (repeat' (first | (refine isLW ?_; first | refine LW_nil ?_ | (refine isLload ?_; first | refine LW_loadRd0 (hrd.of hs) (fun _ => rfl) TOK rfl (by assumption) rfl rfl (by omega) (by omega) rfl ?_) | (refine isLidx ?_; first | (refine LW_indexRd (hrd.of hs) TOK rfl rfl rfl rfl rfl (by omega) (by omega) ?_; intro _ _ _)) | (refine isLbin ?_; first | refine LW_arithE (h : Int) rfl ((wrap_u8 (by omega) (by omega)).trans (by omega)) ?_ | refine LW_i64 rfl (by omega) (by omega) ?_ | (refine LW_cmp rfl (fun _ => ?_) (fun _ => ?_) <;> try (exfalso; omega))) | refine LW_convE (h : Int) TOK rfl rfl rfl rfl (wrap_i64 (by omega) (by omega)) ?_ | refine LW_min2 _ rfl rfl hmin ?_ | refine LW_pure TOK rfl ?_) | (with_reducible first | refine then_n ?_ | refine CW_seq ?_ | refine CW_region ?_ | refine CW_block ?_ | refine CW_skip ?_ | refine blk_n ?_) | refine CW_true rfl ?_))
      exact ⟨g + 1, _, FR_forget _ ⟨rfl, rfl, rfl, rfl, rfl, rfl, trivial⟩, ⟨hs, by omega⟩, by omega⟩
    · have hv := expV_le ds
      have hge : g = ds.length := by omega
      subst hge
      rw [List.take_length]
      cases mi
      · (repeat' (first | (refine isLW ?_; first | refine LW_nil ?_ | (refine isLbin ?_; first | (refine LW_cmp rfl (fun _ => ?_) (fun _ => ?_) <;> try (exfalso; omega))) | refine LW_pure TOK rfl ?_) | (with_reducible first | refine then_n ?_ | refine CW_seq ?_ | refine CW_region ?_ | refine CW_skip ?_ | refine CW_exit ?_ | refine CW_ret ?_ | refine then_e ?_ | refine blk_same ?_) | refine CW_false rfl ?_ | refine RX1 Tryd.results60 rfl ?_))
        exact ⟨_, rfl, rfl, by simp <;> omega, by simp <;> omega, by dsimp only; omega, r2, hs⟩
      · (repeat' (first | (refine isLW ?_; first | refine LW_nil ?_ | (refine isLbin ?_; first | (refine LW_cmp rfl (fun _ => ?_) (fun _ => ?_) <;> try (exfalso; omega))) | refine LW_pure TOK rfl ?_ | refine LW_i64 rfl (by omega) (by omega) ?_) | (with_reducible first | refine then_n ?_ | refine CW_seq ?_ | refine CW_region ?_ | refine CW_exit ?_ | refine CW_ret ?_ | refine then_e ?_ | refine then_r ?_ | refine blk_same ?_) | refine CW_true rfl ?_ | refine CW_false rfl ?_ | refine RX1 Tryd.results60 rfl ?_))
        exact ⟨_, rfl, by simp, by simp <;> omega, by simp <;> omega, by dsimp only; omega, r2, hs⟩
  · intro hlate
    cases mi <;> cases pl <;> first
      | (have e1 : p1 = p := hp1.symm
         subst e1
         (repeat' (first | refine hlate _ _ ?_ | (refine isLW ?_; first | refine LW_nil ?_ | (refine isLg ?_; first | refine LW_take rfl ?_) | (refine isLcall ?_; first | (refine LW_call (cap := []) rfl rfl ent34 (next_call (p := p1) (d := d) (c := c) _ 45 (by unfold eR; exact hs) rb (by omega) hb) ?_; clear hs; rintro _ w2 ⟨rfl, hs⟩; rw [hpw1]) | (refine LW_call (cap := []) rfl rfl ent34 (next_call (p := p1) (d := d) (c := c) _ 43 (by unfold eR; exact hs) rb (by omega) hb) ?_; clear hs; rintro _ w2 ⟨rfl, hs⟩; rw [hpw2]; unfold eR at hs)) | refine LW_pure TOK rfl ?_) | (with_reducible first | refine then_n ?_ | refine CW_seq ?_ | refine CW_region ?_ | refine CW_skip ?_) | refine CW_false rfl ?_))
         exact ⟨_, FR_forget _ ⟨rfl, rfl, trivial⟩, hs⟩)
      | (have e1 : p1 = p + 1 := hp1.symm
         subst e1
         (repeat' (first | refine hlate _ _ ?_ | (refine isLW ?_; first | refine LW_nil ?_ | (refine isLg ?_; first | refine LW_take rfl ?_ | refine LW_pass rfl rfl ?_) | (refine isLload ?_; first | refine LW_loadC 0 TOK hs rfl rfl rfl rfl rfl ?_) | (refine isLstore ?_; first | (refine LW_storeC 0 TOK hs rfl rfl rfl rfl rfl rfl rfl ?_; clear hs; intro w hs)) | (refine isLcall ?_; first | (refine LW_call (cap := []) rfl rfl ent34 (next_call (p := p) (d := d) (c := c) _ 45 (by unfold eR; exact hs) rb (by omega) hb) ?_; clear hs; rintro _ w2 ⟨rfl, hs⟩; rw [hpw1]; unfold eR at hs) | (refine LW_call (cap := []) rfl rfl ent34 (next_call (p := p) (d := d) (c := c) _ 43 (by unfold eR; exact hs) rb (by omega) hb) ?_; clear hs; rintro _ w2 ⟨rfl, hs⟩; rw [hpw2]; unfold eR at hs)) | (refine isLbin ?_; first | refine LW_i64 rfl (by omega) (by omega) ?_) | refine LW_pure TOK rfl ?_) | (with_reducible first | refine then_n ?_ | refine CW_seq ?_ | refine CW_region ?_) | refine CW_true rfl ?_))
         exact ⟨_, FR_forget _ ⟨rfl, rfl, trivial⟩, hs⟩)
end
end Go.Proofs.YtbmeafeojcgndaaDoor
