/- A range over a string. -/
import Derived.Test.YtbmeafeojcgndaaDoorSlText2
import Derived.Test.YtbmeafeojcgndaaDoorV0
import Derived.Test.YtbmeafeojcgndaaDoorSlB
set_option linter.unusedVariables false
set_option linter.unusedSimpArgs false
namespace Go.Sl
open Go.RowKit
section
variable {r : Option Nat} {P : Program} {T : List (Nat × TI)} {ops : Array Oper} {Q : Exit → Act → World → Prop} {rest : List Oper} {n : Nat} {s : List (Nat × Value)} {τ : Nat → Value} {ds : List Deferred} {w W : World}
  {ty : TypeId} {ps : String} {af : Array Edge} {d : Nat} {L : List HProp}
theorem LW_rangeS {t : TypeId} {x : Operand} {ti : TI} {p : ByteArray} (hs : Sat W w L) (hT : TyOK P T) (hx : EVO n s x = some (.string p)) (ht : lookT T t = some ti) (hu : ti.u = .string)
    (c : ∀ q w', Sat W w' (Bk q (.stringIter p 0) :: L) → LW r P ops Q rest (FR n ((d, .pointer (some ⟨q, 0, none⟩)) :: s) τ ds) w') : LW r P ops Q (⟨some d, .range t x, ty, ps, af, none⟩ :: rest) (FR n s τ ds) w := by
  refine LW_run (v := .pointer (some ⟨w.heap.size, 0, none⟩)) (w' := w.alloc (.stringIter p 0)) rfl (fun c e => by cases e) ?_ (by rw [put_FR]; exact c _ _ (hs.alloc _))
  show Sem.run P (do let v ← Instr.range t ((FR n s τ ds).eval x); pure (Next.value v)) w = _
  have h1 := ty_under (hT _ _ ht) w
  rw [hu] at h1
  rw [eval_of hx]
  simp only [Instr.range, Sem.run_bind, h1, Result.andThen, Sem.run_pure, newObj, Sem.run]
  rfl
theorem LW_nextS (i : Nat) {q pos : Nat} {p : ByteArray} {x : Operand} (hs : Sat W w L) (hx : EVO n s x = some (.pointer (some ⟨q, 0, none⟩))) (hi : getA L i = some (Bk q (.stringIter p pos))) (hlt : pos < p.size)
    (c : ∀ w', Sat W w' (L.set i (Bk q (.stringIter p (pos + (Utf8.decode p pos).2)))) → LW r P ops Q rest (FR n ((d, .tuple #[.bool true, .int .i64 pos, .int .i32 ((Utf8.decode p pos).1 : Nat)]) :: s) τ ds) w') : LW r P ops Q (⟨some d, .next x true, ty, ps, af, none⟩ :: rest) (FR n s τ ds) w := by
  rw [getA_eq] at hi
  have h2 := (hs.at i hi).2
  refine LW_run (v := .tuple #[.bool true, .int .i64 pos, .int .i32 ((Utf8.decode p pos).1 : Nat)]) (w' := w.putObj q (.stringIter p (pos + (Utf8.decode p pos).2))) rfl (fun c e => by cases e) ?_ (by rw [put_FR]; exact c _ (hs.putObj i hi _))
  show Sem.run P (do let v ← Instr.next ((FR n s τ ds).eval x) true ty; pure (Next.value v)) w = _
  have hq := block_lt h2
  rw [eval_of hx, Sem.run_bind]
  simp only [Instr.next, Sem.run_bind, getObj, Sem.run, h2, Result.andThen, hlt, if_true, setObj, goInt, hq]
  simp [Sem.run, h2, hq, World.putObj, Result.andThen]
theorem LW_nextE (i : Nat) {q pos : Nat} {p : ByteArray} {x : Operand} (hs : Sat W w L) (hx : EVO n s x = some (.pointer (some ⟨q, 0, none⟩))) (hi : getA L i = some (Bk q (.stringIter p pos))) (hlt : ¬ pos < p.size)
    (c : LW r P ops Q rest (FR n ((d, .tuple #[.bool false]) :: s) τ ds) w) : LW r P ops Q (⟨some d, .next x true, ty, ps, af, none⟩ :: rest) (FR n s τ ds) w := by
  rw [getA_eq] at hi
  have h2 := (hs.at i hi).2
  refine LW_run (v := .tuple #[.bool false]) (w' := w) rfl (fun c e => by cases e) ?_ (by rw [put_FR]; exact c)
  show Sem.run P (do let v ← Instr.next ((FR n s τ ds).eval x) true ty; pure (Next.value v)) w = _
  rw [eval_of hx, Sem.run_bind]
  simp [Instr.next, getObj, Sem.run, h2, hlt, Result.andThen]
end
/-- The rune at a place of a text in ASCII. -/
theorem decode_low {l : List UInt8} {pos : Nat} (h : pos < l.length) (ha : (l[pos]).toNat < 128) : Utf8.decode ⟨l.toArray⟩ pos = ((l[pos]).toNat, 1) := by
  have e : (ByteArray.mk l.toArray).get! (pos + 0) = l[pos] := by
    show (ByteArray.mk l.toArray).get! pos = _
    show (l.toArray)[pos]! = _
    simp [getElem!_pos, h]
  simp only [Utf8.decode, e, ha, if_true]
end Go.Sl

/- Walks of the reader: a word, a bracket that opens, what goes on. -/
set_option linter.unusedVariables false
set_option linter.unusedSimpArgs false
namespace Go.Proofs.YtbmeafeojcgndaaDoor
open Go Go.Sl Go.RowKit
set_option maxRecDepth 100000
attribute [local irreducible] CW LW DW FR DP Calls Res Ret
/-- A word: where it ends. -/
def wordM (b : List UInt8) : List UInt8 → Nat → Mo Nat
  | [], p => .ok p
  | c :: l, p => match peekM b p with
    | .error e => .error e
    | .ok x => if x = c then wordM b l (p + 1) else .error (131, p)
theorem wordM_cons (b : List UInt8) (c : UInt8) (l : List UInt8) (p : Nat) : wordM b (c :: l) p = match peekM b p with
    | .error e => .error e
    | .ok x => if x = c then wordM b l (p + 1) else .error (131, p) := rfl
theorem wrap_in32 {n : Int} (h0 : 0 ≤ n) (h1 : n < 2147483648) : IntKind.i32.wrap n = n := by
  unfold IntKind.wrap
  have e : n % (2 ^ IntKind.i32.bits : Int) = n := by
    have : (2 ^ IntKind.i32.bits : Int) = 4294967296 := rfl
    rw [this]; omega
  have h2 : ¬ (n ≥ (2 ^ (IntKind.i32.bits - 1) : Int)) := by
    have : (2 ^ (IntKind.i32.bits - 1) : Int) = 2147483648 := rfl
    rw [this]; omega
  simp only [e]
  simp [h2]
theorem wrap32b (x : UInt8) : IntKind.i32.wrap (x.toNat : Int) = (x.toNat : Int) := by
  have := x.toNat_lt
  exact wrap_in32 (by omega) (by omega)
def enterM (b : List UInt8) (p d : Nat) : Mo Nat := if d < 16 then .ok (blanksM b (p + 1)) else .error (136, p)
/-- Does another item follow? And where to go on. -/
def moreM (b : List UInt8) (e : UInt8) (p : Nat) : Mo (Bool × Nat) := match peekM b (blanksM b p) with
  | .error e => .error e
  | .ok x => if x = 44 then .ok (true, blanksM b (blanksM b p + 1)) else if x = e then .ok (false, blanksM b (blanksM b p + 1)) else .error (131, blanksM b p)
section
variable {W : World} {b : List UInt8} {B : Option Addr} {c br p d : Nat} {L : List HProp}
theorem enter_call (w : World) (hs : Sat W w (Cl br (eR B b.length c p d) 57 :: L)) (rb : Rd eB W B b) (hp : p < b.length) (hd : d ≤ 1000) (hb : b.length ≤ 140737488355328) :
    Calls Tryd.prog 56 [Value.pointer (some ⟨br, 0, none⟩)].toArray w (Gives W L (enterM b p d) fun q v w' => v = .tuple #[] ∧ Sat W w' (Cl br (eR B b.length c q (d + 1)) 57 :: L)) := by
  unfold Gives
  refine Calls_of Tryd.func56 rfl 29 Tryd.ntmps56 rfl ?_
  unfold eR at hs
  unfold enterM
  by_cases h16 : d < 16
  · rw [if_pos h16]
    (repeat' (first | (refine isLW ?_; first | refine LW_nil ?_ | (refine isLload ?_; first | refine LW_loadC 0 TOK hs rfl rfl rfl rfl rfl ?_) | (refine isLstore ?_; first | (refine LW_storeC 0 TOK hs rfl rfl rfl rfl rfl rfl rfl ?_; clear hs; intro w hs)) | (refine isLcall ?_; first | (refine LW_call (cap := []) rfl rfl ent25 (blanks_call (p := p + 1) (d := d + 1) (c := c) _ (by unfold eR; exact hs) rb (by omega) hb) ?_; clear hs; rintro _ w2 hs)) | (refine isLbin ?_; first | refine LW_i64 rfl (by omega) (by omega) ?_ | (refine LW_cmp rfl (fun _ => ?_) (fun _ => ?_) <;> try (exfalso; omega))) | refine LW_pure TOK rfl ?_) | (with_reducible first | refine then_n ?_ | refine CW_seq ?_ | refine CW_region ?_ | refine CW_skip ?_) | refine CW_false rfl ?_ | refine RX0 Tryd.results56 ?_))
    exact ⟨_, rfl, rfl, hs⟩
  · rw [if_neg h16]
    (repeat' (first | (refine isLW ?_; first | refine LW_nil ?_ | (refine isLload ?_; first | refine LW_loadC 0 TOK hs rfl rfl rfl rfl rfl ?_) | (refine isLstore ?_; first | (refine LW_storeC 0 TOK hs rfl rfl rfl rfl rfl rfl rfl ?_; clear hs; intro w hs)) | (refine isLcall ?_; first | (refine LW_callX (cap := []) rfl rfl ent27 (fail_call _ _ _ p) (fun _ _ h => h.elim) ?_; rintro _ w2 ⟨rfl, rfl⟩)) | (refine isLbin ?_; first | refine LW_i64 rfl (by omega) (by omega) ?_ | (refine LW_cmp rfl (fun _ => ?_) (fun _ => ?_) <;> try (exfalso; omega))) | refine LW_pure TOK rfl ?_) | (with_reducible first | refine then_n ?_ | refine CW_seq ?_ | refine CW_region ?_ | refine then_p ?_) | refine CW_true rfl ?_ | refine RXP ?_))
    exact ⟨_, rfl, rfl, hs.drop1⟩
theorem more_call (w : World) (e : UInt8) (hs : Sat W w (Cl br (eR B b.length c p d) 57 :: L)) (rb : Rd eB W B b) (hp : p ≤ b.length) (he : e ≠ 44) (hd0 : 1 ≤ d) (hd : d ≤ 1000) (hb : b.length ≤ 140737488355328) :
    Calls Tryd.prog 57 [Value.pointer (some ⟨br, 0, none⟩), .int .u8 (e.toNat : Int)].toArray w (Gives W L (moreM b e p) fun q v w' => v = .bool q.1 ∧ Sat W w' (Cl br (eR B b.length c q.2 (if q.1 then d else d - 1)) 57 :: L)) := by
  unfold Gives
  refine Calls_of Tryd.func57 rfl 44 Tryd.ntmps57 rfl ?_
  have hbl := blanks_le hp
  unfold moreM
  rcases hk : peekM b (blanksM b p) with er | x
  · (repeat' (first | (refine isLW ?_; first | refine LW_nil ?_ | (refine isLcall ?_; first | (refine LW_call (cap := []) rfl rfl ent25 (blanks_call _ hs rb hp hb) ?_; clear hs; rintro _ w2 hs) | (refine LW_callX (cap := []) rfl rfl ent35 (peek_call _ hs rb hbl.2 hb) ?_ ?_; (rintro _ w2 ⟨x, hx, _⟩; rw [hk] at hx; cases hx); rintro _ w2 ⟨er2, hx, rfl, hs2⟩; rw [hk] at hx; cases hx)) | refine LW_pure TOK rfl ?_) | (with_reducible first | refine then_n ?_ | refine CW_seq ?_ | refine CW_region ?_ | refine then_p ?_) | refine RXP ?_))
    exact ⟨_, rfl, rfl, hs2⟩
  obtain ⟨hx1, hx2⟩ := peek_some hk
  dsimp only
  by_cases h44 : (x.toNat : Int) = 44
  · have hx44 : x = 44 := UInt8.toNat_inj.1 (by simpa using (by omega : x.toNat = 44))
    have hne : ¬ (x.toNat : Int) = (e.toNat : Int) := fun h => he (by rw [← hx44]; exact (UInt8.toNat_inj.1 (by omega)).symm)
    rw [if_pos hx44]
    (repeat' (first | (refine isLW ?_; first | refine LW_nil ?_ | (refine isLg ?_; first | refine LW_pass rfl rfl ?_) | (refine isLload ?_; first | refine LW_loadC 0 TOK hs rfl rfl rfl rfl rfl ?_) | (refine isLstore ?_; first | (refine LW_storeC 0 TOK hs rfl rfl rfl rfl rfl rfl rfl ?_; clear hs; intro w hs)) | (refine isLcall ?_; first | (refine LW_call (cap := []) rfl rfl ent25 (blanks_call (p := p) _ hs rb hp hb) ?_; clear hs; rintro _ w2 hs; unfold eR at hs) | (refine LW_call (cap := []) rfl rfl ent25 (blanks_call (p := blanksM b p + 1) (d := d) (c := c) _ (by unfold eR; exact hs) rb (by omega) hb) ?_; clear hs; rintro _ w2 hs) | (refine LW_callX (cap := []) rfl rfl ent35 (peek_call _ hs rb hbl.2 hb) ?_ ?_; rotate_left; (rintro _ w2 ⟨x, hx, _⟩; rw [hk] at hx; cases hx); clear hs; rintro _ w2 ⟨er2, hx, rfl, hs⟩; rw [hk] at hx; cases hx; unfold eR at hs)) | (refine isLbin ?_; first | refine LW_i64 rfl (by omega) (by omega) ?_ | (refine LW_cmp rfl (fun _ => ?_) (fun _ => ?_) <;> try (exfalso; omega))) | refine LW_pure TOK rfl ?_) | (with_reducible first | refine then_n ?_ | refine CW_seq ?_ | refine CW_region ?_ | refine CW_skip ?_ | refine CW_ret ?_) | refine CW_false rfl ?_ | refine RX1 Tryd.results57 rfl ?_))
    exact ⟨_, rfl, rfl, hs⟩
  have hx44 : ¬ x = 44 := fun h => h44 (by rw [h]; rfl)
  rw [if_neg hx44]
  by_cases hxe : (x.toNat : Int) = (e.toNat : Int)
  · have hxe2 : x = e := UInt8.toNat_inj.1 (by omega)
    rw [if_pos hxe2]
    (repeat' (first | (refine isLW ?_; first | refine LW_nil ?_ | (refine isLg ?_; first | refine LW_take rfl ?_) | (refine isLload ?_; first | refine LW_loadC 0 TOK hs rfl rfl rfl rfl rfl ?_) | (refine isLstore ?_; first | (refine LW_storeC 0 TOK hs rfl rfl rfl rfl rfl rfl rfl ?_; clear hs; intro w hs)) | (refine isLcall ?_; first | (refine LW_call (cap := []) rfl rfl ent25 (blanks_call (p := p) _ hs rb hp hb) ?_; clear hs; rintro _ w2 hs; unfold eR at hs) | (refine LW_call (cap := []) rfl rfl ent25 (blanks_call (p := blanksM b p + 1) (d := d - 1) (c := c) _ (by unfold eR; rw [show ((d - 1 : Nat) : Int) = (d : Int) - 1 from by omega]; exact hs) rb (by omega) hb) ?_; clear hs; rintro _ w2 hs) | (refine LW_callX (cap := []) rfl rfl ent35 (peek_call _ hs rb hbl.2 hb) ?_ ?_; rotate_left; (rintro _ w2 ⟨x, hx, _⟩; rw [hk] at hx; cases hx); clear hs; rintro _ w2 ⟨er2, hx, rfl, hs⟩; rw [hk] at hx; cases hx; unfold eR at hs)) | (refine isLbin ?_; first | refine LW_i64 rfl (by omega) (by omega) ?_ | (refine LW_cmp rfl (fun _ => ?_) (fun _ => ?_) <;> try (exfalso; omega))) | refine LW_pure TOK rfl ?_) | (with_reducible first | refine then_n ?_ | refine CW_seq ?_ | refine CW_region ?_ | refine CW_skip ?_ | refine CW_ret ?_) | refine CW_true rfl ?_ | refine CW_false rfl ?_ | refine RX1 Tryd.results57 rfl ?_))
    exact ⟨_, rfl, rfl, hs⟩
  · have hxe2 : ¬ x = e := fun h => hxe (by rw [h])
    rw [if_neg hxe2]
    (repeat' (first | (refine isLW ?_; first | refine LW_nil ?_ | (refine isLg ?_; first | refine LW_take rfl ?_) | (refine isLload ?_; first | refine LW_loadC 0 TOK hs rfl rfl rfl rfl rfl ?_) | (refine isLcall ?_; first | (refine LW_call (cap := []) rfl rfl ent25 (blanks_call (p := p) _ hs rb hp hb) ?_; clear hs; rintro _ w2 hs) | (refine LW_callX (cap := []) rfl rfl ent35 (peek_call _ hs rb hbl.2 hb) ?_ ?_; rotate_left; (rintro _ w2 ⟨x, hx, _⟩; rw [hk] at hx; cases hx); clear hs; rintro _ w2 ⟨er2, hx, rfl, hs⟩; rw [hk] at hx; cases hx; unfold eR at hs) | (refine LW_callX (cap := []) rfl rfl ent27 (fail_call _ _ _ (blanksM b p)) (fun _ _ h => h.elim) ?_; rintro _ w2 ⟨rfl, rfl⟩)) | (refine isLbin ?_; first | (refine LW_cmp rfl (fun _ => ?_) (fun _ => ?_) <;> try (exfalso; omega))) | refine LW_pure TOK rfl ?_) | (with_reducible first | refine then_n ?_ | refine CW_seq ?_ | refine CW_region ?_ | refine then_p ?_) | refine CW_true rfl ?_ | refine RXP ?_))
    exact ⟨_, rfl, rfl, hs.drop1⟩
theorem word_call (w : World) (t : List UInt8) (ht : ∀ x ∈ t, x.toNat < 128) (hs : Sat W w (Cl br (eR B b.length c p d) 57 :: L)) (rb : Rd eB W B b) (hp : p ≤ b.length) (hb : b.length ≤ 140737488355328) (htl : t.length ≤ 140737488355328) :
    Calls Tryd.prog 36 [Value.pointer (some ⟨br, 0, none⟩), sv t].toArray w (Gives W L (wordM b t p) fun q v w' => v = .tuple #[] ∧ q ≤ b.length ∧ Sat W w' (Cl br (eR B b.length c q d) 57 :: L)) := by
  unfold Gives
  refine Calls_of Tryd.func36 rfl 29 Tryd.ntmps36 rfl ?_
  (repeat' (first | (refine isLW ?_; first | refine LW_nil ?_ | (refine LW_rangeS (p := ⟨t.toArray⟩) hs TOK rfl rfl rfl ?_; clear hs; intro q w hs) | refine LW_pure TOK rfl ?_) | (with_reducible first | refine then_n ?_ | refine CW_seq ?_ | refine CW_region ?_ | refine CW_block ?_)))
  refine CW_loop (γ := Nat) (fun g => [(0, .pointer (some ⟨br, 0, none⟩)), (7, .pointer (some ⟨q, 0, none⟩))]) (fun g w' => Sat W w' (Bk q (.stringIter ⟨t.toArray⟩ g) :: Cl br (eR B b.length c (p + g) d) 57 :: L) ∧ g ≤ t.length ∧ p + g ≤ b.length ∧ wordM b (t.drop g) (p + g) = wordM b t p) (fun g => t.length - g) 0 ⟨rfl, rfl, trivial⟩ ⟨hs, by omega, by omega, rfl⟩ ?_
  clear hs
  rintro g τ w' ⟨hs, h1, h2, h3⟩
  try dsimp only
  have hsz : (ByteArray.mk t.toArray).size = t.length := rfl
  by_cases hlt : g < t.length
  · have hdc := decode_low hlt (ht _ (List.getElem_mem hlt))
    rw [List.drop_eq_getElem_cons hlt] at h3
    rw [wordM_cons] at h3
    have hs2 : Sat W w' (Cl br (eR B b.length c (p + g) d) 57 :: Bk q (.stringIter ⟨t.toArray⟩ (g + 1)) :: L) → True := fun _ => trivial
    rcases hk : peekM b (p + g) with er | x
    · rw [hk] at h3
      (repeat' (first | (refine isLW ?_; first | refine LW_nil ?_ | (refine isLcall ?_; first | (refine LW_callX (cap := []) rfl rfl ent35 (peek_call _ (hs.picks [1, 0]) rb h2 hb) ?_ ?_; (rintro _ w2 ⟨x, hx, _⟩; rw [hk] at hx; cases hx); rintro _ w2 ⟨er2, hx, rfl, hs2⟩; rw [hk] at hx; cases hx)) | (refine LW_nextS 0 hs rfl rfl (by rw [hsz]; exact hlt) ?_; clear hs; intro w hs; rw [hdc] at hs ⊢) | refine LW_pure TOK rfl ?_) | (with_reducible first | refine then_n ?_ | refine CW_seq ?_ | refine CW_region ?_ | refine CW_block ?_ | refine CW_skip ?_ | refine then_p ?_ | refine blk_p ?_) | refine CW_true rfl ?_ | refine RXP ?_))
      exact ⟨_, h3.symm, rfl, hs2.drop1⟩
    · rw [hk] at h3
      dsimp only at h3
      obtain ⟨hx1, hx2⟩ := peek_some hk
      by_cases hxe : ((t[g]).toNat : Int) = (x.toNat : Int)
      · have hxe2 : x = t[g] := UInt8.toNat_inj.1 (by omega)
        rw [if_pos hxe2] at h3
        (repeat' (first | (refine isLW ?_; first | refine LW_nil ?_ | (refine isLload ?_; first | refine LW_loadC 0 TOK hs rfl rfl rfl rfl rfl ?_) | (refine isLstore ?_; first | (refine LW_storeC 0 TOK hs rfl rfl rfl rfl rfl rfl rfl ?_; clear hs; intro w hs)) | (refine isLcall ?_; first | (refine LW_callX (cap := []) rfl rfl ent35 (peek_call _ (hs.picks [1, 0]) rb h2 hb) ?_ ?_; rotate_left; (rintro _ w2 ⟨x, hx, _⟩; rw [hk] at hx; cases hx); clear hs; rintro _ w2 ⟨er2, hx, rfl, hs⟩; rw [hk] at hx; cases hx; unfold eR at hs)) | (refine isLbin ?_; first | refine LW_i64 rfl (by omega) (by omega) ?_ | (refine LW_cmp rfl (fun _ => ?_) (fun _ => ?_) <;> try (exfalso; omega))) | (refine LW_nextS 0 hs rfl rfl (by rw [hsz]; exact hlt) ?_; clear hs; intro w hs; rw [hdc] at hs ⊢) | refine LW_convE (x.toNat : Int) TOK rfl rfl rfl rfl (wrap32b x) ?_ | refine LW_pure TOK rfl ?_) | (with_reducible first | refine then_n ?_ | refine CW_seq ?_ | refine CW_region ?_ | refine CW_block ?_ | refine CW_skip ?_ | refine blk_n ?_) | refine CW_true rfl ?_ | refine CW_false rfl ?_))
        exact ⟨g + 1, _, FR_forget _ ⟨rfl, rfl, trivial⟩, ⟨hs.picks [1, 0], by omega, by omega, h3⟩, by omega⟩
      · have hxe2 : ¬ x = t[g] := fun h => hxe (by rw [h])
        rw [if_neg hxe2] at h3
        (repeat' (first | (refine isLW ?_; first | refine LW_nil ?_ | (refine isLload ?_; first | refine LW_loadC 0 TOK hs rfl rfl rfl rfl rfl ?_) | (refine isLcall ?_; first | (refine LW_callX (cap := []) rfl rfl ent35 (peek_call _ (hs.picks [1, 0]) rb h2 hb) ?_ ?_; rotate_left; (rintro _ w2 ⟨x, hx, _⟩; rw [hk] at hx; cases hx); clear hs; rintro _ w2 ⟨er2, hx, rfl, hs⟩; rw [hk] at hx; cases hx; unfold eR at hs) | (refine LW_callX (cap := []) rfl rfl ent27 (fail_call _ _ _ (p + g)) (fun _ _ h => h.elim) ?_; rintro _ w2 ⟨rfl, rfl⟩)) | (refine isLbin ?_; first | (refine LW_cmp rfl (fun _ => ?_) (fun _ => ?_) <;> try (exfalso; omega))) | (refine LW_nextS 0 hs rfl rfl (by rw [hsz]; exact hlt) ?_; clear hs; intro w hs; rw [hdc] at hs ⊢) | refine LW_convE (x.toNat : Int) TOK rfl rfl rfl rfl (wrap32b x) ?_ | refine LW_pure TOK rfl ?_) | (with_reducible first | refine then_n ?_ | refine CW_seq ?_ | refine CW_region ?_ | refine CW_block ?_ | refine CW_skip ?_ | refine then_p ?_ | refine blk_p ?_) | refine CW_true rfl ?_ | refine RXP ?_))
        exact ⟨_, h3.symm, rfl, hs.drop1.drop1⟩
  · (repeat' (first | (refine isLW ?_; first | refine LW_nil ?_ | refine LW_nextE 0 hs rfl rfl (by rw [hsz]; exact hlt) ?_ | refine LW_pure TOK rfl ?_) | (with_reducible first | refine then_n ?_ | refine CW_seq ?_ | refine CW_region ?_ | refine CW_exit ?_ | refine then_e ?_ | refine blk_same ?_) | refine CW_false rfl ?_ | refine RX0 Tryd.results36 ?_))
    rw [List.drop_of_length_le (by omega)] at h3
    exact ⟨_, h3.symm, rfl, h2, hs.drop1⟩
end
end Go.Proofs.YtbmeafeojcgndaaDoor
