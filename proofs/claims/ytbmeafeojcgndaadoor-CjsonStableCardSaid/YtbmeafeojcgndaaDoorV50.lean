/- Walks: an error's number; the same bytes? -/
import Derived.Test.YtbmeafeojcgndaaDoorV0
import Derived.Test.YtbmeafeojcgndaaDoorSlApS
import Derived.Test.YtbmeafeojcgndaaDoorSlB
import Derived.Test.YtbmeafeojcgndaaDoorSlText
import Derived.Lib.ConvBytes
import Derived.Test.YtbmeafeojcgndaaDoorV48
import Derived.Test.YtbmeafeojcgndaaDoorV30
import Derived.Test.YtbmeafeojcgndaaDoorV37
import Derived.Test.YtbmeafeojcgndaaDoorV39
import Derived.Test.YtbmeafeojcgndaaDoorV42
set_option linter.unusedVariables false
set_option linter.unusedSimpArgs false
namespace Go.Proofs.YtbmeafeojcgndaaDoor
open Go Go.Sl Go.RowKit
set_option maxRecDepth 100000
attribute [local irreducible] CW LW DW FR DP Calls Res Ret
theorem num_call (w : World) (e : Int) (h0 : 0 ≤ e) (h1 : e ≤ 1000) :
    Calls Tryd.prog 12 [Value.int .i64 e].toArray w (Ret fun v w' => v = .int .i64 e ∧ w' = w) := by
  refine Calls_of Tryd.func12 rfl 4 Tryd.ntmps12 rfl ?_
  (repeat' (first | (refine isLW ?_; first | refine LW_nil ?_ | refine LW_pure TOK rfl ?_) | (with_reducible first | refine then_n ?_ | refine CW_seq ?_ | refine CW_region ?_ | refine CW_ret ?_) | refine RET1 Tryd.results12 rfl ?_))
  all_goals exact ⟨rfl, rfl⟩
theorem same_call (w : World) (a b : List UInt8) (A B : Option Addr) (c d : Nat) (ra : Rd eB w A a) (rb : Rd eB w B b) :
    Calls Tryd.prog 19 [Value.slice A a.length c, .slice B b.length d].toArray w (Ret fun v w' => v = .bool (decide (a = b)) ∧ Sat w w' []) := by
  refine Calls_of Tryd.func19 rfl 10 Tryd.ntmps19 rfl ?_
  have hs := Sat.start w
  by_cases h : a = b
  · (repeat' (first | refine LW_strEq (a := a) (b := b) rfl rfl rfl rfl (fun _ => ?_) (fun hn => absurd h hn) | (refine isLW ?_; first | refine LW_nil ?_ | refine LW_strRd (xs := a) TOK (ra.of hs) rfl rfl rfl rfl rfl rfl rfl rfl ?_ | refine LW_strRd (xs := b) TOK (rb.of hs) rfl rfl rfl rfl rfl rfl rfl rfl ?_ | refine LW_pure TOK rfl ?_) | (with_reducible first | refine then_n ?_ | refine CW_seq ?_ | refine CW_region ?_ | refine CW_ret ?_) | refine RET1 Tryd.results19 rfl ?_))
    all_goals exact ⟨by simp [h], hs⟩
  · (repeat' (first | refine LW_strEq (a := a) (b := b) rfl rfl rfl rfl (fun hn => absurd hn h) (fun _ => ?_) | (refine isLW ?_; first | refine LW_nil ?_ | refine LW_strRd (xs := a) TOK (ra.of hs) rfl rfl rfl rfl rfl rfl rfl rfl ?_ | refine LW_strRd (xs := b) TOK (rb.of hs) rfl rfl rfl rfl rfl rfl rfl rfl ?_ | refine LW_pure TOK rfl ?_) | (with_reducible first | refine then_n ?_ | refine CW_seq ?_ | refine CW_region ?_ | refine CW_ret ?_) | refine RET1 Tryd.results19 rfl ?_))
    all_goals exact ⟨by simp [h], hs⟩
end Go.Proofs.YtbmeafeojcgndaaDoor

/- The bytes of a text: a new row, marked. -/
set_option linter.unusedVariables false
set_option linter.unusedSimpArgs false
namespace Go.Sl
open Go.RowKit
section
variable {r : Option Nat} {P : Program} {T : List (Nat × TI)} {ops : Array Oper} {Q : Exit → Act → World → Prop} {rest : List Oper} {n : Nat} {s : List (Nat × Value)} {τ : Nat → Value} {ds : List Deferred} {w W : World} {L : List HProp} {d : Nat} {ty : TypeId} {ps : String} {af : Array Edge}
theorem LW_strBytes (a : List UInt8) {src dst e : TypeId} {x : Operand} {t1 t2 t3 : TI} (hT : TyOK P T) (hs : Sat W w L) (hx : EVO n s x = some (sv a)) (h1 : lookT T src = some t1) (u1 : t1.u = .string) (h2 : lookT T dst = some t2) (u2 : t2.u = .slice e) (h3 : lookT T e = some t3) (u3 : t3.u = .int .u8)
    (k : ∀ (bl c : Nat) (q : HProp) (w' : World), a.length ≤ c → Sat W w' (q :: L) → (∀ (i : Nat) (w'' : World) (L'' : List HProp), getA L'' i = some q → Sat W w'' L'' → Rd eB w'' (some ⟨bl, 0, none⟩) a) → LW r P ops Q rest (FR n ((d, .slice (some ⟨bl, 0, none⟩) a.length c) :: s) τ ds) w') :
    LW r P ops Q (⟨some d, .convert src dst x, ty, ps, af, none⟩ :: rest) (FR n s τ ds) w := by
  have a1 := (ty_info (hT _ _ h1)).1
  have a2 := (ty_info (hT _ _ h2)).1
  have a3 := (ty_info (hT _ _ h3)).1
  rw [u1] at a1
  rw [u2] at a2
  rw [u3] at a3
  have hr := Lib.run_convert_string_bytes (P := P) w src dst e ⟨a.toArray⟩ a1 a2 a3
  obtain ⟨cs, hcs⟩ : ∃ cs, Lib.bytesCells w e ⟨a.toArray⟩ = cs := ⟨_, rfl⟩
  have hat := Lib.bytesWorld_at_new w e ⟨a.toArray⟩
  have hcell := fun j hj => Lib.bytesWorld_cell w e ⟨a.toArray⟩ j hj
  rw [hcs] at hat
  have hsz : (ByteArray.mk a.toArray).size = a.length := rfl
  rw [hsz] at hr hcell
  have hS : Sat W (Lib.bytesWorld w e ⟨a.toArray⟩) (Bk w.heap.size (.cells cs e (cs.size, cs.size + 1)) :: L) := by
    have h4 := hs.drew.alloc (.cells (Lib.bytesCells w e ⟨a.toArray⟩) e (0, 0))
    exact h4.turn 0 rfl _ ⟨rfl, rfl, rfl, by simp [Lib.bytesWorld, World.freeze], fun k hk hne => by
      have hne' : ¬ w.heap.size = k := fun e => hne (by rw [← e]; rfl)
      simp [Lib.bytesWorld, World.freeze, Array.getElem?_modify, hne']⟩ hat
  have hrd : ∀ (i : Nat) (w'' : World) (L'' : List HProp), getA L'' i = some (Bk w.heap.size (.cells cs e (cs.size, cs.size + 1))) → Sat W w'' L'' → Rd eB w'' (some ⟨w.heap.size, 0, none⟩) a := fun i w'' L'' hi hs'' => by
    rw [getA_eq] at hi
    have hb := (hs''.at i hi).2
    refine .inr ⟨w.heap.size, 0, rfl, fun j u h => ?_⟩
    have hj : j < a.length := by
      obtain ⟨h', -⟩ := List.getElem?_eq_some_iff.1 h
      have hl : (a.flatMap eB).length = a.length := by rw [flat_eB]; simp
      omega
    have h5 := hcell j hj
    simp only [World.cell?, hat, hb, Nat.zero_add] at h5 ⊢
    rw [h5]
    rw [flat_eB] at h
    simp [hj] at h
    rw [← h]
    simp [hj]
  refine LW_run (v := .slice (some ⟨w.heap.size, 0, none⟩) a.length (grownCap w a.length 0 e)) (w' := Lib.bytesWorld w e ⟨a.toArray⟩) rfl (fun c e => by cases e) ?_ (by rw [put_FR]; exact k _ _ _ _ (grownCap_ge w a.length 0 e) hS hrd)
  show Sem.run P (do let v ← convert src dst ((FR n s τ ds).eval x); pure (Next.value v)) w = _
  rw [eval_of hx, Sem.run_bind, hr]; rfl
end
end Go.Sl

/- Both readings refuse the same four texts: with the same words, at the same places. -/
set_option linter.unusedVariables false
set_option linter.unusedSimpArgs false
namespace Go.Proofs.YtbmeafeojcgndaaDoor
open Go Go.Sl Go.RowKit
set_option maxRecDepth 100000
attribute [local irreducible] CW LW DW FR DP Calls Res Ret
def tx1 : List UInt8 := [49, 50, 51, 52, 53, 54, 55, 56, 57, 48, 49, 50, 51, 52, 53, 54, 55, 56, 57, 48, 49, 50, 46, 53]
def tx2 : List UInt8 := [91, 48, 44, 32, 57, 57, 57, 57, 57, 57, 57, 57, 57, 57, 57, 57, 57, 57, 57, 57, 57, 57, 57, 57, 57, 57, 57, 101, 45, 49, 93]
def tx3 : List UInt8 := [45, 49, 50, 51, 52, 53, 54, 55, 56, 57, 48, 49, 50, 51, 52, 53, 54, 55, 56, 57, 48, 49, 50, 51, 52, 53, 54, 55, 56, 57, 46, 50, 53]
def tx4 : List UInt8 := [49, 101, 57, 57]
def txs : List (List UInt8) := [tx1, tx2, tx3, tx4]
theorem num1 : Nonempty (NumS tx1 0 0 132 24) := ⟨⟨false, false, true, false, false, 0, 0, 22, 22, 23, 1, 24, 24, 24, 0, -1, rfl, rfl, rfl, rfl, .inr ⟨rfl, rfl, by decide⟩, rfl, rfl, rfl, .inr ⟨rfl, rfl, by decide⟩, rfl, rfl, rfl, fun _ => rfl, (fun h => nomatch h), rfl, (fun h => nomatch h), .inl ⟨rfl, rfl⟩, rfl, by decide, rfl, .inr (.inl ⟨rfl, rfl, rfl, by decide⟩)⟩⟩
theorem num2 : Nonempty (NumS tx2 1 0 0 2) := ⟨⟨false, true, false, false, false, 1, 2, 0, 2, 2, 0, 2, 2, 2, 0, 0, rfl, rfl, rfl, rfl, .inl ⟨rfl, rfl⟩, rfl, rfl, rfl, .inl ⟨rfl, rfl⟩, rfl, rfl, rfl, fun _ => rfl, (fun h => nomatch h), rfl, (fun h => nomatch h), .inl ⟨rfl, rfl⟩, rfl, by decide, rfl, .inl ⟨rfl, rfl, rfl, rfl⟩⟩⟩
theorem num2b : Nonempty (NumS tx2 4 0 132 30) := ⟨⟨false, false, false, true, true, 4, 4, 23, 27, 27, 0, 27, 28, 29, 1, -1, rfl, rfl, rfl, rfl, .inr ⟨rfl, rfl, by decide⟩, rfl, rfl, rfl, .inl ⟨rfl, rfl⟩, rfl, rfl, rfl, (fun h => nomatch h), fun _ => rfl, rfl, (fun _ h => nomatch h), .inr ⟨rfl, rfl, by decide, by decide⟩, by decide, by decide, rfl, .inr (.inr ⟨rfl, rfl, rfl, by decide⟩)⟩⟩
theorem num3 : Nonempty (NumS tx3 0 0 132 33) := ⟨⟨true, false, true, false, false, 1, 1, 29, 30, 31, 2, 33, 33, 33, 0, -2, rfl, rfl, rfl, rfl, .inr ⟨rfl, rfl, by decide⟩, rfl, rfl, rfl, .inr ⟨rfl, rfl, by decide⟩, rfl, rfl, rfl, fun _ => rfl, (fun h => nomatch h), rfl, (fun h => nomatch h), .inl ⟨rfl, rfl⟩, rfl, by decide, rfl, .inr (.inl ⟨rfl, rfl, rfl, by decide⟩)⟩⟩
theorem num4 : Nonempty (NumS tx4 0 0 133 4) := ⟨⟨false, false, false, true, false, 0, 0, 1, 1, 1, 0, 1, 2, 2, 2, 99, rfl, rfl, rfl, rfl, .inr ⟨rfl, rfl, by decide⟩, rfl, rfl, rfl, .inl ⟨rfl, rfl⟩, rfl, rfl, rfl, (fun h => nomatch h), fun _ => rfl, rfl, fun _ _ => rfl, .inr ⟨rfl, rfl, by decide, by decide⟩, by decide, by decide, rfl, .inr (.inr ⟨rfl, rfl, rfl, by decide⟩)⟩⟩
/-- What the reference leaves of a text that it refuses. -/
def RefR (t : List UInt8) (e : Int) (p : Nat) : Prop := ∀ (W : World) (B : Option Addr) (c : Nat), Rd eB W B t →
  Calls Tryd.prog 44 [Value.slice B t.length c].toArray W (Ret fun v w' => v = .tuple #[.agg #[.int .i64 0, .int .i64 0, sv [], .slice none 0 0, .slice none 0 0], .int .i64 e, .int .i64 (p : Nat)] ∧ Sat W w' [])
theorem txs_ok : ∀ g : Nat, g < 4 → ∃ e p, looseM (Go.Sl.rd txs (g : Int)) = .error (e, p) ∧ 0 < e ∧ e ≤ 1000 ∧ RefR (Go.Sl.rd txs (g : Int)) e p
  | 0, _ => by obtain ⟨h⟩ := num1; exact ⟨132, 0, by kernel_rfl, by decide, by decide, fun W B c rb => rloose1_call (b := tx1) 132 ⟨49, 0, 24, rfl, .inr (by decide), h, by decide⟩ rb (by decide)⟩
  | 1, _ => by
    obtain ⟨h⟩ := num2
    obtain ⟨h2⟩ := num2b
    exact ⟨132, 4, by kernel_rfl, by decide, by decide, fun W B c rb => rloose4_call (b := tx2) 132 4 ⟨48, 0, 2, rfl, rfl, by decide, h, rfl, rfl, ⟨57, 0, 30, rfl, .inr (by decide), h2, by decide⟩⟩ rb (by decide)⟩
  | 2, _ => by obtain ⟨h⟩ := num3; exact ⟨132, 0, by kernel_rfl, by decide, by decide, fun W B c rb => rloose1_call (b := tx3) 132 ⟨45, 0, 33, rfl, .inl rfl, h, by decide⟩ rb (by decide)⟩
  | 3, _ => by obtain ⟨h⟩ := num4; exact ⟨133, 0, by kernel_rfl, by decide, by decide, fun W B c rb => rloose1_call (b := tx4) 133 ⟨49, 0, 4, rfl, .inr (by decide), h, by decide⟩ rb (by decide)⟩
  | g + 4, h => by omega
section
variable {W : World}
set_option maxHeartbeats 4000000 in
theorem both_call (hU : Lib.Utf8Tabs 1 2 W) :
    Calls Tryd.prog 30 [].toArray W (Ret fun v w' => v = .bool true ∧ Sat W w' []) := by
  have hs := Sat.start W
  refine Calls_of Tryd.func30 rfl 49 Tryd.ntmps30 rfl ?_
  (repeat' (first | (refine isLW ?_; first | refine LW_nil ?_ | refine LW_pure TOK rfl ?_ | (refine LW_buildSlice TOK hs rfl rfl rfl rfl rfl rfl rfl ?_; clear hs; intro _ w hs)) | (with_reducible first | refine then_n ?_ | refine CW_seq ?_ | refine CW_region ?_ | refine CW_block ?_)))
  rename_i bx
  replace hs : Sat W _ (Cl bx (txs.flatMap eN) 9 :: []) := hs
  have hl4 : txs.length = 4 := rfl
  refine CW_loop (γ := Nat) (fun g => [(1, .slice (some ⟨bx, 0, none⟩) 4 4), (2, .int .i64 (g : Int))]) (fun g w' => Sat W w' (Cl bx (txs.flatMap eN) 9 :: []) ∧ g ≤ 4) (fun g => 4 - g) 0 ⟨rfl, rfl, trivial⟩ ⟨hs, by omega⟩ ?_
  clear hs
  rintro g τ w' ⟨hs, hg⟩
  try dsimp only
  by_cases hlt : g < 4
  · obtain ⟨e, p, hm, he0, he1, hR⟩ := txs_ok g hlt
    obtain ⟨t, ht⟩ : ∃ t, Go.Sl.rd txs (g : Int) = t := ⟨_, rfl⟩
    rw [ht] at hm hR
    have hlc := fun (w : World) (B : Option Addr) (c : Nat) (L : List HProp) (hs : Sat W w L) (rb : Rd eB w B t) (hc : t.length ≤ c) => loose_call (W := w) (tabs_of hU hs) rb hc
    rw [hm] at hlc
    (repeat' (first | (refine isLW ?_; first | refine LW_nil ?_ | (refine isLg ?_; first | refine LW_take rfl ?_) | (refine isLload ?_; first | (refine LW_loadRd0 (hs.rdC 0 rfl : Rd eN _ _ txs) (fun _ => rfl) (i := (g : Int)) TOK rfl hA rfl rfl (by omega) (by omega) (by rw [ht]; rfl) ?_) | (refine LW_loadRd0 (hs.rdC 2 rfl : Rd eN _ _ txs) (fun _ => rfl) (i := (g : Int)) TOK rfl hA rfl rfl (by omega) (by omega) (by rw [ht]; rfl) ?_)) | (refine isLstore ?_; first | (refine LW_storeCA 0 TOK hs rfl rfl rfl rfl rfl (oneV _ _ _ _ _ _ _ _ _) rfl (Nat.le_of_ble_eq_true rfl) ?_; clear hs; intro w hs)) | (refine isLcall ?_; first | (refine LW_call (cap := []) rfl rfl ent11 (hlc _ _ _ _ hs (hrd 0 _ _ rfl hs) hcl) ?_; rintro _ w2 ⟨x, rfl, hxj, hs2⟩; rw [show resE (Except.error (e, p) : Mo J) = e from rfl, show resP (Except.error (e, p) : Mo J) = p from rfl]; obtain ⟨R0, hR0⟩ : ∃ R0, x.rows = R0 := ⟨_, rfl⟩; rw [hR0] at hs2; replace hs := (hs.andThen hs2).perm List.perm_append_comm; clear hs2 hrd; obtain ⟨kk, ii, tt, NA0, nc0, ns0, IA0, ic0, xs0⟩ := x) | (refine LW_call (cap := []) rfl rfl ent44 (hR _ _ _ (hrd 0 _ _ rfl hs)) ?_; rintro _ w2 ⟨rfl, hs2⟩; replace hs := hs.and0 hs2; clear hs2 hrd) | (refine LW_call (cap := []) rfl rfl ent12 (num_call _ e (by omega) (by omega)) ?_; rintro _ w2 ⟨rfl, rfl⟩) | refine LW_pure TOK rfl ?_) | (refine isLidx ?_; first | (refine LW_indexRdN (hs.rdC 0 rfl : Rd eN _ _ txs) (i := (g : Int)) TOK rfl rfl rfl rfl rfl (by omega) (by omega) (by omega) ?_; intro bx2 o2 hA) | (refine LW_indexRdN (hs.rdC 2 rfl : Rd eN _ _ txs) (i := (g : Int)) TOK rfl rfl rfl rfl rfl (by omega) (by omega) (by omega) ?_; intro bx2 o2 hA)) | (refine isLbin ?_; first | refine LW_i64 rfl (by omega) (by omega) ?_ | (refine LW_cmp rfl (fun _ => ?_) (fun _ => ?_) <;> try (exfalso; omega))) | (refine LW_strBytes t TOK hs rfl rfl rfl rfl rfl rfl rfl ?_; clear hs; intro bl cl ql w hcl hs hrd) | refine LW_pure TOK rfl ?_ | (refine LW_alloc TOK hs rfl rfl ?_; clear hs; intro _ w hs)) | (with_reducible first | refine then_n ?_ | refine CW_seq ?_ | refine CW_region ?_ | refine CW_block ?_ | refine CW_skip ?_ | refine blk_n ?_) | refine CW_true rfl ?_ | refine CW_false rfl ?_))
    exact ⟨g + 1, _, FR_forget _ ⟨rfl, rfl, trivial⟩, ⟨(hs.picks [4]).firsts 1, by omega⟩, by omega⟩
  · (repeat' (first | (refine isLW ?_; first | refine LW_nil ?_ | (refine isLcall ?_; first | refine LW_pure TOK rfl ?_) | (refine isLbin ?_; first | (refine LW_cmp rfl (fun _ => ?_) (fun _ => ?_) <;> try (exfalso; omega))) | refine LW_pure TOK rfl ?_) | (with_reducible first | refine then_n ?_ | refine CW_seq ?_ | refine CW_region ?_ | refine CW_exit ?_ | refine CW_ret ?_ | refine then_e ?_ | refine blk_same ?_) | refine CW_false rfl ?_ | refine RET1 Tryd.results30 rfl ?_))
    exact ⟨rfl, hs.firsts 0⟩
end
end Go.Proofs.YtbmeafeojcgndaaDoor

/- What the book's own tests come to, by their plain words. -/
set_option linter.unusedVariables false
set_option linter.unusedSimpArgs false
namespace Go.Proofs.YtbmeafeojcgndaaDoor
open Go Go.Sl Go.RowKit
set_option maxRecDepth 100000
def jF : J := .mk 5 0 [] [[98], [97]] [.mk 2 (-7) [] [] [], .mk 4 0 [] [] [.mk 1 1 [] [] [], .mk 0 0 [] [] []]]
def jO : J := .mk 5 0 [] [[97], [98]] [.mk 4 0 [] [] [.mk 1 1 [] [] [], .mk 0 0 [] [] []], .mk 2 (-7) [] [] []]
def wantL : List UInt8 := [123, 34, 97, 34, 58, 91, 116, 114, 117, 101, 44, 110, 117, 108, 108, 93, 44, 34, 98, 34, 58, 45, 55, 125]
def inL : List UInt8 := [32, 123, 34, 98, 34, 58, 45, 55, 44, 32, 34, 97, 34, 32, 58, 32, 91, 116, 114, 117, 101, 44, 9, 110, 117, 108, 108, 93, 125]
theorem f_write : writeJ jF = wantL := by kernel_rfl
theorem f_loose : looseM wantL = .ok jO := by kernel_rfl
theorem f_in : looseM inL = .ok jO := by kernel_rfl
theorem f_order : orderJ jF = jO := by kernel_rfl
theorem f_sound : soundJ jF 0 = 0 := by
  have h1 : wholeB [] = true := by kernel_rfl
  have h2 : namesE [[98], [97]] = 0 := by kernel_rfl
  have h3 : namesE [] = 0 := by kernel_rfl
  simp [jF, soundJ, soundJs, shB, ShP, h1, h2, h3]
theorem f_back : writeJ jO = wantL := by kernel_rfl
theorem f_parse : parseM wantL = .ok jO := by unfold parseM; rw [f_loose]; dsimp only; rw [f_back, if_pos rfl]
theorem f_print : printM jF = .ok wantL := by unfold printM; rw [if_pos f_sound, f_write]; rfl
theorem f_wf : WfJ jF := by
  have h0 : ∀ k i : Int, 0 ≤ k → k ≤ 4 → -9223372036854775808 ≤ i → i ≤ 9223372036854775807 → WfJ (.mk k i [] [] []) := fun k i h1 h2 h3 h4 => .mk ⟨h1, by omega⟩ (fun _ => ⟨h3, h4⟩) (fun h => by omega) (fun x hx => by cases hx)
  refine .mk (by decide) (fun h => by omega) (fun _ => ⟨rfl, by decide⟩) ?_
  intro x hx
  simp only [List.mem_cons, List.not_mem_nil, or_false] at hx
  rcases hx with rfl | rfl
  · exact h0 _ _ (by decide) (by decide) (by decide) (by decide)
  · refine .mk (by decide) (fun h => by omega) (fun h => by omega) (fun x hx => ?_)
    simp only [List.mem_cons, List.not_mem_nil, or_false] at hx
    rcases hx with rfl | rfl <;> exact h0 _ _ (by decide) (by decide) (by decide) (by decide)
theorem f_sm : SmJ 1099511627776 jF := by
  have h0 : ∀ k i, SmJ 1099511627776 (.mk k i [] [] []) := fun k i => .mk (by decide) (fun x hx => by cases hx) (by decide) (by decide) (fun x hx => by cases hx)
  refine .mk (by decide) (by decide) (by decide) (by decide) ?_
  intro x hx
  simp only [List.mem_cons, List.not_mem_nil, or_false] at hx
  rcases hx with rfl | rfl
  · exact h0 _ _
  · refine .mk (by decide) (by decide) (by decide) (by decide) (fun x hx => ?_)
    simp only [List.mem_cons, List.not_mem_nil, or_false] at hx
    rcases hx with rfl | rfl <;> exact h0 _ _
end Go.Proofs.YtbmeafeojcgndaaDoor
