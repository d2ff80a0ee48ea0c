/- A range over a function of one parameter. -/
import Derived.Test.YtoodgenbcfdloaaSlB
import Derived.Test.YtoodgenbcfdloaaG1
set_option linter.unusedVariables false
set_option linter.unusedSimpArgs false
namespace Go.Sl
open Go.RowKit
section
variable {P : Program} {ops : Array Oper} {Q : Exit → Act → World → Prop} {rest : List Oper} {n : Nat} {s : List (Nat × Value)} {τ : Nat → Value} {ds : List Deferred} {w : World}
  {ty : TypeId} {ps : String} {af : Array Edge} {d : Nat} {W : World} {L : List HProp}
/-- The record of a loop of two parameters. -/
def recP (fn : FuncId) (tm : Array Value) (p1 : Tmp) (assign body : Code) (D : Nat) (st : LoopState) (pe : Option Code) : Loop := { state := st, pending := pe, fn := fn, tmps := tm, params := #[p1], assign := assign, body := body, defers := D }
section
variable {fn : FuncId} {tm : Array Value} {p1 : Tmp} {sn bo : Code} {D l : Nat} {a : Act} {Post : Value → World → Prop}
theorem BeginP_of (i : Nat) {K : Act → World → Prop} (hs : Sat W w L) (hi : getA L i = some (Bk l (.loop (recP fn tm p1 sn bo D .ready none)))) (k : ∀ w', Sat W w' (L.set i (Bk l (.loop (recP fn tm p1 sn bo D .busy none)))) → K a w') : Begin P l K a w := by
  rw [getA_eq] at hi
  exact ⟨_, run_beginRound (hs.at i hi).2 rfl, k _ (hs.putObj i hi _)⟩
/-- The ends of a round. -/
theorem RPP_n (i : Nat) (hs : Sat W w L) (hi : getA L i = some (Bk l (.loop (recP fn tm p1 sn bo D .busy none)))) (k : ∀ w', Sat W w' (L.set i (Bk l (.loop (recP fn tm p1 sn bo D .ready none)))) → Post (.bool true) w') : roundPost P l (Ret Post) .normal a w := by
  rw [getA_eq] at hi
  exact ⟨_, _, run_endRound none (hs.at i hi).2, k _ (hs.putObj i hi _)⟩
theorem RPP_r (i : Nat) (hs : Sat W w L) (hi : getA L i = some (Bk l (.loop (recP fn tm p1 sn bo D .busy none)))) (k : ∀ w', Sat W w' (L.set i (Bk l (.loop (recP fn tm p1 sn bo D .done (some .ret))))) → Post (.bool false) w') : roundPost P l (Ret Post) .ret a w := by
  rw [getA_eq] at hi
  exact ⟨_, _, run_endRound (some .ret) (hs.at i hi).2, k _ (hs.putObj i hi _)⟩
theorem RPP_e (i : Nat) {j : Nat} (hs : Sat W w L) (hi : getA L i = some (Bk l (.loop (recP fn tm p1 sn bo D .busy none)))) (k : ∀ w', Sat W w' (L.set i (Bk l (.loop (recP fn tm p1 sn bo D .done (some (.exit j)))))) → Post (.bool false) w') : roundPost P l (Ret Post) (.exit j) a w := by
  rw [getA_eq] at hi
  exact ⟨_, _, run_endRound (some (.exit j)) (hs.at i hi).2, k _ (hs.putObj i hi _)⟩
/-- A round, out of its code. -/
theorem YldP_of (i : Nat) {v1 : Value} (hs : Sat W w L) (hi : getA L i = some (Bk l (.loop (recP fn (FR n s τ ds).tmps p1 sn bo D .ready none))))
    (h : CW (some l) P sn (Exit.then (Begin P l (CW (some l) P bo (roundPost P l (Ret Post)))) (fun _ _ _ => False)) (FR n ((p1, v1) :: s) τ []) w) : Yld P l #[v1] w Post := by
  rw [getA_eq] at hi
  refine ⟨_, _, _, _, run_yield (hs.at i hi).2 rfl, ?_⟩
  have e : ({ tmps := ((#[p1] : Array Tmp).zip #[v1]).foldl (fun tmps (t, a) => tmps.setIfInBounds t a) (FR n s τ ds).tmps, defers := [] } : Act) = FR n ((p1, v1) :: s) τ [] := by
    rw [← put_FR]
    have e0 : (FR n s τ ds).tmps = (FR n s τ []).tmps := rfl
    rw [e0]
    obtain ⟨a0, ha0⟩ : ∃ a0, FR n s τ [] = a0 := ⟨_, rfl⟩
    have hd0 : a0.defers = [] := by rw [← ha0]; rfl
    rw [ha0]
    simp [Act.put, hd0]
  refine roundIn_of_wpIn trivial ?_
  have e2 : ({ tmps := ((recP fn (FR n s τ ds).tmps p1 sn bo D .ready none).params.zip #[v1]).foldl (fun tmps (t, a) => tmps.setIfInBounds t a) (recP fn (FR n s τ ds).tmps p1 sn bo D .ready none).tmps, defers := [] } : Act) = FR n ((p1, v1) :: s) τ [] := e
  rw [e2]
  exact h
end
/-- What is asked behind the function that was ranged over. -/
def AfterP (P : Program) (r : Option Nat) (W : World) (l : Nat) (fn : FuncId) (tm : Array Value) (p1 : Tmp) (sn bo : Code) (D : Nat) (Q : Exit → Act → World → Prop) (a : Act) (w3 : World) : Prop :=
  ∃ L' st pe, Sat W w3 (Bk l (.loop (recP fn tm p1 sn bo D st pe)) :: L') ∧ st ≠ .busy ∧ ∀ w4, Sat W w4 L' → (match pe with
    | none => Q .normal a w4
    | some c => CW r P c Q a w4)
theorem AfterP_of {r : Option Nat} {w3 : World} {l : Nat} {fn : FuncId} {tm : Array Value} {p1 : Tmp} {sn bo : Code} {D : Nat} {a : Act} (h : AfterP P r W l fn tm p1 sn bo D Q a w3) {v : Value} : rangePost (FW r) 0 P l Q a (.returned v) w3 := by
  obtain ⟨L', st, pe, hs, hst, hk⟩ := h
  have hb := (hs.at 0 rfl).2
  refine ⟨pe, _, run_endLoop hb hst, ?_⟩
  have := hk _ (hs.putObj 0 rfl (.loop { recP fn tm p1 sn bo D st pe with state := .exhausted })).drop1
  cases pe with
  | none => exact this
  | some c => exact this
theorem CWP_range {g : Operand} {p1 : Tmp} {sn bo : Code} {gf : FuncId} {lb : List Value} (hs : Sat W w L) (hg : EVO n s g = some (.func (.func gf) #[] lb.toArray)) (he : Ent P gf)
    (h : ∀ fn l D w1, Sat W w1 (Bk l (.loop (recP fn (FR n s τ ds).tmps p1 sn bo D .ready none)) :: Bk D (.deferred (some [])) :: L) →
      Calls P gf (.func (.yield l) #[] #[] :: lb).toArray w1 (Ret fun _ w3 => AfterP P none W l fn (FR n s τ ds).tmps p1 sn bo D Q (FR n s τ ({ target := .collected D, args := #[] } :: ds)) w3)) :
    CW none P (.rangeFunc g #[p1] sn bo) Q (FR n s τ ds) w := by
  refine wpIn_rangeFunc fun fn _ => ?_
  obtain ⟨W1, hW1⟩ : ∃ W1, (w.alloc (.deferred (some []))).alloc (.loop (recP fn (FR n s τ ds).tmps p1 sn bo w.heap.size .ready none)) = W1 := ⟨_, rfl⟩
  have hs1 := (hs.alloc (.deferred (some []))).alloc (.loop (recP fn (FR n s τ ds).tmps p1 sn bo w.heap.size .ready none))
  rw [World.size_alloc, hW1] at hs1
  have h1 := h fn (w.heap.size + 1) w.heap.size W1 hs1
  refine ⟨w.heap.size + 1, [{ target := .collected w.heap.size, args := #[] }], W1, { target := .fn (.func gf) lb.toArray, args := #[.func (.yield (w.heap.size + 1)) #[] #[]] }, W1, gf, #[.func (.yield (w.heap.size + 1)) #[] #[]] ++ lb.toArray, W1, by rw [← hW1]; exact run_enterLoop_outer _ _ _ _ _, ?_, fun _ _ => trivial, ?_, fun e => (by cases e), ?_⟩
  · simp only [resolve, eval_of hg]
    simp [go_sem]
  · simp [invoke, go_sem, he.run]
  · have e1 : (#[.func (.yield (w.heap.size + 1)) #[] #[]] ++ lb.toArray : Array Value) = (.func (.yield (w.heap.size + 1)) #[] #[] :: lb).toArray := by simp
    rw [e1]
    refine (Sl.Calls.inFW h1 _).mono fun e w' q => ?_
    cases e with
    | returned v => exact AfterP_of q
    | _ => exact q.elim
end
end Go.Sl

/- Walks: the names of a map, in rising order. -/
set_option linter.unusedVariables false
set_option linter.unusedSimpArgs false
namespace Go.Proofs.Ytoodgenbcfdloaa
open Go Go.Sl Go.RowKit
set_option maxRecDepth 100000
attribute [local irreducible] CW LW DW FR DP Calls RM Yld Begin AfterP

theorem perm_of_all {vs kv : List (Nm × Value × Nat)} (hv : ∀ p ∈ vs, p ∈ kv) (hn : (vs.map (·.2.2)).Nodup) (hk : (kv.map (·.2.2)).Nodup) (hall : ∀ p ∈ kv, p.2.2 ∈ vs.map (·.2.2)) : vs.Perm kv := by
  have nd : ∀ {l : List (Nm × Value × Nat)}, (l.map (·.2.2)).Nodup → l.Nodup := fun h => (List.pairwise_map.1 h).imp fun h e => h (by rw [e])
  refine (List.perm_ext_iff_of_nodup (nd hn) (nd hk)).2 fun p => ⟨hv p, fun hp => ?_⟩
  obtain ⟨q, hq, hqb⟩ := List.mem_map.1 (hall p hp)
  have hinj : ∀ {l : List (Nm × Value × Nat)}, (l.map (·.2.2)).Nodup → ∀ a ∈ l, ∀ b ∈ l, a.2.2 = b.2.2 → a = b := by
    intro l
    induction l with
    | nil => intro _ a ha; cases ha
    | cons x l ih =>
      intro h a ha b hb e
      simp only [List.map_cons, List.nodup_cons] at h
      rcases List.mem_cons.1 ha with ea | ha2 <;> rcases List.mem_cons.1 hb with eb | hb2
      · rw [ea, eb]
      · rw [ea] at e; exact (h.1 (by rw [e]; exact List.mem_map_of_mem hb2)).elim
      · rw [eb] at e; exact (h.1 (by rw [← e]; exact List.mem_map_of_mem ha2)).elim
      · exact ih h.2 a ha2 b hb2 e
  rw [← hinj hk q (hv q hq) p hp hqb]; exact hq
theorem len_le_of_nodup : ∀ {l1 l2 : List Nat}, l1.Nodup → (∀ x ∈ l1, x ∈ l2) → l1.length ≤ l2.length
  | [], l2, _, _ => by simp
  | x :: l1, l2, hn, hs => by
    simp only [List.nodup_cons] at hn
    have hx := hs x List.mem_cons_self
    have ih := len_le_of_nodup hn.2 (l2 := l2.erase x) fun y hy => (List.mem_erase_of_ne (fun e => hn.1 (by rw [← e]; exact hy))).2 (hs y (List.mem_cons_of_mem _ hy))
    rw [List.length_erase_of_mem hx] at ih
    have := List.length_pos_of_mem hx
    simp only [List.length_cons]; omega
theorem kvs_st (bs : List Nat) (E : List Ent') : (kvs bs E).map (·.2.2) = E.map (·.2.2) := by simp [kvs]
theorem kvs_key (bs : List Nat) (E : List Ent') : (kvs bs E).map (·.1) = E.map (·.1) := by simp [kvs]
section
variable {E : List Ent'} {ck : Nat} {S : Names}
theorem MapOf.born (h : MapOf E ck S) (bs : List Nat) : ∀ p ∈ kvs bs E, p.2.2 < ck := by
  intro p hp
  simp only [kvs, List.mem_map] at hp
  obtain ⟨x, hx, rfl⟩ := hp
  exact h.lt x hx
theorem MapOf.ndst (h : MapOf E ck S) (bs : List Nat) : ((kvs bs E).map (·.2.2)).Nodup := by rw [kvs_st]; exact h.st
theorem MapOf.keyPerm (h : MapOf E ck S) (bs : List Nat) : ((kvs bs E).map (·.1)).Perm (S.map (·.1)) := by
  rw [kvs_key]
  have := h.perm.map (·.1)
  rwa [List.map_map] at this
theorem vs_len {bs : List Nat} {vs : List (Nm × Value × Nat)} (hv : ∀ p ∈ vs, p ∈ kvs bs E) (hn : (vs.map (·.2.2)).Nodup) : vs.length ≤ (kvs bs E).length := by
  have h1 := len_le_of_nodup hn (l2 := (kvs bs E).map (·.2.2)) fun x hx => by
    obtain ⟨p, hp, rfl⟩ := List.mem_map.1 hx
    exact List.mem_map_of_mem (hv p hp)
  simpa using h1
end
theorem nodup_snoc {vs : List (Nm × Value × Nat)} {p : Nm × Value × Nat} (hn : (vs.map (·.2.2)).Nodup) (hp : p.2.2 ∉ vs.map (·.2.2)) : ((vs ++ [p]).map (·.2.2)).Nodup := by
  rw [List.map_append, List.nodup_append]
  refine ⟨hn, by simp, ?_⟩
  intro a ha b hb hab
  simp at hb; subst hb; subst hab
  exact hp ha
theorem mem_snoc {vs kv : List (Nm × Value × Nat)} {p : Nm × Value × Nat} (hv : ∀ q ∈ vs, q ∈ kv) (hp : p ∈ kv) : ∀ q ∈ vs ++ [p], q ∈ kv := by
  intro u hu
  rcases List.mem_append.1 hu with hu | hu
  · exact hv u hu
  · rw [List.mem_singleton] at hu; subst hu; exact hp
theorem Keys1_call (W w : World) (E : List Ent') (bs : List Nat) (ck : Nat) (S : Names) (b pm yl : Nat) (R1 : List HProp) (hm : MapOf E ck S) (J : List Nm → List HProp → Prop) (hJ0 : J [] R1)
    (hs : Sat W w (Mp keyN b (kvs bs E) ck :: Cl pm [.map (some b)] 102 :: R1))
    (hy : ∀ pre x own R w, pre.length < E.length → J pre R → Sat W w (own :: Mp keyN b (kvs bs E) ck :: Cl pm [.map (some b)] 102 :: R) →
      Yld Try.prog yl #[sv x] w (fun v w' => v = .bool true ∧ ∃ R', Sat W w' (own :: Mp keyN b (kvs bs E) ck :: Cl pm [.map (some b)] 102 :: R') ∧ J (pre ++ [x]) R')) :
    Calls Try.prog 92 [.func (.yield yl) #[] #[], .pointer (some ⟨pm, 0, none⟩)].toArray w
      (Ret fun v w' => v = .tuple #[] ∧ ∃ ks R', Sat W w' (Mp keyN b (kvs bs E) ck :: Cl pm [.map (some b)] 102 :: R') ∧ J ks R' ∧ ks.Perm (S.map (·.1))) := by
  refine Calls_of Try.func92 rfl 14 Try.ntmps92 rfl ?_
  have hborn := hm.born bs
  have hnd := hm.ndst bs
  (repeat' (first | (refine isLW ?_; first | refine LW_nil ?_ | (refine isLload ?_; first | refine LW_loadC 1 TOK hs rfl rfl rfl rfl rfl ?_) | (refine LW_range keyN 0 hs TOK rfl rfl rfl rfl ?_; clear hs; intro q w hs)) | (with_reducible first | refine then_n ?_ | refine CW_seq ?_ | refine CW_region ?_ | refine CW_block ?_)))
  refine CW_loop (γ := List (Nm × Value × Nat) × List HProp) (fun g => [(0, .func (.yield yl) #[] #[]), (5, .pointer (some ⟨q, 0, none⟩))])
    (fun g w' => Sat W w' (It q b ck g.1 :: Mp keyN b (kvs bs E) ck :: Cl pm [.map (some b)] 102 :: g.2) ∧ (∀ p ∈ g.1, p ∈ kvs bs E) ∧ (g.1.map (·.2.2)).Nodup ∧ J (g.1.map (·.1)) g.2) (fun g => (kvs bs E).length - g.1.length) ([], R1) ⟨rfl, rfl, trivial⟩ ⟨hs, by simp, by simp, hJ0⟩ ?_
  clear hs hJ0
  rintro ⟨vs, R⟩ τ w ⟨hs, hv, hvn, hJ⟩
  dsimp only at hs hv hvn hJ ⊢
  have hvl := vs_len hv hvn
  (repeat' (first | (refine isLW ?_; first | refine LW_nil ?_ | (refine isLcall ?_; first | (refine LW_yield rfl rfl (hy _ _ _ R w ?_ hJ hs) ?_; rotate_left; clear hs; rintro _ w ⟨rfl, R2, hs, hJ2⟩)) | (refine LW_next keyN 1 0 hs rfl rfl rfl hborn (fun hall => ?_) (fun p w hp hpn hs => ?_)) | refine LW_entry keyN 1 0 hs rfl rfl rfl hp hnd ?_ | refine LW_pure TOK rfl ?_) | (with_reducible first | refine then_n ?_ | refine CW_seq ?_ | refine CW_region ?_ | refine CW_block ?_ | refine CW_skip ?_ | refine CW_exit ?_ | refine then_e ?_ | refine blk_n ?_ | refine blk_same ?_) | refine CW_true rfl ?_ | refine CW_false rfl ?_ | refine RET0 Try.results92 ?_))
  · exact ⟨rfl, vs.map (·.1), R, hs.drop1, hJ, ((perm_of_all hv hvn hnd hall).map (·.1)).trans (hm.keyPerm bs)⟩
  · have hpv := vs_len (mem_snoc hv hp) (nodup_snoc hvn hpn)
    refine ⟨(vs ++ [p], R2), _, FR_forget _ ⟨rfl, rfl, trivial⟩, ⟨hs, mem_snoc hv hp, nodup_snoc hvn hpn, by simpa using hJ2⟩, ?_⟩
    dsimp only; simp at hpv ⊢; omega
  · have hpv := vs_len (mem_snoc hv hp) (nodup_snoc hvn hpn)
    simp [kvs_len] at hpv ⊢; omega
theorem Keys_call (W w : World) (L : List HProp) (b : Nat) (hs : Sat W w L) :
    Calls Try.prog 83 [Value.map (some b)].toArray w (Ret fun v w' => ∃ pm, v = .func (.func 92) #[] #[.pointer (some ⟨pm, 0, none⟩)] ∧ Sat W w' (Cl pm [.map (some b)] 102 :: L)) := by
  refine Calls_of Try.func83 rfl 4 Try.ntmps83 rfl ?_
  (repeat' (first | (refine isLW ?_; first | refine LW_nil ?_ | refine LW_pure TOK rfl ?_ | (refine LW_box hs rfl rfl ?_; clear hs; intro _ w hs)) | (with_reducible first | refine then_n ?_ | refine CW_seq ?_ | refine CW_region ?_ | refine CW_ret ?_) | refine RET1 Try.results83 rfl ?_))
  exact ⟨_, rfl, hs⟩
end Go.Proofs.Ytoodgenbcfdloaa

/- Walks: the names of a map as a sorted list. -/
set_option linter.unusedVariables false
set_option linter.unusedSimpArgs false
namespace Go.Proofs.Ytoodgenbcfdloaa
open Go Go.Sl Go.RowKit
set_option maxRecDepth 100000
attribute [local irreducible] CW LW DW FR DP Calls RM Yld Begin AfterP

theorem AppendSeq_call (W w : World) (L : List HProp) (E : List Ent') (bs : List Nat) (ck : Nat) (S : Names) (b pm : Nat) (hm : MapOf E ck S) (hl : E.length ≤ 4398046511104)
    (hs : Sat W w (Mp keyN b (kvs bs E) ck :: Cl pm [.map (some b)] 102 :: L)) :
    Calls Try.prog 98 [.slice none 0 0, .func (.func 92) #[] #[.pointer (some ⟨pm, 0, none⟩)]].toArray w
      (Ret fun v w' => ∃ A c ks, v = .slice A ks.length c ∧ ks.Perm (S.map (·.1)) ∧ Sat W w' (RowOf eN 9 1 A c ks :: Mp keyN b (kvs bs E) ck :: L)) := by
  refine Calls_ofM Try.func98 rfl 13 Try.ntmps98 rfl ?_
  (repeat' (first | (refine isLW ?_; first | refine LW_nil ?_ | refine LW_pure TOK rfl ?_ | (refine LW_box hs rfl rfl ?_; clear hs; intro _ w hs)) | (with_reducible first | refine then_n ?_ | refine CW_seq ?_ | refine CW_region ?_ | refine CW_block ?_)))
  rename_i p2
  replace hs := (hs.nilRow 9 1).picks [2, 2, 1]
  refine CWP_range hs rfl ent92 fun fn1 l1 D1 w1 hs1 => ?_
  clear hs
  obtain ⟨X1, hX1, hs1⟩ := hs1.name0
  refine Sl.Calls.ret (Keys1_call W w1 E bs ck S b pm l1 _ hm (fun pre R => ∃ A c, R = X1 :: Bk D1 (.deferred (some [])) :: Cl p2 [.slice A pre.length c] 72 :: RowOf eN 9 1 A c pre :: L) ⟨none, 0, rfl⟩ (hs1.picks [2, 2]) ?_) ?_
  · clear hs1
    rintro pre x own _ w hpl ⟨A1, c1, rfl⟩ hs
    rw [hX1] at hs ⊢
    refine YldP_of 3 hs rfl ?_
    (repeat' (first | (refine isLW ?_; first | refine LW_nil ?_ | (refine isLload ?_; first | refine LW_loadC 5 TOK hs rfl rfl rfl rfl rfl ?_) | (refine isLstore ?_; first | (refine LW_storeC 5 TOK hs rfl rfl rfl rfl rfl rfl rfl ?_; clear hs; intro w hs)) | (refine isLcall ?_; first | (refine LW_append1 6 eN_ok (z := x) hs TOK rfl rfl rfl rfl rfl rfl rfl rfl rfl rfl (by unfold maxLen; omega) (by simp only []; omega) ?_; clear hs; intro A9 c9 w hs)) | refine LW_pure TOK rfl ?_ | (refine LW_buildSlice TOK hs rfl rfl rfl rfl rfl rfl rfl ?_; clear hs; intro _ w hs)) | (with_reducible first | refine then_n ?_ | refine CW_region ?_ | refine CW_block ?_ | refine blk_n ?_) | (refine BeginP_of 3 hs rfl ?_; clear hs; intro w hs) | (refine RPP_n 3 hs rfl ?_; clear hs; intro w hs)))
    exact ⟨rfl, _, hs, A9, c9, rfl⟩
  rintro _ w ⟨_, ks, _, hs, ⟨A1, c1, rfl⟩, hp⟩
  unfold AfterP
  rw [hX1] at hs
  refine ⟨[Bk D1 (.deferred (some [])), Cl p2 [.slice A1 ks.length c1] 72, RowOf eN 9 1 A1 c1 ks, Mp keyN b (kvs bs E) ck, Cl pm [.map (some b)] 102] ++ L, .ready, none, hs.picks [2, 2, 2, 2], by simp, fun w hs => ?_⟩
  clear hX1 hs1
  dsimp only
  (repeat' (first | (refine isLW ?_; first | refine LW_nil ?_ | (refine isLload ?_; first | refine LW_loadC 1 TOK hs rfl rfl rfl rfl rfl ?_) | refine LW_pure TOK rfl ?_) | (with_reducible first | refine then_n ?_ | refine CW_seq ?_ | refine CW_region ?_ | refine CW_ret ?_ | refine blk_n ?_) | (refine M_take 0 hs rfl ?_; clear hs; intro w hs) | refine M_r ?_ | refine M_end1 Try.results98 rfl ?_))
  exact ⟨A1, c1, ks, rfl, hp, (hs.drop1.drop1.picks [2]).drop1⟩
theorem Collect_call (W w : World) (L : List HProp) (E : List Ent') (bs : List Nat) (ck : Nat) (S : Names) (b pm : Nat) (hm : MapOf E ck S) (hl : E.length ≤ 4398046511104)
    (hs : Sat W w (Mp keyN b (kvs bs E) ck :: Cl pm [.map (some b)] 102 :: L)) :
    Calls Try.prog 90 [.func (.func 92) #[] #[.pointer (some ⟨pm, 0, none⟩)]].toArray w
      (Ret fun v w' => ∃ A c ks, v = .slice A ks.length c ∧ ks.Perm (S.map (·.1)) ∧ Sat W w' (RowOf eN 9 1 A c ks :: Mp keyN b (kvs bs E) ck :: L)) := by
  refine Calls_of Try.func90 rfl 5 Try.ntmps90 rfl ?_
  (repeat' (first | (refine isLW ?_; first | refine LW_nil ?_ | (refine isLcall ?_; first | (refine LW_call (cap := []) rfl rfl ent98 (AppendSeq_call W w L E bs ck S b pm hm hl hs) ?_; clear hs; rintro _ w ⟨A, c, ks, rfl, hp, hs⟩)) | refine LW_pure TOK rfl ?_) | (with_reducible first | refine then_n ?_ | refine CW_seq ?_ | refine CW_region ?_ | refine CW_ret ?_) | refine RET1 Try.results90 rfl ?_))
  exact ⟨A, c, ks, rfl, hp, hs⟩
theorem sortN_srt {ks : List Nm} {S : Names} (hS : Srt S) (h : ks.Perm (S.map (·.1))) : sortN ks = S.map (·.1) := by
  have h1 : (sortN ks).Perm (S.map (·.1)) := (List.mergeSort_perm ks _).trans h
  have h2 : (sortN ks).Pairwise (fun u v => u ≤ v) := by
    have := List.pairwise_mergeSort (le := fun u v : Nm => decide (u ≤ v)) (fun a b c h1 h2 => by
      simp only [decide_eq_true_eq] at *; exact List.le_trans h1 h2) (fun a b => by
      simp only [Bool.or_eq_true, decide_eq_true_eq]; exact List.le_total a b) ks
    exact this.imp fun h => by simpa using h
  have h3 : (S.map (·.1)).Pairwise (fun u v => u ≤ v) := by
    rw [List.pairwise_map]
    exact hS.imp fun h => List.le_of_lt h
  exact List.Perm.eq_of_pairwise (fun a b _ _ h1 h2 => List.le_antisymm h1 h2) h2 h3 h1
theorem Sorted_call (W w : World) (L : List HProp) (E : List Ent') (bs : List Nat) (ck : Nat) (S : Names) (b pm : Nat) (hm : MapOf E ck S) (hl : E.length ≤ 4398046511104)
    (hs : Sat W w (Mp keyN b (kvs bs E) ck :: Cl pm [.map (some b)] 102 :: L)) :
    Calls Try.prog 82 [.func (.func 92) #[] #[.pointer (some ⟨pm, 0, none⟩)]].toArray w
      (Ret fun v w' => ∃ A c, v = .slice A (S.map (·.1)).length c ∧ Sat W w' (RowOf eN 9 1 A c (S.map (·.1)) :: Mp keyN b (kvs bs E) ck :: L)) := by
  refine Calls_of Try.func82 rfl 9 Try.ntmps82 rfl ?_
  (repeat' (first | (refine isLW ?_; first | refine LW_nil ?_ | (refine isLcall ?_; first | (refine LW_call (cap := []) rfl rfl ent90 (Collect_call W w L E bs ck S b pm hm hl hs) ?_; clear hs; rintro _ w ⟨A, c, ks, rfl, hp, hs⟩) | (refine LW_call (cap := []) rfl rfl ent91 (Sort_call W _ _ A c _ hs ?_) ?_; rotate_left; clear hs; rintro _ w ⟨rfl, hs⟩)) | refine LW_pure TOK rfl ?_) | (with_reducible first | refine then_n ?_ | refine CW_seq ?_ | refine CW_region ?_ | refine CW_ret ?_) | refine RET1 Try.results82 rfl ?_))
  · have e := sortN_srt hm.srt hp
    have e2 : ks.length = (S.map (·.1)).length := hp.length_eq
    rw [e] at hs
    rw [e2]
    exact ⟨A, c, rfl, hs⟩
  · have e2 : ks.length = (S.map (·.1)).length := hp.length_eq
    have e3 := hm.perm.length_eq
    simp at e2 e3; omega
theorem rising_call (W w : World) (L : List HProp) (E : List Ent') (bs : List Nat) (ck : Nat) (S : Names) (b : Nat) (hm : MapOf E ck S) (hl : E.length ≤ 4398046511104)
    (hs : Sat W w (Mp keyN b (kvs bs E) ck :: L)) :
    Calls Try.prog 65 [.map (some b)].toArray w
      (Ret fun v w' => ∃ A c, v = .slice A (S.map (·.1)).length c ∧ Sat W w' (RowOf eN 9 1 A c (S.map (·.1)) :: Mp keyN b (kvs bs E) ck :: L)) := by
  refine Calls_of Try.func65 rfl 6 Try.ntmps65 rfl ?_
  (repeat' (first | (refine isLW ?_; first | refine LW_nil ?_ | (refine isLcall ?_; first | (refine LW_call (cap := []) rfl rfl ent83 (Keys_call W w _ b hs) ?_; clear hs; rintro _ w ⟨pm, rfl, hs⟩; replace hs := hs.picks [1]) | (refine LW_call (cap := []) rfl rfl ent82 (Sorted_call W w L E bs ck S b pm hm hl hs) ?_; clear hs; rintro _ w ⟨A, c, rfl, hs⟩)) | refine LW_pure TOK rfl ?_) | (with_reducible first | refine then_n ?_ | refine CW_seq ?_ | refine CW_region ?_ | refine CW_ret ?_) | refine RET1 Try.results65 rfl ?_))
  exact ⟨A, c, rfl, hs⟩
end Go.Proofs.Ytoodgenbcfdloaa
