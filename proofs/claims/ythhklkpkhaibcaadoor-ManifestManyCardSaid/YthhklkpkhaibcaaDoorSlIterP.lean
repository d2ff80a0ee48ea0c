/- A range over a function of one parameter. -/
import Derived.Test.YthhklkpkhaibcaaDoorSlB
set_option linter.unusedVariables false
set_option linter.unusedSimpArgs false
namespace Go.Sl
open Go.RowKit
section
variable {P : Program} {ops : Array Oper} {Q : Exit → Act → World → Prop} {rest : List Oper} {n : Nat} {s : List (Nat × Value)} {τ : Nat → Value} {ds : List Deferred} {w : World}
  {ty : TypeId} {ps : String} {af : Array Edge} {d : Nat} {W : World} {L : List HProp}
/-- The record of a loop of two parameters. -/
def recP (fn : FuncId) (tm : Array Value) (p1 : Tmp) (assign body : Code) (D : Nat) (st : LoopState) (pe : Option Code) : Loop := { state := st, pending := pe, fn := fn, tmps := tm, params := #[p1], assign := assign, body := body, defers := D }
section
variable {fn : FuncId} {tm : Array Value} {p1 : Tmp} {sn bo : Code} {D l : Nat} {a : Act} {Post : Value → World → Prop}
theorem BeginP_of (i : Nat) {K : Act → World → Prop} (hs : Sat W w L) (hi : getA L i = some (Bk l (.loop (recP fn tm p1 sn bo D .ready none)))) (k : ∀ w', Sat W w' (L.set i (Bk l (.loop (recP fn tm p1 sn bo D .busy none)))) → K a w') : Begin P l K a w := by
  rw [getA_eq] at hi
  exact ⟨_, run_beginRound (hs.at i hi).2 rfl, k _ (hs.putObj i hi _)⟩
/-- The ends of a round. -/
theorem RPP_n (i : Nat) (hs : Sat W w L) (hi : getA L i = some (Bk l (.loop (recP fn tm p1 sn bo D .busy none)))) (k : ∀ w', Sat W w' (L.set i (Bk l (.loop (recP fn tm p1 sn bo D .ready none)))) → Post (.bool true) w') : roundPost P l (Ret Post) .normal a w := by
  rw [getA_eq] at hi
  exact ⟨_, _, run_endRound none (hs.at i hi).2, k _ (hs.putObj i hi _)⟩
theorem RPP_r (i : Nat) (hs : Sat W w L) (hi : getA L i = some (Bk l (.loop (recP fn tm p1 sn bo D .busy none)))) (k : ∀ w', Sat W w' (L.set i (Bk l (.loop (recP fn tm p1 sn bo D .done (some .ret))))) → Post (.bool false) w') : roundPost P l (Ret Post) .ret a w := by
  rw [getA_eq] at hi
  exact ⟨_, _, run_endRound (some .ret) (hs.at i hi).2, k _ (hs.putObj i hi _)⟩
theorem RPP_e (i : Nat) {j : Nat} (hs : Sat W w L) (hi : getA L i = some (Bk l (.loop (recP fn tm p1 sn bo D .busy none)))) (k : ∀ w', Sat W w' (L.set i (Bk l (.loop (recP fn tm p1 sn bo D .done (some (.exit j)))))) → Post (.bool false) w') : roundPost P l (Ret Post) (.exit j) a w := by
  rw [getA_eq] at hi
  exact ⟨_, _, run_endRound (some (.exit j)) (hs.at i hi).2, k _ (hs.putObj i hi _)⟩
/-- A round, out of its code. -/
theorem YldP_of (i : Nat) {v1 : Value} (hs : Sat W w L) (hi : getA L i = some (Bk l (.loop (recP fn (FR n s τ ds).tmps p1 sn bo D .ready none))))
    (h : CW (some l) P sn (Exit.then (Begin P l (CW (some l) P bo (roundPost P l (Ret Post)))) (fun _ _ _ => False)) (FR n ((p1, v1) :: s) τ []) w) : Yld P l #[v1] w Post := by
  rw [getA_eq] at hi
  refine ⟨_, _, _, _, run_yield (hs.at i hi).2 rfl, ?_⟩
  have e : ({ tmps := ((#[p1] : Array Tmp).zip #[v1]).foldl (fun tmps (t, a) => tmps.setIfInBounds t a) (FR n s τ ds).tmps, defers := [] } : Act) = FR n ((p1, v1) :: s) τ [] := by
    rw [← put_FR]
    have e0 : (FR n s τ ds).tmps = (FR n s τ []).tmps := rfl
    rw [e0]
    obtain ⟨a0, ha0⟩ : ∃ a0, FR n s τ [] = a0 := ⟨_, rfl⟩
    have hd0 : a0.defers = [] := by rw [← ha0]; rfl
    rw [ha0]
    simp [Act.put, hd0]
  refine roundIn_of_wpIn trivial ?_
  have e2 : ({ tmps := ((recP fn (FR n s τ ds).tmps p1 sn bo D .ready none).params.zip #[v1]).foldl (fun tmps (t, a) => tmps.setIfInBounds t a) (recP fn (FR n s τ ds).tmps p1 sn bo D .ready none).tmps, defers := [] } : Act) = FR n ((p1, v1) :: s) τ [] := e
  rw [e2]
  exact h
end
/-- What is asked behind the function that was ranged over. -/
def AfterP (P : Program) (r : Option Nat) (W : World) (l : Nat) (fn : FuncId) (tm : Array Value) (p1 : Tmp) (sn bo : Code) (D : Nat) (Q : Exit → Act → World → Prop) (a : Act) (w3 : World) : Prop :=
  ∃ L' st pe, Sat W w3 (Bk l (.loop (recP fn tm p1 sn bo D st pe)) :: L') ∧ st ≠ .busy ∧ ∀ w4, Sat W w4 L' → (match pe with
    | none => Q .normal a w4
    | some c => CW r P c Q a w4)
theorem AfterP_of {r : Option Nat} {w3 : World} {l : Nat} {fn : FuncId} {tm : Array Value} {p1 : Tmp} {sn bo : Code} {D : Nat} {a : Act} (h : AfterP P r W l fn tm p1 sn bo D Q a w3) {v : Value} : rangePost (FW r) 0 P l Q a (.returned v) w3 := by
  obtain ⟨L', st, pe, hs, hst, hk⟩ := h
  have hb := (hs.at 0 rfl).2
  refine ⟨pe, _, run_endLoop hb hst, ?_⟩
  have := hk _ (hs.putObj 0 rfl (.loop { recP fn tm p1 sn bo D st pe with state := .exhausted })).drop1
  cases pe with
  | none => exact this
  | some c => exact this
theorem CWP_range {g : Operand} {p1 : Tmp} {sn bo : Code} {gf : FuncId} {lb : List Value} (hs : Sat W w L) (hg : EVO n s g = some (.func (.func gf) #[] lb.toArray)) (he : Ent P gf)
    (h : ∀ fn l D w1, Sat W w1 (Bk l (.loop (recP fn (FR n s τ ds).tmps p1 sn bo D .ready none)) :: Bk D (.deferred (some [])) :: L) →
      Calls P gf (.func (.yield l) #[] #[] :: lb).toArray w1 (Ret fun _ w3 => AfterP P none W l fn (FR n s τ ds).tmps p1 sn bo D Q (FR n s τ ({ target := .collected D, args := #[] } :: ds)) w3)) :
    CW none P (.rangeFunc g #[p1] sn bo) Q (FR n s τ ds) w := by
  refine wpIn_rangeFunc fun fn _ => ?_
  obtain ⟨W1, hW1⟩ : ∃ W1, (w.alloc (.deferred (some []))).alloc (.loop (recP fn (FR n s τ ds).tmps p1 sn bo w.heap.size .ready none)) = W1 := ⟨_, rfl⟩
  have hs1 := (hs.alloc (.deferred (some []))).alloc (.loop (recP fn (FR n s τ ds).tmps p1 sn bo w.heap.size .ready none))
  rw [World.size_alloc, hW1] at hs1
  have h1 := h fn (w.heap.size + 1) w.heap.size W1 hs1
  refine ⟨w.heap.size + 1, [{ target := .collected w.heap.size, args := #[] }], W1, { target := .fn (.func gf) lb.toArray, args := #[.func (.yield (w.heap.size + 1)) #[] #[]] }, W1, gf, #[.func (.yield (w.heap.size + 1)) #[] #[]] ++ lb.toArray, W1, by rw [← hW1]; exact run_enterLoop_outer _ _ _ _ _, ?_, fun _ _ => trivial, ?_, fun e => (by cases e), ?_⟩
  · simp only [resolve, eval_of hg]
    simp [go_sem]
  · simp [invoke, go_sem, he.run]
  · have e1 : (#[.func (.yield (w.heap.size + 1)) #[] #[]] ++ lb.toArray : Array Value) = (.func (.yield (w.heap.size + 1)) #[] #[] :: lb).toArray := by simp
    rw [e1]
    refine (Sl.Calls.inFW h1 _).mono fun e w' q => ?_
    cases e with
    | returned v => exact AfterP_of q
    | _ => exact q.elim
end
end Go.Sl
