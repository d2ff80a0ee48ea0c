/- The book of lists that were handed out: what is kept of it. -/
import Derived.Test.YtaofhbjlbdpjhaaF42
set_option linter.unusedVariables false
set_option linter.unusedSimpArgs false
namespace Go.Proofs.Ytaofhbjlbdpjhaa
open Go Go.Sl Go.RowKit
structure BookOK {α : Type} [Inhabited α] (enc : α → List Value) (W : World) (Y : List HProp) (ls : List (Option Addr × Nat × Nat)) (ms : List α) : Prop where
  len : ls.length = ms.length
  rd : ∀ w', Sat W w' Y → ∀ i : Nat, i < ls.length → Rd enc w' (rd ls (i : Int)).1 (List.replicate (rd ls (i : Int)).2.1 (rd ms (i : Int)))
  sz : ∀ x ∈ ls, x.2.1 ≤ 1000000000
theorem BookOK.nil {α : Type} [Inhabited α] (enc : α → List Value) (W : World) : BookOK enc W [] [] ([] : List α) := ⟨rfl, fun _ _ i hi => by simp at hi, fun x hx => by cases hx⟩
theorem BookOK.take {α : Type} [Inhabited α] {enc : α → List Value} {W : World} {Y Y' : List HProp} {ls h4 : List (Option Addr × Nat × Nat)} {ms : List α} {m : α} {n : Nat} (h : BookOK enc W Y ls ms) (h1 : h4.length = 4) (h2 : ∀ x ∈ h4, x.2.1 ≤ n + 3) (hn : n ≤ 100000000)
    (h3 : ∀ w'', Sat W w'' Y' → ∀ x ∈ h4, Rd enc w'' x.1 (List.replicate x.2.1 m)) : BookOK enc W (Y' ++ Y) (ls ++ h4) (ms ++ [m, m, m, m]) := by
  have hl := h.len
  refine ⟨by simp only [List.length_append, List.length_cons, List.length_nil]; omega, fun w' hs i hi => ?_, fun x hx => ?_⟩
  · by_cases hil : i < ls.length
    · have e1 : Sl.rd (ls ++ h4) (i : Int) = Sl.rd ls (i : Int) := by rw [rdN hi, rdN hil, List.getElem_append_left hil]
      have e2 : Sl.rd (ms ++ [m, m, m, m]) (i : Int) = Sl.rd ms (i : Int) := by
        rw [rdN (by rw [List.length_append]; omega), rdN (by omega), List.getElem_append_left (by omega)]
      rw [e1, e2]
      exact h.rd w' (Sat.fst hs.rot) i hil
    · rw [List.length_append] at hi
      have e1 : Sl.rd (ls ++ h4) (i : Int) ∈ h4 := by
        rw [rdN (by rw [List.length_append]; omega), List.getElem_append_right (by omega)]; exact List.getElem_mem _
      have e2 : Sl.rd (ms ++ [m, m, m, m]) (i : Int) = m := by
        rw [rdN (by simp only [List.length_append, List.length_cons, List.length_nil]; omega), List.getElem_append_right (by omega)]
        have : [m, m, m, m] = List.replicate 4 m := rfl
        simp only [this, List.getElem_replicate]
      rw [e2]
      exact h3 w' (Sat.fst hs) _ e1
  · rcases List.mem_append.1 hx with h4 | h4
    · exact h.sz x h4
    · have := h2 x h4; omega
end Go.Proofs.Ytaofhbjlbdpjhaa
