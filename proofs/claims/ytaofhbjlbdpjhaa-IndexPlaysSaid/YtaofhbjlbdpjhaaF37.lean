/- The book of lists of numbers that were handed out. -/
import Derived.Test.YtaofhbjlbdpjhaaF41
import Derived.Test.YtaofhbjlbdpjhaaF32
import Derived.Test.YtaofhbjlbdpjhaaF33
set_option linter.unusedVariables false
set_option linter.unusedSimpArgs false
namespace Go.Proofs.Ytaofhbjlbdpjhaa
open Go Go.Sl Go.RowKit
set_option maxRecDepth 100000
attribute [local irreducible] CW LW DW FR DP Calls RM
abbrev bookI (bb : Nat) (LA : Option Addr) (lc : Nat) (ls : List (Option Addr × Nat × Nat)) (MA : Option Addr) (mc : Nat) (ms : List Int) : List HProp := [Cl bb [.slice LA ls.length lc, .slice MA ms.length mc] 44, RowOf eH 42 1 LA lc ls, RowOf eI 3 1 MA mc ms]
theorem takeI (W w : World) (X Y : List HProp) (bb : Nat) (ls : List (Option Addr × Nat × Nat)) (ms b : List Int) (LA MA A : Option Addr) (lc mc c : Nat) (hs : Sat W w (bookI bb LA lc ls MA mc ms ++ (RowOf eI 3 1 A c b :: (Y ++ X)))) (hB : BookOK eI W Y ls ms) (hl : ls.length ≤ 1000000) (hb : b.length ≤ 100000000) :
    Calls Try.prog 26 [Value.pointer (some ⟨bb, 0, none⟩), .slice A b.length c].toArray w (Ret fun v w' => v = .tuple #[] ∧ ∃ (ls' : List (Option Addr × Nat × Nat)) (ms' : List Int) (LA' MA' : Option Addr) (lc' mc' : Nat) (Y' : List HProp),
      Sat W w' (bookI bb LA' lc' ls' MA' mc' ms' ++ (Y' ++ X)) ∧ BookOK eI W Y' ls' ms' ∧ ls'.length = ls.length + 4) := by
  refine Sl.Calls.ret (take_callI W w (Y ++ X) bb ls ms b LA MA A lc mc c hs hl (by have := hB.len; omega) hb) ?_
  rintro _ w' ⟨rfl, m, h4, LA', MA', lc', mc', Y', hs, h1, h2, h3⟩
  exact ⟨rfl, ls ++ h4, ms ++ [m, m, m, m], LA', MA', lc', mc', Y' ++ Y, by rw [List.append_assoc]; exact hs, hB.take h1 h2 hb h3, by rw [List.length_append, h1]⟩
theorem wholeI (W w : World) (X Y : List HProp) (bb : Nat) (ls : List (Option Addr × Nat × Nat)) (ms : List Int) (LA MA : Option Addr) (lc mc : Nat) (hs : Sat W w (bookI bb LA lc ls MA mc ms ++ (Y ++ X))) (hB : BookOK eI W Y ls ms) (hl : ls.length ≤ 1000000) :
    Calls Try.prog 34 [Value.pointer (some ⟨bb, 0, none⟩)].toArray w (Ret fun v w' => v = .bool true ∧ Sat W w' (bookI bb LA lc ls MA mc ms ++ (Y ++ X))) :=
  whole_callI W w (Y ++ X) bb ls ms LA MA lc mc hs hB.len hl hB.sz (fun w' h i hi => hB.rd w' (Sat.fst h) i hi)
end Go.Proofs.Ytaofhbjlbdpjhaa
