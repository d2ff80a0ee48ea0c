/- Ranges within a loop: each leaves a place for what is deferred; how a function leaves that has many. -/
import Derived.Test.YtaofhbjlbdpjhaaSlB
import Derived.Test.YtaofhbjlbdpjhaaSlPerm
set_option linter.unusedVariables false
set_option linter.unusedSimpArgs false
namespace Go.Sl
open Go.RowKit
def dfr (Ds : List Nat) : List Deferred := Ds.map fun D => { target := .collected D, args := #[] }
def dBk (D : Nat) : HProp := Bk D (.deferred (some []))
section
variable {r : Option Nat} {P : Program} {Q : Exit → Act → World → Prop} {n : Nat} {s : List (Nat × Value)} {τ : Nat → Value} {w : World} {f : Func} {Post : Value → World → Prop} {W : World} {L : List HProp}
theorem CW_loopD {γ : Type} (S : γ → List (Nat × Value)) (DS : γ → List Deferred) (H : γ → World → Prop) (μ : γ → Nat) (g0 : γ) {c : Code} {ds : List Deferred} (h0 : Agr s (S g0)) (hd : ds = DS g0) (hw : H g0 w)
    (hround : ∀ g τ w, H g w → CW r P c (Exit.then (fun a' w' => ∃ g' τ', a' = FR n (S g') τ' (DS g') ∧ H g' w' ∧ μ g' < μ g) Q) (FR n (S g) τ (DS g)) w) :
    CW r P (.loop c) Q (FR n s τ ds) w := by
  subst hd
  refine wpIn_loop_ghost (fun m a w => ∃ g τ', a = FR n (S g) τ' (DS g) ∧ H g w ∧ μ g = m) (μ g0) ⟨g0, look s τ, FR_forget _ h0, hw, rfl⟩ ?_
  rintro m a w ⟨g, τ', rfl, hH, rfl⟩
  refine wpIn_mono (hround g τ' w hH) ?_
  intro e a' w' hq
  cases e with
  | normal => obtain ⟨g', τ'', e, hH', hlt⟩ := hq; exact ⟨μ g', hlt, g', τ'', e, hH', rfl⟩
  | _ => exact hq
theorem M_takes {tm : Array Value} : ∀ (Ds : List Nat) {w : World}, Sat W w (Big (Ds.map dBk) :: L) → (∀ w', Sat W w' L → RM P f Post tm [] w') → RM P f Post tm (dfr Ds) w
  | [], w, hs, k => k w hs.drop1
  | D :: Ds, w, hs, k => by
    have h1 : Sat W w (dBk D :: (Ds.map dBk ++ L)) := Sat.big (l := dBk D :: Ds.map dBk) hs
    exact M_take 0 h1 rfl fun w' hs' => M_takes Ds (Sat.mkBig (Sat.drop1 (L := Ds.map dBk ++ L) hs')) k
theorem bigD {D : Nat} {Ds : List Nat} (h : Sat W w (Bk D (.deferred (some [])) :: Big (Ds.map dBk) :: L)) : Sat W w (Big ((D :: Ds).map dBk) :: L) :=
  Sat.mkBig (l := dBk D :: Ds.map dBk) (Sat.perm (Sat.big (h.picks [1])) List.perm_middle)
end
end Go.Sl
