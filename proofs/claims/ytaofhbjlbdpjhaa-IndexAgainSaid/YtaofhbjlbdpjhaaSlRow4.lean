/- A slice that ends ahead of its row's end: its cells found. -/
import Derived.Test.YtaofhbjlbdpjhaaSlRow3
set_option linter.unusedVariables false
set_option linter.unusedSimpArgs false
namespace Go.Sl
open Go.RowKit
section
variable {r : Option Nat} {P : Program} {T : List (Nat × TI)} {ops : Array Oper} {Q : Exit → Act → World → Prop} {rest : List Oper} {w : World} {n : Nat} {s : List (Nat × Value)} {τ : Nat → Value} {ds : List Deferred} {ty : TypeId} {ps : String} {af : Array Edge} {d : Nat} {α : Type}
theorem LW_indexRdN [Inhabited α] {enc : α → List Value} {xs : List α} {A : Option Addr} (hr : Rd enc w A xs) {t e : TypeId} {x y : Operand} {ti te : TI} {k : IntKind} {len cap : Nat} {i : Int} (hT : TyOK P T) (hx : EVO n s x = some (.slice A len cap)) (hy : EVO n s y = some (.int k i)) (ht : lookT T t = some ti) (hu : ti.u = .slice e) (he : lookT T e = some te)
    (h0 : 0 ≤ i) (h1 : i < len) (h2 : i < xs.length) (c : ∀ b o, A = some ⟨b, o, none⟩ → LW r P ops Q rest (FR n ((d, .pointer (some ⟨b, o + i.toNat * te.size, none⟩)) :: s) τ ds) w) : LW r P ops Q (⟨some d, .indexAddr t x y, ty, ps, af, none⟩ :: rest) (FR n s τ ds) w := by
  obtain ⟨b, o, hA⟩ := hr.some h0 h2
  subst hA
  exact LW_indexAddr hT hx hy ht hu he h0 h1 (c b o rfl)
end
end Go.Sl
