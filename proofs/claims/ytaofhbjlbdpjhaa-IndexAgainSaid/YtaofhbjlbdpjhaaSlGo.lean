/- Which kind of goal a walk stands at. -/
import Derived.Test.YtaofhbjlbdpjhaaSl
set_option linter.unusedVariables false
set_option linter.unusedSimpArgs false
namespace Go.Sl
section
variable {r : Option Nat} {P : Program} {Q : Exit → Act → World → Prop} {a : Act} {w : World} {ops : Array Oper} {rest : List Oper} {ty : TypeId} {ps : String} {af : Array Edge} {dst : Option Tmp} {L : List Oper}
theorem isLW (h : LW r P ops Q L a w) : LW r P ops Q L a w := h
theorem isLg {op : Op} {g : Nat × Bool} (h : LW r P ops Q (⟨dst, op, ty, ps, af, some g⟩ :: rest) a w) : LW r P ops Q (⟨dst, op, ty, ps, af, some g⟩ :: rest) a w := h
theorem isLload {t : TypeId} {x : Operand} (h : LW r P ops Q (⟨dst, .load t x, ty, ps, af, none⟩ :: rest) a w) : LW r P ops Q (⟨dst, .load t x, ty, ps, af, none⟩ :: rest) a w := h
theorem isLstore {t : TypeId} {x y : Operand} (h : LW r P ops Q (⟨dst, .store t x y, ty, ps, af, none⟩ :: rest) a w) : LW r P ops Q (⟨dst, .store t x y, ty, ps, af, none⟩ :: rest) a w := h
theorem isLcall {c : Call} (h : LW r P ops Q (⟨dst, .call c, ty, ps, af, none⟩ :: rest) a w) : LW r P ops Q (⟨dst, .call c, ty, ps, af, none⟩ :: rest) a w := h
theorem isLidx {t : TypeId} {x y : Operand} (h : LW r P ops Q (⟨dst, .indexAddr t x y, ty, ps, af, none⟩ :: rest) a w) : LW r P ops Q (⟨dst, .indexAddr t x y, ty, ps, af, none⟩ :: rest) a w := h
theorem isLbin {b : BinOp} {t yt : TypeId} {x y : Operand} (h : LW r P ops Q (⟨dst, .binOp b t x y yt, ty, ps, af, none⟩ :: rest) a w) : LW r P ops Q (⟨dst, .binOp b t x y yt, ty, ps, af, none⟩ :: rest) a w := h
variable {l : List Oper} {eff : List Nat} {K : Act → World → Prop} {Cs : List (Nat × (World → Prop))} {plan : List Nat} {listed : Array Bool} {i : Nat} {gd : Option (Nat × Bool)}
theorem isDP (h : DP r P l eff K Cs plan listed a w) : DP r P l eff K Cs plan listed a w := h
theorem isDnil (h : DP r P l eff K Cs [] listed a w) : DP r P l eff K Cs [] listed a w := h
theorem isDe (he : eff.contains i = true) (h : DP r P l eff K Cs (i :: plan) listed a w) : DP r P l eff K Cs (i :: plan) listed a w := h
theorem isDg {op : Op} {g : Nat × Bool} (he : getA l i = some ⟨dst, op, ty, ps, af, some g⟩) (h : DP r P l eff K Cs (i :: plan) listed a w) : DP r P l eff K Cs (i :: plan) listed a w := h
theorem isDload {t : TypeId} {x : Operand} (he : getA l i = some ⟨dst, .load t x, ty, ps, af, gd⟩) (h : DP r P l eff K Cs (i :: plan) listed a w) : DP r P l eff K Cs (i :: plan) listed a w := h
theorem isDidx {t : TypeId} {x y : Operand} (he : getA l i = some ⟨dst, .indexAddr t x y, ty, ps, af, gd⟩) (h : DP r P l eff K Cs (i :: plan) listed a w) : DP r P l eff K Cs (i :: plan) listed a w := h
theorem isDbin {b : BinOp} {t yt : TypeId} {x y : Operand} (he : getA l i = some ⟨dst, .binOp b t x y yt, ty, ps, af, gd⟩) (h : DP r P l eff K Cs (i :: plan) listed a w) : DP r P l eff K Cs (i :: plan) listed a w := h
/-- What a drawn operation rests on, at the head of the list. -/
theorem isI0 (h : Inv l eff [] listed w) : Inv l eff [] listed w := h
theorem isI1 {c : World → Prop} (h : Inv l eff ((i, c) :: Cs) listed w) : Inv l eff ((i, c) :: Cs) listed w := h
end
end Go.Sl
