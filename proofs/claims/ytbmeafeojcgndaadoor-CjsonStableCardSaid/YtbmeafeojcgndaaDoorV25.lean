/- Walks: true and false, behind a row of bytes. -/
import Derived.Test.YtbmeafeojcgndaaDoorV12
import Derived.Test.YtbmeafeojcgndaaDoorV24
import Derived.Test.YtbmeafeojcgndaaDoorV8
import Derived.Test.YtbmeafeojcgndaaDoorV5
set_option linter.unusedVariables false
set_option linter.unusedSimpArgs false
namespace Go.Proofs.YtbmeafeojcgndaaDoor
open Go Go.Sl Go.RowKit
set_option maxRecDepth 100000
attribute [local irreducible] CW LW DW FR DP Calls Res Ret
def boolB (v : Bool) : List UInt8 := if v then [116, 114, 117, 101] else [102, 97, 108, 115, 101]
section
variable {W : World} {L : List HProp}
theorem appendBool65_call (w : World) (out : List UInt8) (v : Bool) (A : Option Addr) (c : Nat) (hs : Sat W w (RowOf eB 5 1 A c out :: L)) (ho : out.length ≤ 70368744177664) :
    Calls Tryd.prog 65 [Value.slice A out.length c, .bool v].toArray w (Ret fun r w' => ∃ A' c', r = .slice A' (out ++ boolB v).length c' ∧ Sat W w' (RowOf eB 5 1 A' c' (out ++ boolB v) :: L)) := by
  refine Calls_of Tryd.func65 rfl 10 Tryd.ntmps65 rfl ?_
  cases v
  · (repeat' (first | (refine isLW ?_; first | refine LW_nil ?_ | (refine isLcall ?_; first | (refine LW_appendS 0 (xs := out) (ys := [102, 97, 108, 115, 101]) hs TOK rfl rfl rfl rfl rfl rfl rfl rfl rfl rfl rfl rfl (by simp only [List.length_cons, List.length_nil]; omega) ?_; clear hs; intro A2 c2 w hs)) | refine LW_pure TOK rfl ?_) | (with_reducible first | refine then_n ?_ | refine CW_seq ?_ | refine CW_region ?_ | refine CW_skip ?_ | refine CW_ret ?_) | refine CW_false rfl ?_ | refine RET1 Tryd.results65 rfl ?_))
    all_goals exact ⟨A2, c2, rfl, hs⟩
  · (repeat' (first | (refine isLW ?_; first | refine LW_nil ?_ | (refine isLcall ?_; first | (refine LW_appendS 0 (xs := out) (ys := [116, 114, 117, 101]) hs TOK rfl rfl rfl rfl rfl rfl rfl rfl rfl rfl rfl rfl (by simp only [List.length_cons, List.length_nil]; omega) ?_; clear hs; intro A2 c2 w hs)) | refine LW_pure TOK rfl ?_) | (with_reducible first | refine then_n ?_ | refine CW_seq ?_ | refine CW_region ?_ | refine CW_ret ?_ | refine then_r ?_) | refine CW_true rfl ?_ | refine RET1 Tryd.results65 rfl ?_))
    all_goals exact ⟨A2, c2, rfl, hs⟩
theorem appendBool_call (w : World) (out : List UInt8) (v : Bool) (A : Option Addr) (c : Nat) (hs : Sat W w (RowOf eB 5 1 A c out :: L)) (ho : out.length ≤ 70368744177664) :
    Calls Tryd.prog 48 [Value.slice A out.length c, .bool v].toArray w (Ret fun r w' => ∃ A' c', r = .slice A' (out ++ boolB v).length c' ∧ Sat W w' (RowOf eB 5 1 A' c' (out ++ boolB v) :: L)) := by
  refine Calls_of Tryd.func48 rfl 8 Tryd.ntmps48 rfl ?_
  (repeat' (first | (refine isLW ?_; first | refine LW_nil ?_ | (refine isLcall ?_; first | (refine LW_call (cap := []) rfl rfl ent65 (appendBool65_call _ out v A c hs ho) ?_; clear hs; rintro _ w2 ⟨A2, c2, rfl, hs⟩)) | refine LW_pure TOK rfl ?_) | (with_reducible first | refine then_n ?_ | refine CW_seq ?_ | refine CW_region ?_ | refine CW_ret ?_) | refine RET1 Tryd.results48 rfl ?_))
  exact ⟨A2, c2, rfl, hs⟩
end
end Go.Proofs.YtbmeafeojcgndaaDoor

/- Plain words of the reader of values; the rows that a value owns. -/
set_option linter.unusedVariables false
set_option linter.unusedSimpArgs false
namespace Go.Proofs.YtbmeafeojcgndaaDoor
open Go Go.Sl Go.RowKit
set_option maxRecDepth 100000
/-- The items of a list, from a place on. -/
def itemsM (val : Nat → Mo (J × Nat)) (b : List UInt8) : Nat → List J → Nat → Mo (List J × Nat)
  | 0, _, _ => .error (0, 0)
  | f + 1, acc, p => match val p with
    | .error e => .error e
    | .ok x => match moreM b 93 x.2 with
      | .error e => .error e
      | .ok m => if m.1 = true then itemsM val b f (acc ++ [x.1]) m.2 else .ok (acc ++ [x.1], m.2)
theorem itemsM_succ (val : Nat → Mo (J × Nat)) (b : List UInt8) (f : Nat) (acc : List J) (p : Nat) : itemsM val b (f + 1) acc p = match val p with
    | .error e => .error e
    | .ok x => match moreM b 93 x.2 with
      | .error e => .error e
      | .ok m => if m.1 = true then itemsM val b f (acc ++ [x.1]) m.2 else .ok (acc ++ [x.1], m.2) := rfl
def listM (val : Nat → Mo (J × Nat)) (b : List UInt8) (p d : Nat) : Mo (J × Nat) := match enterM b p d with
  | .error e => .error e
  | .ok q => match peekM b q with
    | .error e => .error e
    | .ok c => if c.toNat = 93 then .ok (.mk 4 0 [] [] [], q + 1) else match itemsM val b (b.length + 1) [] q with
      | .error e => .error e
      | .ok r => .ok (.mk 4 0 [] [] r.1, r.2)
/-- The members of an object, from a place on. -/
def membersM (val : Nat → Mo (J × Nat)) (b : List UInt8) : Nat → List (List UInt8) → List J → Nat → Mo ((List (List UInt8) × List J) × Nat)
  | 0, _, _, _ => .error (0, 0)
  | f + 1, ns, xs, p => match peekM b p with
    | .error e => .error e
    | .ok c => if ¬ c.toNat = 34 then .error (131, p) else match textM b p with
      | .error e => .error e
      | .ok t => if t.1 ∈ ns then .error (137, p) else match peekM b (blanksM b t.2) with
        | .error e => .error e
        | .ok c => if ¬ c.toNat = 58 then .error (131, blanksM b t.2) else match val (blanksM b (blanksM b t.2 + 1)) with
          | .error e => .error e
          | .ok x => match moreM b 125 x.2 with
            | .error e => .error e
            | .ok m => if m.1 = true then membersM val b f (ns ++ [t.1]) (xs ++ [x.1]) m.2 else .ok ((ns ++ [t.1], xs ++ [x.1]), m.2)
theorem membersM_succ (val : Nat → Mo (J × Nat)) (b : List UInt8) (f : Nat) (ns : List (List UInt8)) (xs : List J) (p : Nat) : membersM val b (f + 1) ns xs p = match peekM b p with
    | .error e => .error e
    | .ok c => if ¬ c.toNat = 34 then .error (131, p) else match textM b p with
      | .error e => .error e
      | .ok t => if t.1 ∈ ns then .error (137, p) else match peekM b (blanksM b t.2) with
        | .error e => .error e
        | .ok c => if ¬ c.toNat = 58 then .error (131, blanksM b t.2) else match val (blanksM b (blanksM b t.2 + 1)) with
          | .error e => .error e
          | .ok x => match moreM b 125 x.2 with
            | .error e => .error e
            | .ok m => if m.1 = true then membersM val b f (ns ++ [t.1]) (xs ++ [x.1]) m.2 else .ok ((ns ++ [t.1], xs ++ [x.1]), m.2) := rfl
/-- An object, its members in order. -/
def objJ (ns : List (List UInt8)) (xs : List J) : J := .mk 5 0 [] ((sortP (ns.zip xs)).map (·.1)) ((sortP (ns.zip xs)).map (·.2))
def objectM (val : Nat → Mo (J × Nat)) (b : List UInt8) (p d : Nat) : Mo (J × Nat) := match enterM b p d with
  | .error e => .error e
  | .ok q => match peekM b q with
    | .error e => .error e
    | .ok c => if c.toNat = 125 then .ok (.mk 5 0 [] [] [], q + 1) else match membersM val b (b.length + 1) [] [] q with
      | .error e => .error e
      | .ok r => .ok (objJ r.1.1 r.1.2, r.2)
def nullB : List UInt8 := [110, 117, 108, 108]
/-- What begins with c. -/
def headM (val : Nat → Mo (J × Nat)) (b : List UInt8) (p d : Nat) (c : Nat) : Mo (J × Nat) :=
  if c = 110 then (match wordM b nullB p with | .error e => .error e | .ok q => .ok (.mk 0 0 [] [] [], q))
  else if c = 102 then (match wordM b (boolB false) p with | .error e => .error e | .ok q => .ok (.mk 1 0 [] [] [], q))
  else if c = 116 then (match wordM b (boolB true) p with | .error e => .error e | .ok q => .ok (.mk 1 1 [] [] [], q))
  else if c = 34 then (match textM b p with | .error e => .error e | .ok t => .ok (.mk 3 0 t.1 [] [], t.2))
  else if c = 91 then listM val b p d
  else if c = 123 then objectM val b p d
  else if c = 45 ∨ (48 ≤ c ∧ c ≤ 57) then (match numberM b p with | .error e => .error e | .ok n => .ok (.mk 2 n.1 [] [] [], n.2))
  else .error (131, p)
/-- A value, k levels above the deepest. -/
def valueM (b : List UInt8) : Nat → Nat → Mo (J × Nat)
  | 0, _ => .error (0, 0)
  | k + 1, p => match peekM b p with
    | .error e => .error e
    | .ok c => headM (valueM b k) b p (16 - k) c.toNat
theorem valueM_succ (b : List UInt8) (k p : Nat) : valueM b (k + 1) p = match peekM b p with
    | .error e => .error e
    | .ok c => headM (valueM b k) b p (16 - k) c.toNat := rfl
mutual
/-- The rows that a value owns. -/
def RV.rows : RV → List HProp
  | .mk _ _ _ NA nc ns IA ic xs => RowOf eN 9 1 NA nc ns :: RowOf eV 31 5 IA ic xs :: RV.rowss xs
def RV.rowss : List RV → List HProp
  | [] => []
  | x :: xs => RV.rows x ++ RV.rowss xs
end
theorem RV.rowss_eq : ∀ xs : List RV, RV.rowss xs = xs.flatMap RV.rows
  | [] => by simp [RV.rowss]
  | x :: xs => by simp [RV.rowss, RV.rowss_eq xs]
theorem rowss_snoc (xs : List RV) (x : RV) : RV.rowss (xs ++ [x]) = RV.rowss xs ++ x.rows := by simp [RV.rowss_eq]
theorem rowss_perm {xs ys : List RV} (h : xs.Perm ys) : (RV.rowss xs).Perm (RV.rowss ys) := by
  rw [RV.rowss_eq, RV.rowss_eq]; exact h.flatMap_right _
theorem js_snoc (xs : List RV) (x : RV) : RV.js (xs ++ [x]) = RV.js xs ++ [x.j] := by simp [RV.js_eq]
section
variable {W w : World} {L : List HProp}
mutual
/-- What is owned may be read. -/
theorem rdV_of : ∀ (x : RV) (L : List HProp), Sat W w (x.rows ++ L) → RdV w x
  | .mk k i t NA nc ns IA ic xs, L, h => by
    have e : (RV.mk k i t NA nc ns IA ic xs).rows = RowOf eN 9 1 NA nc ns :: RowOf eV 31 5 IA ic xs :: RV.rowss xs := by rw [RV.rows]
    rw [e] at h
    simp only [List.cons_append] at h
    exact .mk (h.rd 0 rfl) (h.rd 1 rfl) h.rowLe h.drop1.rowLe (rdVs_of xs L h.drop1.drop1)
theorem rdVs_of : ∀ (xs : List RV) (L : List HProp), Sat W w (RV.rowss xs ++ L) → ∀ x ∈ xs, RdV w x
  | [], _, _, x, hx => by cases hx
  | y :: ys, L, h, x, hx => by
    have e : RV.rowss (y :: ys) = y.rows ++ RV.rowss ys := by rw [RV.rowss]
    rw [e, List.append_assoc] at h
    rcases List.mem_cons.1 hx with he | hx
    · rw [he]; exact rdV_of y _ h
    · refine rdVs_of ys (y.rows ++ L) (h.perm ?_) x hx
      rw [← List.append_assoc, ← List.append_assoc]
      exact List.Perm.append_right L List.perm_append_comm
end
end
end Go.Proofs.YtbmeafeojcgndaaDoor
