/- Texts: laid together; made of bytes. -/
import Derived.Test.YthhklkpkhaibcaaDoorSlA
import Derived.Test.YthhklkpkhaibcaaDoorSlB
import Derived.Laws.BytesString
set_option linter.unusedVariables false
set_option linter.unusedSimpArgs false
namespace Go.Sl
open Go.RowKit
def bytesOf (ns : List Int) : ByteArray := ns.foldl (fun r n => r.push (UInt8.ofNat n.toNat)) ByteArray.empty
section
variable {r : Option Nat} {P : Program} {T : List (Nat × TI)} {ops : Array Oper} {Q : Exit → Act → World → Prop} {rest : List Oper} {n : Nat} {s : List (Nat × Value)} {τ : Nat → Value} {ds : List Deferred} {w W : World} {L : List HProp}
  {ty : TypeId} {ps : String} {af : Array Edge} {d : Nat}
theorem LW_strCat {t yt : TypeId} {x y : Operand} {a b : ByteArray} (hx : EVO n s x = some (.string a)) (hy : EVO n s y = some (.string b)) (hb : a.size + b.size ≤ 9223372036854775807) (c : LW r P ops Q rest (FR n ((d, .string (a ++ b)) :: s) τ ds) w) :
    LW r P ops Q (⟨some d, .binOp .add t x y yt, ty, ps, af, none⟩ :: rest) (FR n s τ ds) w := by
  refine LW_run (v := .string (a ++ b)) rfl (fun c e => by cases e) ?_ (by rw [put_FR]; exact c)
  show Sem.run P (do let v ← (do eqGuard .add t x y ((FR n s τ ds).eval x) ((FR n s τ ds).eval y); binOp .add t ((FR n s τ ds).eval x) ((FR n s τ ds).eval y)); pure (Next.value v)) w = _
  rw [eval_of hx, eval_of hy]
  have h : ¬ (((a.size + b.size : Nat) : Int) > IntKind.i64.max) := by
    have : IntKind.i64.max = 9223372036854775807 := by decide
    rw [this]; omega
  have h2 : (Op.stringOp .add a b).run P w = .ok (.string (a ++ b)) w := by
    unfold Op.stringOp
    simp only [h, if_false]
    rfl
  simp only [eqGuard, binOp, Sem.run_bind, Sem.run_pure, Result.andThen, Bool.not_false, if_true, h2]
theorem LW_bytesStr (i : Nat) {src dst e : TypeId} {x : Operand} {b k c : Nat} {ns : List Int} {te : TypeId} {t1 t2 t3 : TI} (hT : TyOK P T) (hs : Sat W w L) (hx : EVO n s x = some (.slice (some ⟨b, 0, none⟩) k c)) (h1 : lookT T src = some t1) (u1 : t1.u = .slice e) (h2 : lookT T e = some t2) (u2 : t2.u = .int .u8) (h3 : lookT T dst = some t3) (u3 : t3.u = .string) (hi : getA L i = some (Cl b (ns.map (Value.int .u8)) te)) (hk : ns.length = k)
    (cc : LW r P ops Q rest (FR n ((d, .string (bytesOf ns)) :: s) τ ds) w) : LW r P ops Q (⟨some d, .convert src dst x, ty, ps, af, none⟩ :: rest) (FR n s τ ds) w := by
  rw [getA_eq] at hi
  have a1 := (ty_info (hT _ _ h1)).1
  have a2 := (ty_info (hT _ _ h2)).1
  have a3 := (ty_info (hT _ _ h3)).1
  rw [u1] at a1; rw [u2] at a2; rw [u3] at a3
  have hl : (loadCells ⟨b, 0, none⟩ k).run P w = .ok (ns.map (Value.int .u8)).toArray w := by
    have := run_loadCells_list (P := P) (w := w) ⟨b, 0, none⟩ (ns.map (Value.int .u8)) (fun j v hj => by
      have e : (⟨b, 0, none⟩ : Addr).add j = ⟨b, 0 + j, none⟩ := by unfold Addr.add; split <;> simp_all
      rw [e, hs.cell i hi (0 + j), Nat.zero_add]; exact hj)
    rw [List.length_map, hk] at this
    exact this
  refine LW_run (v := .string (bytesOf ns)) rfl (fun c e => by cases e) ?_ (by rw [put_FR]; exact cc)
  show Sem.run P (do let v ← convert src dst ((FR n s τ ds).eval x); pure (Next.value v)) w = _
  rw [eval_of hx, Sem.run_bind, run_convert_bytes_string w src dst e _ _ _ a1 a2 a3, run_bytesToString w _ _ _ ns hl]
  rfl
end
end Go.Sl
