/- Stores of several cells: into a block of one's own, into a row's element. -/
import Derived.Test.YtaofhbjlbdpjhaaSlMulti
set_option linter.unusedVariables false
set_option linter.unusedSimpArgs false
namespace Go.Sl
open Go.RowKit
section
variable {r : Option Nat} {P : Program} {T : List (Nat × TI)} {ops : Array Oper} {Q : Exit → Act → World → Prop} {rest : List Oper} {n : Nat} {s : List (Nat × Value)} {τ : Nat → Value} {ds : List Deferred} {w : World}
  {ty : TypeId} {ps : String} {af : Array Edge} {d : Nat} {W : World} {L : List HProp}
theorem grownBy_setRow (w : World) (g : Nat) (cs : Array Value) : w.grownBy (w.setRow g cs) (some g) :=
  ⟨rfl, rfl, rfl, by simp, fun k _ hk => setRow_other w g k _ (fun e => hk (by rw [e]))⟩
theorem run_storeW {t e : TypeId} {ti : TI} {g o : Nat} {v : Value} {vs : List Value} {cur : Array Value} (ht : tyOf P t = some ti) (hv : cellsO v = some vs) (hl : vs.length = ti.size) (hg : w.heap[g]? = some (.cells cur e (0, 0))) (hfit : o + vs.length ≤ cur.size) (h1 : ∀ u ∈ vs, u.oneCell' = true) :
    (Instr.storeAt t (.pointer (some ⟨g, o, none⟩)) v).run P w = .ok () (w.setRow g (cur.toList.take o ++ vs ++ cur.toList.drop (o + vs.length)).toArray) := by
  have h2 := ty_sizeOf ht w
  have h3 := cellsO_eq hv
  have h4 := run_storeCells_at P g o e vs 0 cur w hg (by simpa using hfit) h1
  simp only [Nat.add_zero] at h4
  simp only [Instr.storeAt, Instr.sureAddr, Sem.run_bind, Sem.run_pure, Result.andThen, storeVar, h2, h3]
  simp [hl, h4]
theorem LW_storeCA (i : Nat) {x y : Operand} {t : TypeId} {ti : TI} {b o : Nat} {v : Value} {ws vs : List Value} {te : TypeId} (hT : TyOK P T) (hs : Sat W w L) (hx : EVO n s x = some (.pointer (some ⟨b, o, none⟩))) (hy : EVO n s y = some v) (ht : lookT T t = some ti) (hv : cellsO v = some ws) (hl : ws.length = ti.size) (h1 : ∀ u ∈ ws, u.oneCell' = true)
    (hi : getA L i = some (Cl b vs te)) (hfit : o + ws.length ≤ vs.length) (k : ∀ w', Sat W w' (L.set i (Cl b (vs.take o ++ ws ++ vs.drop (o + ws.length)) te)) → LW r P ops Q rest (FR n s τ ds) w') : LW r P ops Q (⟨none, .store t x y, ty, ps, af, none⟩ :: rest) (FR n s τ ds) w := by
  rw [getA_eq] at hi
  have hb := (hs.at i hi).2
  refine LW_runSkip (w' := w.setRow b (vs.take o ++ ws ++ vs.drop (o + ws.length)).toArray) rfl (fun c e => by cases e) ?_ (k _ (hs.turn i hi _ (grownBy_setRow w b _) (setRow_heap w b _ _ te (0, 0) hb)))
  show Sem.run P (do Instr.storeAt t ((FR n s τ ds).eval x) ((FR n s τ ds).eval y); pure Next.skip) w = _
  rw [eval_of hx, eval_of hy, Sem.run_bind, run_storeW (hT _ _ ht) hv hl hb (by simpa using hfit) h1]; rfl
theorem LW_loadCA (i : Nat) {x : Operand} {t : TypeId} {ti : TI} {b o : Nat} {vs : List Value} {te : TypeId} (hT : TyOK P T) (hs : Sat W w L) (hx : EVO n s x = some (.pointer (some ⟨b, o, none⟩))) (ht : lookT T t = some ti) (ha : ti.agg = true) (hi : getA L i = some (Cl b vs te)) (hfit : o + ti.size ≤ vs.length)
    (k : LW r P ops Q rest (FR n ((d, .agg ((vs.drop o).take ti.size).toArray) :: s) τ ds) w) : LW r P ops Q (⟨some d, .load t x, ty, ps, af, none⟩ :: rest) (FR n s τ ds) w := by
  rw [getA_eq] at hi
  refine LW_loadA hT hx ht ha (by rw [List.length_take, List.length_drop]; omega) (fun j v hj => ?_) k
  rw [hs.cell i hi (o + j)]
  rw [List.getElem?_take] at hj
  split at hj
  · rwa [List.getElem?_drop] at hj
  · cases hj
theorem LW_loadCAE (i : Nat) (ws : List Value) {x : Operand} {t : TypeId} {ti : TI} {b o : Nat} {vs : List Value} {te : TypeId} (hT : TyOK P T) (hs : Sat W w L) (hx : EVO n s x = some (.pointer (some ⟨b, o, none⟩))) (ht : lookT T t = some ti) (ha : ti.agg = true) (hi : getA L i = some (Cl b vs te)) (hfit : o + ti.size ≤ vs.length) (hw : (vs.drop o).take ti.size = ws)
    (k : LW r P ops Q rest (FR n ((d, .agg ws.toArray) :: s) τ ds) w) : LW r P ops Q (⟨some d, .load t x, ty, ps, af, none⟩ :: rest) (FR n s τ ds) w := LW_loadCA i hT hs hx ht ha hi hfit (hw ▸ k)
theorem flat_set {α : Type} {enc : α → List Value} {sz : Nat} (hz : ∀ x, (enc x).length = sz) (z : α) : ∀ (xs : List α) (j : Nat), j < xs.length → (xs.set j z).flatMap enc = (xs.flatMap enc).take (j * sz) ++ enc z ++ (xs.flatMap enc).drop (j * sz + sz)
  | [], j, h => by simp at h
  | x :: xs, 0, h => by
    simp only [List.set_cons_zero, List.flatMap_cons, Nat.zero_mul, List.take_zero, List.nil_append, Nat.zero_add]
    rw [List.drop_left' (hz x)]
  | x :: xs, j + 1, h => by
    have ih := flat_set hz z xs j (by simpa using h)
    simp only [List.set_cons_succ, List.flatMap_cons, ih]
    have e1 : (j + 1) * sz = (enc x).length + j * sz := by rw [hz, Nat.add_mul]; omega
    have e2 : (j + 1) * sz + sz = (enc x).length + (j * sz + sz) := by rw [e1]; omega
    rw [e2, List.drop_length_add_append, e1, List.take_length_add_append, List.append_assoc, List.append_assoc, List.append_assoc]
theorem Sat.rowSet {α : Type} {enc : α → List Value} {sz : Nat} (hz : ∀ x, (enc x).length = sz) {xs : List α} {A : Option Addr} {c : Nat} {e : TypeId} (hs : Sat W w (RowOf enc e sz A c xs :: L)) {j : Nat} (hj : j < xs.length) :
    ∃ b cur, A = some ⟨b, 0, none⟩ ∧ w.heap[b]? = some (.cells cur e (0, 0)) ∧ j * sz + sz ≤ cur.size ∧ ∀ z, Sat W (w.setRow b (cur.toList.take (j * sz) ++ enc z ++ cur.toList.drop (j * sz + sz)).toArray) (RowOf enc e sz A c (xs.set j z) :: L) := by
  obtain ⟨h1, h2⟩ := hs.row0
  rcases h2 with ⟨h2, h3⟩ | ⟨g, cap, cur, hv, hB, hcur, hnc, hcm, hcs, htk⟩
  · omega
  · injection hv with q1 q2 q3
    subst q1; subst q3
    have hfl := flat_len hz xs
    have hjs : j * sz + sz ≤ xs.length * sz := by
      have := Nat.mul_le_mul_right sz (show j + 1 ≤ xs.length by omega)
      rwa [Nat.add_mul, Nat.one_mul] at this
    have hcs2 : xs.length * sz ≤ cur.size := Nat.le_trans (Nat.mul_le_mul_right _ hnc) hcs
    refine ⟨g, cur, rfl, hcur, by omega, fun z => ?_⟩
    have hlen : (xs.set j z).length = xs.length := by simp
    have hown : OwnR (w.setRow g (cur.toList.take (j * sz) ++ enc z ++ cur.toList.drop (j * sz + sz)).toArray) W.heap.size e sz (.slice (some ⟨g, 0, none⟩) (xs.set j z).length c) (xs.set j z).length ((xs.set j z).flatMap enc) := by
      refine ⟨flat_len hz _, .inr ⟨g, c, _, rfl, hB, setRow_heap w g cur _ e _ hcur, by omega, hcm, ?_, ?_⟩⟩
      · simp only [List.size_toArray, List.length_append, List.length_take, List.length_drop, Array.length_toList, hz]; omega
      · rw [flat_set hz z xs j hj, hlen, ← htk]
        simp only []
        have e0 : cur.toList = xs.flatMap enc ++ cur.toList.drop (xs.length * sz) := by rw [← htk, List.take_append_drop]
        rw [htk]
        have e1 : cur.toList.take (j * sz) = (xs.flatMap enc).take (j * sz) := by rw [e0, List.take_append_of_le_length (by omega)]
        have e2 : cur.toList.drop (j * sz + sz) = (xs.flatMap enc).drop (j * sz + sz) ++ cur.toList.drop (xs.length * sz) := by
          conv => lhs; rw [e0]
          rw [List.drop_append_of_le_length (by omega)]
        rw [e1, e2, ← List.append_assoc]
        have e3 : ((xs.flatMap enc).take (j * sz) ++ enc z ++ (xs.flatMap enc).drop (j * sz + sz)).length = xs.length * sz := by
          simp only [List.length_append, List.length_take, List.length_drop, hz]; omega
        rw [← e3, List.take_left]
    obtain ⟨A', c', e1, hs'⟩ := hs.rowTurn hown (grownBy_setRow w g _) (.inl rfl)
    injection e1 with e2 e3 e4
    subst e2; subst e4
    exact hs'
/-- A store into an element of a row of one's own. -/
theorem LW_storeRow (i : Nat) {α : Type} {enc : α → List Value} {sz : Nat} (hE : (∀ x, (enc x).length = sz) ∧ ∀ x, ∀ u ∈ enc x, u.oneCell' = true) {xs : List α} {z : α} {A : Option Addr} {c b o : Nat} {j : Int} {x y : Operand} {t e : TypeId} {ti : TI} {v : Value} (hs : Sat W w L) (hT : TyOK P T) (hx : EVO n s x = some (.pointer (some ⟨b, o + j.toNat * sz, none⟩))) (hA : A = some ⟨b, o, none⟩) (hy : EVO n s y = some v) (ht : lookT T t = some ti) (hv : cellsO v = some (enc z)) (hsz : ti.size = sz)
    (hi : getA L i = some (RowOf enc e sz A c xs)) (h0 : 0 ≤ j) (hj : j < xs.length) (k : ∀ w', Sat W w' (L.set i (RowOf enc e sz A c (xs.set j.toNat z))) → LW r P ops Q rest (FR n s τ ds) w') : LW r P ops Q (⟨none, .store t x y, ty, ps, af, none⟩ :: rest) (FR n s τ ds) w := by
  rw [getA_eq] at hi
  obtain ⟨g, cur, hA2, hcur, hfit, hnew⟩ := (hs.front i hi).rowSet hE.1 (j := j.toNat) (by omega)
  rw [hA] at hA2
  injection hA2 with hA2
  injection hA2 with hb ho
  subst hb; subst ho
  refine LW_runSkip (w' := w.setRow b (cur.toList.take (j.toNat * sz) ++ enc z ++ cur.toList.drop (j.toNat * sz + sz)).toArray) rfl (fun c e => by cases e) ?_ (k _ (Sat.back hi (hnew z)))
  show Sem.run P (do Instr.storeAt t ((FR n s τ ds).eval x) ((FR n s τ ds).eval y); pure Next.skip) w = _
  rw [Nat.zero_add] at hx
  rw [eval_of hx, eval_of hy, Sem.run_bind, run_storeW (hT _ _ ht) hv (by rw [hE.1, hsz]) hcur (by rw [hE.1]; exact hfit) (hE.2 z), hE.1]; rfl
end
end Go.Sl
