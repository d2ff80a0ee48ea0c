/- append of zeros: 'append(s, make([]T, n)...)', of elements of one cell. -/
import Derived.Test.YthhklkpkhaibcaaDoorSlDraw6
set_option linter.unusedVariables false
set_option linter.unusedSimpArgs false
namespace Go.Sl
open Go.RowKit
theorem zeroCells_rep (z : Value) (m : Nat) : Builtin.zeroCells #[z] m = (List.replicate m z).toArray := by
  unfold Builtin.zeroCells
  apply Array.ext
  · simp
  · intro i h1 h2
    simp [Nat.mod_one]
theorem run_appendZ0 {P : Program} (w : World) (t u ty e : TypeId) (i : TypeInfo) (ku : IntKind) (ht : P.underlying t = some (.slice e)) (hu : P.underlying u = some (.int ku)) (hi : P.info? e = some i)
    (A : Option Addr) (n c : Nat) (hc : n ≤ c) : (Builtin.append_ #[t, u] ty #[.slice A n c, .int .i64 0]).run P w = .ok (.slice A n c) w := by
  have hw : IntKind.i64.wrap 0 = 0 := by decide
  cases A <;> simp [Builtin.append_, run_underlying ht, run_underlying hu, sizeOf, typeInfo, hi, hw, asInt, asIntOf, hc, storeCells]
theorem run_appendZ_room {P : Program} (w : World) (t u ty e : TypeId) (i : TypeInfo) (ku : IntKind) (z : Value) (ht : P.underlying t = some (.slice e)) (hu : P.underlying u = some (.int ku)) (hi : P.info? e = some i) (hz : i.zero = some z) (hsz : i.size = 1) (hzc : z.cells = #[z]) (h1 : z.oneCell' = true)
    (g sLen sCap : Nat) (cur : Array Value) (hg : w.heap[g]? = some (.cells cur e (0, 0))) (m : Nat) (hm0 : 0 < m) (hm : m ≤ 140737488355328) (hby : m * i.bytes ≤ 281474976710656) (hroom : sLen + m ≤ sCap) (hfit : sLen + m ≤ cur.size) :
    (Builtin.append_ #[t, u] ty #[.slice (some ⟨g, 0, none⟩) sLen sCap, .int .i64 (m : Int)]).run P w =
      .ok (.slice (some ⟨g, 0, none⟩) (sLen + m) sCap) (w.setRow g (cur.toList.take sLen ++ List.replicate m z ++ cur.toList.drop (sLen + m)).toArray) := by
  have hw : IntKind.i64.wrap (m : Int) = m := IntWalk.i64_in _ (by omega)
  have hst := run_storeCells_at P g sLen e (List.replicate m z) 0 cur w hg (by simpa using hfit) (fun u hu => by rw [List.mem_replicate] at hu; rw [hu.2]; exact h1)
  simp only [Nat.add_zero, List.length_replicate] at hst
  have hneg : ¬ ((m : Int) < 0) := by omega
  have hbig : ¬ (281474976710656 < (m : Int) * (i.bytes : Int)) := by
    have : (m : Int) * (i.bytes : Int) = ((m * i.bytes : Nat) : Int) := by push_cast; rfl
    omega
  have hm' : ¬ m = 0 := by omega
  simp [Builtin.append_, run_underlying ht, run_underlying hu, sizeOf, typeInfo, zeroValue, hi, hz, hsz, hw, asInt, asIntOf, hneg, hbig, hroom, hm', hzc, zeroCells_rep, Addr.add_lit, hst]
theorem run_appendZ_grow {P : Program} (w : World) (t u ty e : TypeId) (i : TypeInfo) (ku : IntKind) (z : Value) (ht : P.underlying t = some (.slice e)) (hu : P.underlying u = some (.int ku)) (hi : P.info? e = some i) (hz : i.zero = some z) (hsz : i.size = 1) (hzc : z.cells = #[z])
    (A : Option Addr) (sLen sCap : Nat) (olds : List Value) (hlo : olds.length = sLen) (holds : (A = none ∧ sLen = 0) ∨ ∃ b, A = some b ∧ ∀ j v, olds[j]? = some v → w.cell? (b.add j) = some v) (m : Nat) (hm0 : 0 < m) (hm : m ≤ 140737488355328) (hby : m * i.bytes ≤ 281474976710656)
    (hg : sCap < sLen + m) (h63 : ((sLen + m : Nat) : Int) ≤ 9223372036854775807) (hfit : Builtin.nextslicecap (sLen + m) sCap * i.bytes ≤ 281474976710656) :
    (Builtin.append_ #[t, u] ty #[.slice A sLen sCap, .int .i64 (m : Int)]).run P w =
      .ok (.slice (some ⟨w.heap.size, 0, none⟩) (sLen + m) (grownCap w (sLen + m) sCap e))
        (w.drew.alloc (.cells (olds.toArray ++ (List.replicate m z).toArray ++ Builtin.zeroCells z.cells (grownCap w (sLen + m) sCap e - (sLen + m))) e)) := by
  have hw : IntKind.i64.wrap (m : Int) = m := IntWalk.i64_in _ (by omega)
  have hneg : ¬ ((m : Int) < 0) := by omega
  have hbig : ¬ (281474976710656 < (m : Int) * (i.bytes : Int)) := by
    have : (m : Int) * (i.bytes : Int) = ((m * i.bytes : Nat) : Int) := by push_cast; rfl
    omega
  have hm' : ¬ m = 0 := by omega
  have hn : ¬ (sLen + m ≤ sCap) := by omega
  have h63' : ¬ (9223372036854775807 < ((sLen : Int) + (m : Int))) := by omega
  have h48' : ¬ (281474976710656 < Builtin.nextslicecap (sLen + m) sCap * i.bytes) := by omega
  have hfo : (Builtin.firstCells 1 sLen (.slice A sLen sCap)).run P w.drew = .ok olds.toArray w.drew := by
    rcases holds with ⟨rfl, h0⟩ | ⟨b, rfl, holds⟩
    · subst h0
      have : olds = [] := List.eq_nil_of_length_eq_zero hlo
      subst this
      simp [Builtin.firstCells]
    · exact run_firstCells_some (P := P) w.drew 1 sLen b sLen sCap olds (by omega) (by simpa using holds)
  simp [Builtin.append_, run_underlying ht, run_underlying hu, sizeOf, typeInfo, zeroValue, hi, hz, hsz, hw, asInt, asIntOf, hneg, hbig, hn, h63', h48', hm', Question.forced, hfo, newRow, grownCap, hzc, zeroCells_rep]
theorem run_appendZ {P : Program} (w : World) (base : Nat) (t u ty e : TypeId) (i : TypeInfo) (ku : IntKind) (z : Value) (ht : P.underlying t = some (.slice e)) (hu : P.underlying u = some (.int ku)) (hi : P.info? e = some i) (hz : i.zero = some z) (hsz : i.size = 1) (hzc : z.cells = #[z]) (h1 : z.oneCell' = true)
    (v : Value) (n : Nat) (xs : List Value) (hown : OwnR w base e 1 v n xs) (m : Nat) (h63 : n + m ≤ maxLen) (hbytes : (n + m) * i.bytes ≤ 140737488355328) (hm : m ≤ 140737488355328) (hbase : base ≤ w.heap.size) :
    ∃ v' w', (Builtin.append_ #[t, u] ty #[v, .int .i64 (m : Int)]).run P w = .ok v' w' ∧ OwnR w' base e 1 v' (n + m) (xs ++ List.replicate m z) ∧ w.grownBy w' v.ownBlock ∧ (v'.ownBlock = v.ownBlock ∨ v'.ownBlock = some w.heap.size) := by
  have hmb : m * i.bytes ≤ 281474976710656 := by
    have : m * i.bytes ≤ (n + m) * i.bytes := Nat.mul_le_mul_right _ (by omega)
    omega
  rcases Nat.eq_zero_or_pos m with h0 | hm0
  · subst h0
    rcases hown.2 with ⟨rfl, hn⟩ | ⟨g, cap, cur, rfl, hbg, hgc, hnc, hcm, hcs, htake⟩
    · subst hn
      exact ⟨_, w, run_appendZ0 w t u ty e i ku ht hu hi none 0 0 (Nat.le_refl _), by simpa using hown, World.grownBy.refl _ _, .inl rfl⟩
    · exact ⟨_, w, run_appendZ0 w t u ty e i ku ht hu hi _ _ _ hnc, by simpa using hown, World.grownBy.refl _ _, .inl rfl⟩
  · have hl : (List.replicate m z).length = m := List.length_replicate
    have grow : ∀ (A : Option Addr) (cap : Nat), v = .slice A n cap → cap < n + m → cap ≤ maxLen → ((A = none ∧ n = 0) ∨ ∃ b, A = some b ∧ ∀ j u, xs[j]? = some u → w.cell? (b.add j) = some u) →
        ∃ v' w', (Builtin.append_ #[t, u] ty #[v, .int .i64 (m : Int)]).run P w = .ok v' w' ∧ OwnR w' base e 1 v' (n + m) (xs ++ List.replicate m z) ∧ w.grownBy w' v.ownBlock ∧ (v'.ownBlock = v.ownBlock ∨ v'.ownBlock = some w.heap.size) := by
      intro A cap hv hcap hcm hA
      subst hv
      have h2 := run_appendZ_grow (P := P) w t u ty e i ku z ht hu hi hz hsz hzc A n cap xs (by have := hown.1; omega) hA m hm0 hm hmb hcap (by simp only [maxLen] at h63; omega) (growslice_fits (by omega) hbytes)
      have hge := grownCap_ge w (n + m) cap e
      have hlen : (xs ++ List.replicate m z).length = n + m := by rw [List.length_append, hown.1, hl]; omega
      have hgb : ∀ row, w.grownBy (w.drew.alloc (.cells (xs.toArray ++ (List.replicate m z).toArray ++ Builtin.zeroCells z.cells (grownCap w (n + m) cap e - (n + m))) e)) row := fun row => ⟨rfl, rfl, rfl, by simp, fun k hk _ => Below.heap_alloc w.drew _ k hk⟩
      refine ⟨_, _, h2, ⟨by rw [hlen, Nat.mul_one], .inr ⟨w.heap.size, _, _, rfl, hbase, World.alloc_heap_new w.drew _, hge, grownCap_le_maxLen w (n + m) cap e h63, ?_, ?_⟩⟩, hgb _, .inr rfl⟩
      · have hx := hown.1
        simp only [Array.size_append, List.size_toArray, size_zeroCells, hzc, hl]
        simp only [List.size_toArray, List.length_cons, List.length_nil]
        omega
      · simp only [Array.toList_append, List.append_assoc]
        rw [← List.append_assoc, Nat.mul_one, ← hlen]
        exact List.take_left
    rcases hown.2 with ⟨rfl, hn⟩ | ⟨g, cap, cur, rfl, hbg, hgc, hnc, hcm, hcs, htake⟩
    · subst hn
      exact grow none 0 rfl (by omega) (by simp [maxLen]) (.inl ⟨rfl, rfl⟩)
    · by_cases hroom : n + m ≤ cap
      · have hx := hown.1
        have h2 := run_appendZ_room (P := P) w t u ty e i ku z ht hu hi hz hsz hzc h1 g n cap cur hgc m hm0 hm hmb hroom (by omega)
        rw [Nat.mul_one] at htake
        refine ⟨_, _, h2, ⟨by rw [List.length_append, hl]; omega, .inr ⟨g, cap, _, rfl, hbg, setRow_heap w g cur _ e _ hgc, hroom, hcm, ?_, ?_⟩⟩, ⟨rfl, rfl, rfl, by simp, fun k _ hk => setRow_other w g k _ (fun e => hk (by simp [Value.ownBlock, e]))⟩, .inl rfl⟩
        · simp only [List.size_toArray, List.length_append, List.length_take, List.length_drop, Array.length_toList, hl]
          omega
        · rw [htake, Nat.mul_one]
          rw [List.take_append_of_le_length (by rw [List.length_append, hl]; omega), List.take_of_length_le (by rw [List.length_append, hl]; omega)]
      · exact grow _ cap rfl (by omega) hcm (.inr ⟨_, rfl, hown.cells⟩)
section steps
variable {r : Option Nat} {P : Program} {T : List (Nat × TI)} {ops : Array Oper} {Q : Exit → Act → World → Prop} {rest : List Oper} {n : Nat} {s : List (Nat × Value)} {τ : Nat → Value} {ds : List Deferred} {w : World}
  {ty : TypeId} {ps : String} {af : Array Edge} {d : Nat} {W : World} {L : List HProp} {α : Type}
theorem LW_appendZ (i : Nat) {enc : α → List Value} (hE : ∀ x, (enc x).length = 1) {xs : List α} (zz : α) {A : Option Addr} {c : Nat} {m : Int} {x y : Operand} {t u e : TypeId} {ti tu te : TI} {ku : IntKind} (hs : Sat W w L) (hT : TyOK P T) (hx : EVO n s x = some (.slice A xs.length c)) (hy : EVO n s y = some (.int .i64 m)) (h0 : 0 ≤ m)
    (ht : lookT T t = some ti) (hu : ti.u = .slice e) (hut : lookT T u = some tu) (huu : tu.u = .int ku) (he : lookT T e = some te) (hsz : te.size = 1) (hzc : te.zero.cells = #[te.zero]) (h1 : te.zero.oneCell' = true) (henc : enc zz = [te.zero]) (hi : getA L i = some (RowOf enc e 1 A c xs))
    (hlen : xs.length + m.toNat ≤ maxLen) (hby : (xs.length + m.toNat) * te.bytes ≤ 140737488355328) (hm : m.toNat ≤ 140737488355328)
    (k : ∀ A' c' w', Sat W w' (L.set i (RowOf enc e 1 A' c' (xs ++ List.replicate m.toNat zz))) → LW r P ops Q rest (FR n ((d, .slice A' (xs ++ List.replicate m.toNat zz).length c') :: s) τ ds) w') :
    LW r P ops Q (⟨some d, .call { callee := .builtin .append, args := #[x, y], argTypes := #[t, u] }, ty, ps, af, none⟩ :: rest) (FR n s τ ds) w := by
  have hi' : L[i]? = some (RowOf enc e 1 A c xs) := by rw [← getA_eq]; exact hi
  have hown := hs.row i hi
  have hf := hs.front i hi'
  obtain ⟨hu1, f, hf1, hf2, hf3, hf4⟩ := ty_info (hT _ _ ht)
  obtain ⟨hu2, fe, hfe, hfe2, hfe3, hfe4⟩ := ty_info (hT _ _ he)
  obtain ⟨hu3, _⟩ := ty_info (hT _ _ hut)
  rw [hu] at hu1
  rw [huu] at hu3
  obtain ⟨v', w', hrun, hown', hg, hat⟩ := run_appendZ (P := P) w W.heap.size t u ty e fe ku te.zero hu1 hu3 hfe hfe2 (by rw [hfe3, hsz]) hzc h1 (.slice A xs.length c) xs.length (xs.flatMap enc) hown m.toNat hlen (by rw [hfe4]; exact hby) hm hs.size
  obtain ⟨A', c', rfl, hs'⟩ := hf.rowTurn hown' hg hat
  have hrep : List.replicate m.toNat te.zero = (List.replicate m.toNat zz).flatMap enc := by
    generalize m.toNat = q
    induction q with
    | zero => rfl
    | succ q ih => rw [List.replicate_succ, List.replicate_succ, List.flatMap_cons, henc, ih]; rfl
  have hln : xs.length + m.toNat = (xs ++ List.replicate m.toNat zz).length := by simp
  rw [hrep, ← List.flatMap_append, hln] at hs'
  rw [hln, Int.toNat_of_nonneg h0] at hrun
  refine LW_run (v := .slice A' (xs ++ List.replicate m.toNat zz).length c') (w' := w') rfl (fun c e => by cases e) ?_ (by rw [put_FR]; exact k A' c' w' (Sat.back hi' hs'))
  show Sem.run P (do let d ← resolve (FR n s τ ds).eval { callee := .builtin .append, args := #[x, y], argTypes := #[t, u] } ty; invoke d.target d.args) w = _
  have e1 : (#[x, y] : Array Operand).map (FR n s τ ds).eval = #[.slice A xs.length c, .int .i64 m] := by simp [eval_of hx, eval_of hy]
  simp only [resolve, e1, Sem.run_bind, Sem.run_pure, Result.andThen, invoke, builtin, hrun]
end steps
end Go.Sl
