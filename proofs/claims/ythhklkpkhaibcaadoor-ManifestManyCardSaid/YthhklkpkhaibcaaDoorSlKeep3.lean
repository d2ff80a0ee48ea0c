/- append onto the front part of a row: where it lay (the room stays what it was), or anew. -/
import Derived.Test.YthhklkpkhaibcaaDoorSlB
set_option linter.unusedVariables false
set_option linter.unusedSimpArgs false
namespace Go.Sl
open Go.RowKit
theorem run_appendRc {P : Program} (w : World) (base : Nat) (t ty e : TypeId) (i : TypeInfo) (z : Value) (size bytes : Nat) (ht : P.underlying t = some (.slice e)) (hi : P.info? e = some i) (hz : i.zero = some z)
    (hsize : i.size = size) (hby : i.bytes = bytes) (hzs : z.cells.size = size) (hsz : 0 < size) (A : Option Addr) (n cap0 : Nat) (xs : List Value) (hown : OwnR w base e size (.slice A n cap0) n xs)
    (a : Addr) (m c : Nat) (news : List Value) (hl : news.length = m * size) (hm : 0 < m) (hnews : ∀ j u, news[j]? = some u → w.cell? (a.add j) = some u) (h1 : ∀ u ∈ news, u.oneCell' = true)
    (h63 : n + m ≤ maxLen) (hbytes : (n + m) * bytes ≤ 140737488355328) (hbase : base ≤ w.heap.size) :
    ∃ v' w', (Builtin.append_ #[t, t] ty #[.slice A n cap0, .slice (some a) m c]).run P w = .ok v' w' ∧ OwnR w' base e size v' (n + m) (xs ++ news) ∧ w.grownBy w' (Value.slice A n cap0).ownBlock ∧ (v' = .slice A (n + m) cap0 ∧ v'.ownBlock = (Value.slice A n cap0).ownBlock ∨ v'.ownBlock = some w.heap.size ∧ w.grownBy w' none) := by
  rcases hown.2 with ⟨h0, h00⟩ | ⟨g, cap, cur, h0, hbg, hgc, hnc, hcm, hcs, htake⟩
  · cases h0
    have hx : xs = [] := List.eq_nil_of_length_eq_zero (by simpa using hown.1)
    subst hx
    obtain ⟨v', w', hr, ho, hg, _, hat⟩ := run_append_own_at w base t ty e i z size bytes ht hi hz hsize hby hzs hsz (.slice none 0 0) 0 [] (World.ownsRow_nil w base e size) a m c news hl hnews h1 h63 hbytes hbase
    have ho' : OwnR w' base e size v' (0 + m) ([] ++ news) := .of ho
    refine ⟨v', w', hr, ho', hg, ?_⟩
    rcases hat with hat | hat
    · exfalso
      rcases ho'.2 with ⟨_, h2⟩ | ⟨g, cap, cur, h2, _⟩
      · omega
      · subst h2; simp [Value.ownBlock] at hat
    · exact .inr ⟨hat, hg⟩
  · cases h0
    subst hsize
    by_cases hroom : n + m ≤ cap0
    · have hfit : n * i.size + news.length ≤ cur.size := Nat.le_trans (by rw [hl, ← Nat.add_mul]; exact Nat.mul_le_mul_right _ hroom) hcs
      have h2 := run_append_room (P := P) w t ty e i ht hi g n cap0 cur hgc a m c news hl hnews h1 hroom hfit
      refine ⟨_, _, h2, ⟨by rw [List.length_append, hown.1, hl, Nat.add_mul], .inr ⟨g, cap0, _, rfl, hbg, setRow_heap w g cur _ e _ hgc, hroom, hcm, ?_, ?_⟩⟩, ⟨rfl, rfl, rfl, by simp, fun k _ hk => setRow_other w g k _ (fun e => hk (by simp [Value.ownBlock, e]))⟩, .inl ⟨rfl, rfl⟩⟩
      · simp only [List.size_toArray, List.length_append, List.length_take, List.length_drop, Array.length_toList]
        omega
      · rw [htake, List.take_append_of_le_length (by rw [List.length_append, hown.1, hl, Nat.add_mul]; omega), List.take_of_length_le (by rw [List.length_append, hown.1, hl, Nat.add_mul]; omega)]
    · have h2 := run_append_grow (P := P) w t ty e i z ht hi hz ⟨g, 0, none⟩ n cap0 xs hown.1 hown.cells a m c news hl hnews (by omega) (by simp only [maxLen] at h63; omega) (growslice_fits (by omega) (by rw [hby]; exact hbytes))
      have hge := grownCap_ge w (n + m) cap0 e
      have hlen : (xs ++ news).length = (n + m) * i.size := by rw [List.length_append, hown.1, hl, Nat.add_mul]
      have hgb : ∀ row, w.grownBy (w.drew.alloc (.cells (xs.toArray ++ news.toArray ++ Builtin.zeroCells z.cells (grownCap w (n + m) cap0 e - (n + m))) e)) row := fun row => ⟨rfl, rfl, rfl, by simp, fun k hk _ => Below.heap_alloc w.drew _ k hk⟩
      refine ⟨_, _, h2, ⟨hlen, .inr ⟨w.heap.size, _, _, rfl, hbase, World.alloc_heap_new w.drew _, hge, grownCap_le_maxLen w (n + m) cap0 e h63, ?_, ?_⟩⟩, hgb _, .inr ⟨rfl, hgb _⟩⟩
      · simp only [Array.size_append, List.size_toArray, size_zeroCells, hzs, hown.1, hl, ← Nat.add_mul]
        exact Nat.mul_le_mul_right _ (by omega)
      · simp only [Array.toList_append, List.append_assoc]
        rw [← List.append_assoc, ← hlen]
        exact List.take_left
section
variable {W w : World} {L R : List HProp} {e : TypeId} {sz n N c : Nat} {A : Option Addr} {cells : List Value}
theorem Sat.rowKeepLc {w' : World} (hs : Sat W w (Row e sz A N c cells :: R)) (h1 : n ≤ N) (h2 : n ≤ c) {n' : Nat} {v' : Value} {cells' : List Value} (hown : OwnR w' W.heap.size e sz v' n' cells')
    (hg : w.grownBy w' (Value.slice A n c).ownBlock) (hat : v' = .slice A n' c ∧ v'.ownBlock = (Value.slice A n c).ownBlock ∨ v'.ownBlock = some w.heap.size ∧ w.grownBy w' none) :
    (v' = .slice A n' c ∧ Sat W w' (Row e sz A n' c cells' :: R)) ∨ ∃ A' c', v' = .slice A' n' c' ∧ Sat W w' (Row e sz A N c cells :: Row e sz A' n' c' cells' :: R) := by
  rcases hat with ⟨hv, hat⟩ | ⟨hat, hg2⟩
  · have hs := hs.cutFront h1 h2
    obtain ⟨A', c', h1, h2⟩ := hs.rowTurn hown hg (.inl hat)
    left
    refine ⟨hv, ?_⟩
    rw [hv] at h1; cases h1
    exact h2
  · obtain ⟨A', c', h1, h2⟩ := (hs.nilRow e sz).rowTurn hown hg2 (.inr hat)
    exact .inr ⟨A', c', h1, h2.picks [1]⟩
end
/-- A row full of one mark, and slices of it that were lengthened by the mark: each lies in the row, or has a row of its own. -/
def MkOK {α : Type} (enc : α → List Value) (e : TypeId) (A : Option Addr) (k : Nat) (m : α) (A' : Option Addr) (n' c' : Nat) (Z : List HProp) : Prop :=
  (A' = A ∧ n' ≤ k) ∨ Z = [RowOf enc e 1 A' c' (List.replicate n' m)]
section steps
variable {r : Option Nat} {P : Program} {T : List (Nat × TI)} {ops : Array Oper} {Q : Exit → Act → World → Prop} {rest : List Oper} {n : Nat} {s : List (Nat × Value)} {τ : Nat → Value} {ds : List Deferred} {w : World}
  {ty : TypeId} {ps : String} {af : Array Edge} {d : Nat} {W : World} {L : List HProp} {α : Type} {e' : TypeId}
/-- append of j marks onto the front part (nn elements) of a row of marks. -/
theorem LW_appendM (i1 i2 : Nat) {enc : α → List Value} (hE : (∀ x, (enc x).length = 1) ∧ ∀ x, ∀ u ∈ enc x, u.oneCell' = true) {mk : α} {k : Nat} {A : Option Addr} {c bx m nn : Nat} {x y : Operand} {t e : TypeId} {ti te : TI} {cs : List Value} (hs : Sat W w L) (hT : TyOK P T) (hx : EVO n s x = some (.slice A nn c)) (hy : EVO n s y = some (.slice (some ⟨bx, 0, none⟩) m m))
    (hi1 : getA L i1 = some (Cl bx cs e')) (hcs : (List.replicate m mk).flatMap enc = cs) (hi2 : getA (L.eraseIdx i1) i2 = some (RowOf enc e 1 A c (List.replicate k mk))) (hn : nn ≤ k) (hk : k ≤ nn + m) (hm : 0 < m) (hnc : nn ≤ c)
    (ht : lookT T t = some ti) (hu : ti.u = .slice e) (he : lookT T e = some te) (hsz : te.size = 1) (hzc : te.zero.cells.size = te.size)
    (hlen : nn + m ≤ maxLen) (hby : (nn + m) * te.bytes ≤ 140737488355328)
    (kk : ∀ A' c' k' Z w', k ≤ k' → k' ≤ nn + m → MkOK enc e A k' mk A' (nn + m) c' Z → Sat W w' (RowOf enc e 1 A c (List.replicate k' mk) :: Big Z :: ((L.eraseIdx i1).eraseIdx i2)) → LW r P ops Q rest (FR n ((d, .slice A' (nn + m) c') :: s) τ ds) w') :
    LW r P ops Q (⟨some d, .call { callee := .builtin .append, args := #[x, y], argTypes := #[t, t] }, ty, ps, af, none⟩ :: rest) (FR n s τ ds) w := by
  rw [getA_eq] at hi1 hi2
  have hs0 := hs.front i1 hi1
  have hcells := (hs0.at 0 rfl).2
  have hs' : Sat W w (RowOf enc e 1 A c (List.replicate k mk) :: ((L.eraseIdx i1).eraseIdx i2)) := hs0.drop1.front i2 hi2
  subst hcs
  have hxl : (List.replicate k mk).length = k := List.length_replicate
  have hcut : ((List.replicate k mk).flatMap enc).take (nn * 1) = (List.replicate nn mk).flatMap enc := by
    have h1 : List.replicate k mk = List.replicate nn mk ++ List.replicate (k - nn) mk := by rw [List.replicate_append_replicate]; congr 1; omega
    rw [h1, List.flatMap_append, List.take_left' (by rw [flat_len hE.1, List.length_replicate])]
  have hown := (hs'.cutFront (n := nn) (by rw [hxl]; exact hn) hnc).row0
  rw [hcut] at hown
  obtain ⟨hu1, f, hf1, hf2, hf3, hf4⟩ := ty_info (hT _ _ ht)
  obtain ⟨hu2, fe, hfe, hfe2, hfe3, hfe4⟩ := ty_info (hT _ _ he)
  rw [hu] at hu1
  obtain ⟨v', w', hrun, hown', hg, hat⟩ := run_appendRc (P := P) w W.heap.size t ty e fe te.zero 1 te.bytes hu1 hfe hfe2 (by rw [hfe3, hsz]) hfe4 (by rw [hzc, hsz]) (by omega) A nn c ((List.replicate nn mk).flatMap enc) hown ⟨bx, 0, none⟩ m m ((List.replicate m mk).flatMap enc) (by rw [flat_len hE.1, List.length_replicate]) hm
        (fun j u h => by
          have e : (⟨bx, 0, none⟩ : Addr).add j = ⟨bx, 0 + j, none⟩ := by unfold Addr.add; split <;> simp_all
          rw [e, hs0.cell 0 rfl (0 + j), Nat.zero_add]; exact h) (fun u h => by obtain ⟨x, _, hx⟩ := List.mem_flatMap.1 h; exact hE.2 x u hx) hlen hby hs.size
  have hcat : (List.replicate nn mk).flatMap enc ++ (List.replicate m mk).flatMap enc = (List.replicate (nn + m) mk).flatMap enc := by rw [← List.flatMap_append, List.replicate_append_replicate]
  rw [hcat] at hown'
  have hxl2 : (List.replicate (nn + m) mk).length = nn + m := List.length_replicate
  have key : ∃ A' c' k' Z, v' = .slice A' (nn + m) c' ∧ k ≤ k' ∧ k' ≤ nn + m ∧ MkOK enc e A k' mk A' (nn + m) c' Z ∧ Sat W w' (RowOf enc e 1 A c (List.replicate k' mk) :: Big Z :: ((L.eraseIdx i1).eraseIdx i2)) := by
    rcases hs'.rowKeepLc (by rw [hxl]; exact hn) hnc hown' hg hat with ⟨rfl, hs2⟩ | ⟨A', c', rfl, hs2⟩
    · refine ⟨A, c, nn + m, [], rfl, hk, Nat.le_refl _, .inl ⟨rfl, Nat.le_refl _⟩, ?_⟩
      have h3 : Sat W w' (Big [] :: Row e 1 A (nn + m) c ((List.replicate (nn + m) mk).flatMap enc) :: ((L.eraseIdx i1).eraseIdx i2)) := Sat.mkBig (l := []) hs2
      show Sat W w' (Row e 1 A (List.replicate (nn + m) mk).length c _ :: _)
      rw [hxl2]
      exact h3.picks [1]
    · refine ⟨A', c', k, [RowOf enc e 1 A' c' (List.replicate (nn + m) mk)], rfl, Nat.le_refl _, hk, .inr rfl, ?_⟩
      have h3 : Sat W w' (Row e 1 A' (List.replicate (nn + m) mk).length c' ((List.replicate (nn + m) mk).flatMap enc) :: RowOf enc e 1 A c (List.replicate k mk) :: ((L.eraseIdx i1).eraseIdx i2)) := by
        rw [hxl2]; exact hs2.picks [1]
      have h4 : Sat W w' (Big [RowOf enc e 1 A' c' (List.replicate (nn + m) mk)] :: RowOf enc e 1 A c (List.replicate k mk) :: ((L.eraseIdx i1).eraseIdx i2)) := Sat.mkBig (l := [_]) h3
      exact h4.picks [1]
  obtain ⟨A', c', k', Z, rfl, hk1, hk2, hZ, hs3⟩ := key
  refine LW_run (v := .slice A' (nn + m) c') (w' := w') rfl (fun c e => by cases e) ?_ (by rw [put_FR]; exact kk A' c' k' Z w' hk1 hk2 hZ hs3)
  show Sem.run P (do let d ← resolve (FR n s τ ds).eval { callee := .builtin .append, args := #[x, y], argTypes := #[t, t] } ty; invoke d.target d.args) w = _
  have e1 : (#[x, y] : Array Operand).map (FR n s τ ds).eval = #[.slice A nn c, .slice (some ⟨bx, 0, none⟩) m m] := by simp [eval_of hx, eval_of hy]
  simp only [resolve, e1, Sem.run_bind, Sem.run_pure, Result.andThen, invoke, builtin, hrun]
end steps
theorem rep_take {α : Type} {n k : Nat} (h : n ≤ k) (m : α) : List.replicate n m <+: List.replicate k m := ⟨List.replicate (k - n) m, by rw [List.replicate_append_replicate]; congr 1; omega⟩
/-- So each reads as marks in all its places. -/
theorem MkOK.rd {α : Type} {enc : α → List Value} {e : TypeId} {A A' : Option Addr} {k n' c' c : Nat} {m : α} {Z L : List HProp} {W w : World} (h : MkOK enc e A k m A' n' c' Z) (hs : Sat W w (RowOf enc e 1 A c (List.replicate k m) :: Big Z :: L)) : Rd enc w A' (List.replicate n' m) := by
  rcases h with ⟨rfl, h⟩ | rfl
  · exact (hs.rd 0 rfl).ahead (rep_take h m)
  · have h2 : Sat W w (RowOf enc e 1 A' c' (List.replicate n' m) :: RowOf enc e 1 A c (List.replicate k m) :: L) := Sat.big (l := [_]) (hs.picks [1])
    exact h2.rd 0 rfl
end Go.Sl
