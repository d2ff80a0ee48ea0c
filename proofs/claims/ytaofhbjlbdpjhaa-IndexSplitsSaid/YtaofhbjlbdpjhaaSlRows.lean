/- Slices: what may be read of them, and those that a call owns. -/
import Derived.Test.YtaofhbjlbdpjhaaSlBuild
set_option linter.unusedVariables false
set_option linter.unusedSimpArgs false
namespace Go.Sl
open Go.RowKit

section rd
variable {α : Type}
/-- A slice that reads as xs, each element by its cells. -/
def Rd (enc : α → List Value) (w : World) (A : Option Addr) (xs : List α) : Prop :=
  xs = [] ∨ ∃ b o, A = some ⟨b, o, none⟩ ∧ ∀ j v, (xs.flatMap enc)[j]? = some v → w.cell? ⟨b, o + j, none⟩ = some v
theorem Rd.nil (enc : α → List Value) (w : World) (A : Option Addr) : Rd enc w A [] := .inl rfl
theorem Rd.more {enc : α → List Value} {w w' : World} {A : Option Addr} {xs : List α} (h : Rd enc w A xs) (hb : Below w.heap.size w w') : Rd enc w' A xs := by
  rcases h with h | ⟨b, o, hA, h⟩
  · exact .inl h
  · exact .inr ⟨b, o, hA, fun j v hj => (hb.cell (World.block_lt_of_cell? w _ (h j v hj))).trans (h j v hj)⟩
theorem Rd.of {enc : α → List Value} {W w : World} {L : List HProp} {A : Option Addr} {xs : List α} (h : Rd enc W A xs) (hs : Sat W w L) : Rd enc w A xs := h.more hs.below
theorem flat_get {enc : α → List Value} {sz : Nat} (hz : ∀ x, (enc x).length = sz) : ∀ {xs : List α} {i k : Nat} {x : α} {v : Value}, xs[i]? = some x → (enc x)[k]? = some v → (xs.flatMap enc)[i * sz + k]? = some v
  | [], i, k, x, v, h, _ => by simp at h
  | y :: xs, 0, k, x, v, h, hk => by
    simp at h; subst h
    rw [List.flatMap_cons, Nat.zero_mul, Nat.zero_add, List.getElem?_append_left (List.getElem?_eq_some_iff.1 hk).1]; exact hk
  | y :: xs, i + 1, k, x, v, h, hk => by
    rw [List.flatMap_cons, List.getElem?_append_right (by rw [hz, Nat.add_mul]; omega)]
    rw [show (i + 1) * sz + k - (enc y).length = i * sz + k by rw [hz, Nat.add_mul]; omega]
    exact flat_get hz (by simpa using h) hk
def rd [Inhabited α] (xs : List α) (i : Int) : α := xs.getD i.toNat default
theorem rd_get [Inhabited α] {xs : List α} {i : Int} (h0 : 0 ≤ i) (h1 : i < xs.length) : xs[i.toNat]? = some (rd xs i) := by
  have : i.toNat < xs.length := by omega
  simp [rd, this]
theorem Rd.cell [Inhabited α] {enc : α → List Value} {sz : Nat} (hz : ∀ x, (enc x).length = sz) {w : World} {A : Option Addr} {xs : List α} (h : Rd enc w A xs) {b o : Nat} (hA : A = some ⟨b, o, none⟩) {i : Int} (h0 : 0 ≤ i) (h1 : i < xs.length) {k : Nat} {v : Value} (hk : getA (enc (rd xs i)) k = some v) :
    w.cell? ⟨b, o + i.toNat * sz + k, none⟩ = some v := by
  rcases h with h | ⟨b', o', hA', h⟩
  · subst h; simp at h1; omega
  · rw [hA] at hA'; cases hA'
    rw [getA_eq] at hk
    have := h (i.toNat * sz + k) v (flat_get hz (rd_get h0 h1) hk)
    rw [Nat.add_assoc]; exact this
theorem Rd.some [Inhabited α] {enc : α → List Value} {w : World} {A : Option Addr} {xs : List α} (h : Rd enc w A xs) {i : Int} (h0 : 0 ≤ i) (h1 : i < xs.length) : ∃ b o, A = some ⟨b, o, none⟩ := by
  rcases h with h | ⟨b', o', hA', h⟩
  · subst h; simp at h1; omega
  · exact ⟨_, _, hA'⟩
theorem flat_len {enc : α → List Value} {sz : Nat} (hz : ∀ x, (enc x).length = sz) (xs : List α) : (xs.flatMap enc).length = xs.length * sz := by
  induction xs with
  | nil => simp
  | cons x xs ih => simp [hz, ih, Nat.add_mul]; omega
end rd

/-- A value that is a row from its block's start on, behind which there may be more. -/
def OwnR (w : World) (base : Nat) (e : TypeId) (size : Nat) (v : Value) (n : Nat) (xs : List Value) : Prop :=
  xs.length = n * size ∧ ((v = .slice none 0 0 ∧ n = 0) ∨ ∃ g cap cur, v = .slice (some ⟨g, 0, none⟩) n cap ∧ base ≤ g ∧ w.heap[g]? = some (.cells cur e (0, 0)) ∧ n ≤ cap ∧ cap ≤ maxLen ∧ cap * size ≤ cur.size ∧ cur.toList.take (n * size) = xs)
theorem OwnR.of {w : World} {base : Nat} {e : TypeId} {size n : Nat} {v : Value} {xs : List Value} (h : w.ownsRow base e size v n xs) : OwnR w base e size v n xs := by
  refine ⟨h.1, ?_⟩
  rcases h.2 with h | ⟨g, cap, cur, h1, h2, h3, h4, h5, h6, h7⟩
  · exact .inl h
  · exact .inr ⟨g, cap, cur, h1, h2, h3, h4, h5, by omega, h7⟩
theorem OwnR.cells {w : World} {base : Nat} {e : TypeId} {size n g cap : Nat} {xs : List Value} (h : OwnR w base e size (.slice (some ⟨g, 0, none⟩) n cap) n xs) : ∀ j u, xs[j]? = some u → w.cell? ((⟨g, 0, none⟩ : Addr).add j) = some u := by
  intro j u hj
  rcases h.2 with ⟨h1, _⟩ | ⟨g', cap', cur, h1, h2, h3, h4, h5, h6, h7⟩
  · cases h1
  · cases h1
    have e1 : (⟨g, 0, none⟩ : Addr).add j = ⟨g, j, none⟩ := by unfold Addr.add; split <;> simp_all
    rw [e1]
    rw [← h7, List.getElem?_take] at hj
    split at hj
    · simp only [World.cell?, h3]; simpa using hj
    · cases hj
theorem run_appendR {P : Program} (w : World) (base : Nat) (t ty e : TypeId) (i : TypeInfo) (z : Value) (size bytes : Nat) (ht : P.underlying t = some (.slice e)) (hi : P.info? e = some i) (hz : i.zero = some z)
    (hsize : i.size = size) (hby : i.bytes = bytes) (hzs : z.cells.size = size) (hsz : 0 < size) (v : Value) (n : Nat) (xs : List Value) (hown : OwnR w base e size v n xs)
    (a : Addr) (m c : Nat) (news : List Value) (hl : news.length = m * size) (hnews : ∀ j u, news[j]? = some u → w.cell? (a.add j) = some u) (h1 : ∀ u ∈ news, u.oneCell' = true)
    (h63 : n + m ≤ maxLen) (hbytes : (n + m) * bytes ≤ 140737488355328) (hbase : base ≤ w.heap.size) :
    ∃ v' w', (Builtin.append_ #[t, t] ty #[v, .slice (some a) m c]).run P w = .ok v' w' ∧ OwnR w' base e size v' (n + m) (xs ++ news) ∧ w.grownBy w' v.ownBlock ∧ (v'.ownBlock = v.ownBlock ∨ v'.ownBlock = some w.heap.size ∧ w.grownBy w' none) := by
  rcases hown.2 with ⟨rfl, rfl⟩ | ⟨g, cap, cur, rfl, hbg, hgc, hnc, hcm, hcs, htake⟩
  · have hx : xs = [] := List.eq_nil_of_length_eq_zero (by simpa using hown.1)
    subst hx
    obtain ⟨v', w', hr, ho, hg, _, hat⟩ := run_append_own_at w base t ty e i z size bytes ht hi hz hsize hby hzs hsz (.slice none 0 0) 0 [] (World.ownsRow_nil w base e size) a m c news hl hnews h1 h63 hbytes hbase
    exact ⟨v', w', hr, .of ho, hg, hat.imp id fun h => ⟨h, hg⟩⟩
  · subst hsize
    by_cases hroom : n + m ≤ cap
    · have hfit : n * i.size + news.length ≤ cur.size := Nat.le_trans (by rw [hl, ← Nat.add_mul]; exact Nat.mul_le_mul_right _ hroom) hcs
      have h2 := run_append_room (P := P) w t ty e i ht hi g n cap cur hgc a m c news hl hnews h1 hroom hfit
      refine ⟨_, _, h2, ⟨by rw [List.length_append, hown.1, hl, Nat.add_mul], .inr ⟨g, cap, _, rfl, hbg, setRow_heap w g cur _ e _ hgc, hroom, hcm, ?_, ?_⟩⟩, ⟨rfl, rfl, rfl, by simp, fun k _ hk => setRow_other w g k _ (fun e => hk (by simp [Value.ownBlock, e]))⟩, .inl rfl⟩
      · simp only [List.size_toArray, List.length_append, List.length_take, List.length_drop, Array.length_toList]
        omega
      · rw [htake, List.take_append_of_le_length (by rw [List.length_append, hown.1, hl, Nat.add_mul]; omega), List.take_of_length_le (by rw [List.length_append, hown.1, hl, Nat.add_mul]; omega)]
    · have h2 := run_append_grow (P := P) w t ty e i z ht hi hz ⟨g, 0, none⟩ n cap xs hown.1 hown.cells a m c news hl hnews (by omega) (by simp only [maxLen] at h63; omega) (growslice_fits (by omega) (by rw [hby]; exact hbytes))
      have hge := grownCap_ge w (n + m) cap e
      have hlen : (xs ++ news).length = (n + m) * i.size := by rw [List.length_append, hown.1, hl, Nat.add_mul]
      have hgb : ∀ row, w.grownBy (w.drew.alloc (.cells (xs.toArray ++ news.toArray ++ Builtin.zeroCells z.cells (grownCap w (n + m) cap e - (n + m))) e)) row := fun row => ⟨rfl, rfl, rfl, by simp, fun k hk _ => Below.heap_alloc w.drew _ k hk⟩
      refine ⟨_, _, h2, ⟨hlen, .inr ⟨w.heap.size, _, _, rfl, hbase, World.alloc_heap_new w.drew _, hge, grownCap_le_maxLen w (n + m) cap e h63, ?_, ?_⟩⟩, hgb _, .inr ⟨rfl, hgb _⟩⟩
      · simp only [Array.size_append, List.size_toArray, size_zeroCells, hzs, hown.1, hl, ← Nat.add_mul]
        exact Nat.mul_le_mul_right _ (by omega)
      · simp only [Array.toList_append, List.append_assoc]
        rw [← List.append_assoc, ← hlen]
        exact List.take_left

/-- A row of the call's own: the slice '.slice A n c', whose elements take the cells told. -/
def Row (e : TypeId) (sz : Nat) (A : Option Addr) (n c : Nat) (cells : List Value) : HProp := fun h =>
  cells.length = n * sz ∧ ((A = none ∧ n = 0 ∧ c = 0) ∨ ∃ b spare, A = some ⟨b, 0, none⟩ ∧ n ≤ c ∧ c ≤ maxLen ∧ c * sz ≤ (cells ++ spare).length ∧ h b = some (.cells (cells ++ spare).toArray e (0, 0)))
/-- The same, its elements read as xs. -/
abbrev RowOf {α : Type} (enc : α → List Value) (e : TypeId) (sz : Nat) (A : Option Addr) (c : Nat) (xs : List α) : HProp := Row e sz A xs.length c (xs.flatMap enc)

section
variable {W w : World} {L R : List HProp} {e : TypeId} {sz n c : Nat} {A : Option Addr} {cells : List Value}
theorem Row.nil (h : Frag) : Row e sz none 0 0 [] h := ⟨by simp, .inl ⟨rfl, rfl, rfl⟩⟩
theorem Sat.nilRow (hs : Sat W w L) (e : TypeId) (sz : Nat) : Sat W w (Row e sz none 0 0 [] :: L) :=
  ⟨hs.below, fun _ => none, _, fun _ => .inl rfl, fun _ _ h => (by cases h), Frag.le.refl _, Row.nil _, hs.sep⟩
theorem Sat.row0 (hs : Sat W w (Row e sz A n c cells :: R)) : OwnR w W.heap.size e sz (.slice A n c) n cells := by
  obtain ⟨h1, h2, _, l1, _, ⟨hl, h⟩, _⟩ := hs.sep
  refine ⟨hl, ?_⟩
  rcases h with ⟨rfl, rfl, rfl⟩ | ⟨b, spare, rfl, hnc, hcm, hlen, hb⟩
  · exact .inl ⟨rfl, rfl⟩
  · obtain ⟨hB, hw⟩ := frg_some (l1 _ _ hb)
    refine .inr ⟨b, c, _, rfl, hB, hw, hnc, hcm, by simpa using hlen, ?_⟩
    rw [← hl]; simp
theorem Sat.row (hs : Sat W w L) (i : Nat) (hi : getA L i = some (Row e sz A n c cells)) : OwnR w W.heap.size e sz (.slice A n c) n cells := by
  rw [getA_eq] at hi
  exact (hs.front i hi).row0
/-- A row is turned for another that lies where it lay or is new. -/
theorem Sat.rowTurn {w' : World} (hs : Sat W w (Row e sz A n c cells :: R)) {n' : Nat} {v' : Value} {cells' : List Value} (hown : OwnR w' W.heap.size e sz v' n' cells')
    (hg : w.grownBy w' (Value.slice A n c).ownBlock) (hat : v'.ownBlock = (Value.slice A n c).ownBlock ∨ v'.ownBlock = some w.heap.size) :
    ∃ A' c', v' = .slice A' n' c' ∧ Sat W w' (Row e sz A' n' c' cells' :: R) := by
  obtain ⟨h1, h2, hd, l1, l2, ⟨hl, h⟩, hR⟩ := hs.sep
  have hbelow : Below W.heap.size W w' := by
    refine hs.below.grown hg hs.size fun k hk => ?_
    rcases h with ⟨rfl, rfl, rfl⟩ | ⟨b, spare, rfl, _, _, _, hb⟩
    · simp [Value.ownBlock] at hk
    · simp [Value.ownBlock] at hk; subst hk; exact (frg_some (l1 _ _ hb)).1
  have hR2 : Frag.le h2 (frg W.heap.size w') := by
    intro x y hx
    obtain ⟨hB, hw⟩ := frg_some (l2 _ _ hx)
    refine frg_mk hB ((hg.block x (block_lt hw) ?_).trans hw)
    rcases h with ⟨rfl, rfl, rfl⟩ | ⟨b, spare, rfl, _, _, _, hb⟩
    · simp [Value.ownBlock]
    · simp only [Value.ownBlock]
      intro hxb; cases hxb
      rcases hd x with q | q
      · rw [hb] at q; cases q
      · rw [hx] at q; cases q
  obtain ⟨hl', hv⟩ := hown
  rcases hv with ⟨rfl, rfl⟩ | ⟨g, cap, cur, rfl, hB, hcur, hnc, hcm, hcs, htk⟩
  · exact ⟨none, 0, rfl, hbelow, fun _ => none, h2, fun _ => .inl rfl, fun _ _ h => (by cases h), hR2, ⟨hl', .inl ⟨rfl, rfl, rfl⟩⟩, hR⟩
  · refine ⟨some ⟨g, 0, none⟩, cap, rfl, hbelow, fun x => if x = g then some (.cells cur e (0, 0)) else none, h2, ?_, ?_, hR2, ⟨hl', .inr ⟨g, cur.toList.drop (n' * sz), rfl, hnc, hcm, ?_, ?_⟩⟩, hR⟩
    · intro x
      by_cases hx : x = g
      · subst hx
        refine .inr ?_
        cases hh : h2 x with
        | none => rfl
        | some o =>
          exfalso
          obtain ⟨_, hw⟩ := frg_some (l2 _ _ hh)
          have hlt := block_lt hw
          rcases hat with hat | hat
          · rcases h with ⟨rfl, rfl, rfl⟩ | ⟨b, spare, rfl, _, _, _, hb⟩
            · simp [Value.ownBlock] at hat
            · simp [Value.ownBlock] at hat; subst hat
              rcases hd x with q | q
              · rw [hb] at q; cases q
              · rw [hh] at q; cases q
          · simp [Value.ownBlock] at hat; omega
      · exact .inl (by simp [hx])
    · intro x y hx
      by_cases hxg : x = g
      · subst hxg; simp at hx; subst hx; exact frg_mk hB hcur
      · simp [hxg] at hx
    · rw [← htk, List.take_append_drop]; simpa using hcs
    · rw [← htk, List.take_append_drop]; simp
theorem Row.rd {α : Type} {enc : α → List Value} {xs : List α} (h : OwnR w W.heap.size e sz (.slice A xs.length c) xs.length (xs.flatMap enc)) : Rd enc w A xs := by
  obtain ⟨hl, h⟩ := h
  rcases h with ⟨h1, h2⟩ | ⟨g, cap, cur, hv, hB, hcur, hnc, hcm, hcs, htk⟩
  · exact .inl (List.length_eq_zero_iff.1 h2)
  · cases hv
    refine .inr ⟨g, 0, rfl, fun j v hj => ?_⟩
    rw [Nat.zero_add]
    have h2 : w.cell? ⟨g, j, none⟩ = cur[j]? := by simp [World.cell?, hcur]
    rw [h2]
    rw [← htk] at hj
    rw [List.getElem?_take] at hj
    split at hj
    · simpa using hj
    · cases hj
theorem Sat.rd {α : Type} {enc : α → List Value} {xs : List α} (hs : Sat W w L) (i : Nat) (hi : getA L i = some (RowOf enc e sz A c xs)) : Rd enc w A xs := Row.rd (hs.row i hi)
/-- A block of one's own reads so. -/
theorem Sat.rdC {α : Type} {enc : α → List Value} {xs : List α} {b : Nat} {t : TypeId} (hs : Sat W w L) (i : Nat) (hi : getA L i = some (Cl b (xs.flatMap enc) t)) : Rd enc w (some ⟨b, 0, none⟩) xs := by
  rw [getA_eq] at hi
  exact .inr ⟨b, 0, rfl, fun j v hj => by rw [Nat.zero_add, hs.cell i hi j]; exact hj⟩
theorem Sat.and0 {w' : World} (hs : Sat W w L) (h : Sat w w' []) : Sat W w' L := hs.andThen h
theorem Sat.and1 {w' : World} {p : HProp} (hs : Sat W w L) (h : Sat w w' [p]) : Sat W w' (p :: L) := hs.andThen h
theorem Sat.and2 {w' : World} {p q : HProp} (hs : Sat W w L) (h : Sat w w' [p, q]) : Sat W w' (p :: q :: L) := hs.andThen h
theorem Sat.same {w' : World} (hs : Sat W w L) (h : w' = w) : Sat W w' L := h ▸ hs
end

theorem run_append_none {P : Program} {w : World} {base n : Nat} {t ty e : TypeId} {te : TI} {sz : Nat} {xs : List Value} {A : Option Addr} {c : Nat} (ht : P.underlying t = some (.slice e)) (he : tyOf P e = some te) (hown : OwnR w base e sz (.slice A n c) n xs) (cb : Nat) :
    (Builtin.append_ #[t, t] ty #[.slice A n c, .slice none 0 cb]).run P w = .ok (.slice A n c) w := by
  have h1 : n ≤ c := by
    rcases hown.2 with ⟨h, h2⟩ | ⟨g, cap, cur, hv, hB, hcur, hnc, hcm, hcs, htk⟩
    · cases h; exact Nat.le_refl _
    · cases hv; exact hnc
  have hu := run_underlying ht w
  have h2 := ty_sizeOf he w
  cases A <;> simp [Builtin.append_, Sem.run_bind, hu, h2, Result.andThen, Builtin.lenOf, Builtin.firstCells, storeCells, h1, go_sem]
section steps
variable {r : Option Nat} {P : Program} {T : List (Nat × TI)} {ops : Array Oper} {Q : Exit → Act → World → Prop} {rest : List Oper} {n : Nat} {s : List (Nat × Value)} {τ : Nat → Value} {ds : List Deferred} {w : World}
  {ty : TypeId} {ps : String} {af : Array Edge} {d : Nat} {W : World} {L : List HProp} {α : Type} {e' : TypeId}
/-- The place of an element of a slice that may be read. -/
theorem LW_indexRd [Inhabited α] {enc : α → List Value} {xs : List α} {A : Option Addr} (hr : Rd enc w A xs) {t e : TypeId} {x y : Operand} {ti te : TI} {k : IntKind} {cap : Nat} {i : Int} (hT : TyOK P T) (hx : EVO n s x = some (.slice A xs.length cap)) (hy : EVO n s y = some (.int k i)) (ht : lookT T t = some ti) (hu : ti.u = .slice e) (he : lookT T e = some te)
    (h0 : 0 ≤ i) (h1 : i < xs.length) (c : ∀ b o, A = some ⟨b, o, none⟩ → LW r P ops Q rest (FR n ((d, .pointer (some ⟨b, o + i.toNat * te.size, none⟩)) :: s) τ ds) w) : LW r P ops Q (⟨some d, .indexAddr t x y, ty, ps, af, none⟩ :: rest) (FR n s τ ds) w := by
  obtain ⟨b, o, hA⟩ := hr.some h0 h1
  subst hA
  exact LW_indexAddr hT hx hy ht hu he h0 h1 (c b o rfl)
theorem LW_loadRd [Inhabited α] {enc : α → List Value} {xs : List α} {A : Option Addr} (hr : Rd enc w A xs) {sz : Nat} (hz : ∀ x, (enc x).length = sz) {x : Operand} {t : TypeId} {ti : TI} {b o k : Nat} {i : Int} {v : Value} (hT : TyOK P T) (hx : EVO n s x = some (.pointer (some ⟨b, o + i.toNat * sz + k, none⟩))) (hA : A = some ⟨b, o, none⟩) (ht : lookT T t = some ti) (ha : ti.agg = false)
    (h0 : 0 ≤ i) (h1 : i < xs.length) (hk : getA (enc (rd xs i)) k = some v) (c : LW r P ops Q rest (FR n ((d, v) :: s) τ ds) w) : LW r P ops Q (⟨some d, .load t x, ty, ps, af, none⟩ :: rest) (FR n s τ ds) w :=
  LW_load hT hx ht ha (hr.cell hz hA h0 h1 hk) c
theorem LW_loadRd0 [Inhabited α] {enc : α → List Value} {xs : List α} {A : Option Addr} (hr : Rd enc w A xs) (hz : ∀ x, (enc x).length = 1) {x : Operand} {t : TypeId} {ti : TI} {b o : Nat} {i : Int} {v : Value} (hT : TyOK P T) (hx : EVO n s x = some (.pointer (some ⟨b, o + i.toNat * 1, none⟩))) (hA : A = some ⟨b, o, none⟩) (ht : lookT T t = some ti) (ha : ti.agg = false)
    (h0 : 0 ≤ i) (h1 : i < xs.length) (hk : getA (enc (rd xs i)) 0 = some v) (c : LW r P ops Q rest (FR n ((d, v) :: s) τ ds) w) : LW r P ops Q (⟨some d, .load t x, ty, ps, af, none⟩ :: rest) (FR n s τ ds) w :=
  LW_load hT hx ht ha (by have := hr.cell hz hA h0 h1 hk; rwa [Nat.add_zero] at this) c
/-- A whole element of several cells. -/
theorem LW_loadRdA [Inhabited α] {enc : α → List Value} {xs : List α} {A : Option Addr} (hr : Rd enc w A xs) {sz : Nat} (hz : ∀ x, (enc x).length = sz) {x : Operand} {t : TypeId} {ti : TI} {b o : Nat} {i : Int} (hT : TyOK P T) (hx : EVO n s x = some (.pointer (some ⟨b, o + i.toNat * sz, none⟩))) (hA : A = some ⟨b, o, none⟩) (ht : lookT T t = some ti) (ha : ti.agg = true) (hsz : ti.size = sz)
    (h0 : 0 ≤ i) (h1 : i < xs.length) {vs : List Value} (hv : enc (rd xs i) = vs) (c : LW r P ops Q rest (FR n ((d, .agg vs.toArray) :: s) τ ds) w) : LW r P ops Q (⟨some d, .load t x, ty, ps, af, none⟩ :: rest) (FR n s τ ds) w :=
  LW_loadA hT hx ht ha (by rw [← hv, hz, hsz]) (fun j v hj => by
    have := hr.cell hz hA h0 h1 (k := j) (v := v) (by rw [getA_eq, hv]; exact hj)
    exact this) c
/-- append: onto a row of one's own, of a slice that may be read. -/
theorem LW_append (i : Nat) {enc : α → List Value} {sz : Nat} (hz : ∀ x, (enc x).length = sz) {xs ys : List α} {A B : Option Addr} {c cb : Nat} (hs : Sat W w L) {x y : Operand} {t e : TypeId} {ti te : TI} (hT : TyOK P T) (hx : EVO n s x = some (.slice A xs.length c)) (hy : EVO n s y = some (.slice B ys.length cb)) (hr : Rd enc w B ys) (h1 : ∀ x, ∀ u ∈ enc x, u.oneCell' = true)
    (ht : lookT T t = some ti) (hu : ti.u = .slice e) (he : lookT T e = some te) (hsz : te.size = sz) (hpos : Nat.ble 1 te.size = true) (hzc : te.zero.cells.size = te.size) (hi : getA L i = some (RowOf enc e sz A c xs))
    (hlen : xs.length + ys.length ≤ maxLen) (hby : (xs.length + ys.length) * te.bytes ≤ 140737488355328)
    (k : ∀ A' c' w', Sat W w' (L.set i (RowOf enc e sz A' c' (xs ++ ys))) → LW r P ops Q rest (FR n ((d, .slice A' (xs ++ ys).length c') :: s) τ ds) w') :
    LW r P ops Q (⟨some d, .call { callee := .builtin .append, args := #[x, y], argTypes := #[t, t] }, ty, ps, af, none⟩ :: rest) (FR n s τ ds) w := by
  have hi' : L[i]? = some (RowOf enc e sz A c xs) := by rw [← getA_eq]; exact hi
  have hown := hs.row i hi
  have hf := hs.front i hi'
  obtain ⟨hu1, f, hf1, hf2, hf3, hf4⟩ := ty_info (hT _ _ ht)
  obtain ⟨hu2, fe, hfe, hfe2, hfe3, hfe4⟩ := ty_info (hT _ _ he)
  rw [hu] at hu1
  have hpos' : 0 < sz := by rw [← hsz]; exact Nat.le_of_ble_eq_true hpos
  have key : ∃ v' w', (Builtin.append_ #[t, t] ty #[.slice A xs.length c, .slice B ys.length cb]).run P w = .ok v' w' ∧ OwnR w' W.heap.size e sz v' (xs.length + ys.length) (xs.flatMap enc ++ ys.flatMap enc) ∧ w.grownBy w' (Value.slice A xs.length c).ownBlock ∧ (v'.ownBlock = (Value.slice A xs.length c).ownBlock ∨ v'.ownBlock = some w.heap.size) := by
    rcases hr with hr | ⟨b, o, hB, hr⟩
    · subst hr
      cases B with
      | none =>
        refine ⟨_, w, run_append_none hu1 (hT _ _ he) hown cb, by simpa using hown, World.grownBy.refl _ _, .inl rfl⟩
      | some ad =>
        obtain ⟨v', w', h1', h2, h3, h5⟩ := run_appendR w W.heap.size t ty e fe te.zero sz te.bytes hu1 hfe hfe2 (by rw [hfe3, hsz]) hfe4 (by rw [hzc, hsz]) hpos' (.slice A xs.length c) xs.length (xs.flatMap enc) hown ad 0 cb [] (by simp) (fun j u h => by simp at h) (fun u h => by cases h) (by simpa using hlen) (by simpa using hby) hs.size
        exact ⟨v', w', h1', by simpa using h2, h3, h5.imp id (·.1)⟩
    · subst hB
      obtain ⟨v', w', h1', h2, h3, h5⟩ := run_appendR w W.heap.size t ty e fe te.zero sz te.bytes hu1 hfe hfe2 (by rw [hfe3, hsz]) hfe4 (by rw [hzc, hsz]) hpos' (.slice A xs.length c) xs.length (xs.flatMap enc) hown ⟨b, o, none⟩ ys.length cb (ys.flatMap enc) (flat_len hz ys)
        (fun j u h => by
          have e : (⟨b, o, none⟩ : Addr).add j = ⟨b, o + j, none⟩ := by unfold Addr.add; split <;> simp_all
          rw [e]; exact hr j u h) (fun u h => by obtain ⟨x, _, hx⟩ := List.mem_flatMap.1 h; exact h1 x u hx) hlen hby hs.size
      exact ⟨v', w', h1', h2, h3, h5.imp id (·.1)⟩
  obtain ⟨v', w', hrun, hown', hg, hat⟩ := key
  obtain ⟨A', c', rfl, hs'⟩ := hf.rowTurn hown' hg hat
  have hcat : xs.flatMap enc ++ ys.flatMap enc = (xs ++ ys).flatMap enc := by simp
  have hln : xs.length + ys.length = (xs ++ ys).length := by simp
  rw [hcat, hln] at hs'
  rw [hln] at hrun
  refine LW_run (v := .slice A' (xs ++ ys).length c') (w' := w') rfl (fun c e => by cases e) ?_ (by rw [put_FR]; exact k A' c' w' (Sat.back hi' hs'))
  show Sem.run P (do let d ← resolve (FR n s τ ds).eval { callee := .builtin .append, args := #[x, y], argTypes := #[t, t] } ty; invoke d.target d.args) w = _
  have e1 : (#[x, y] : Array Operand).map (FR n s τ ds).eval = #[.slice A xs.length c, .slice B ys.length cb] := by simp [eval_of hx, eval_of hy]
  simp only [resolve, e1, Sem.run_bind, Sem.run_pure, Result.andThen, invoke, builtin, hrun]
/-- append of one element, which lies in the block that was just laid for it. -/
theorem LW_append1 (i : Nat) {enc : α → List Value} {sz : Nat} (hE : (∀ x, (enc x).length = sz) ∧ ∀ x, ∀ u ∈ enc x, u.oneCell' = true) {xs : List α} {z : α} {A : Option Addr} {c bx : Nat} {cs : List Value} (hs : Sat W w (Cl bx cs e' :: L)) {x y : Operand} {t e : TypeId} {ti te : TI} (hT : TyOK P T) (hx : EVO n s x = some (.slice A xs.length c)) (hy : EVO n s y = some (.slice (some ⟨bx, 0, none⟩) 1 1)) (hcs : enc z = cs)
    (ht : lookT T t = some ti) (hu : ti.u = .slice e) (he : lookT T e = some te) (hsz : te.size = sz) (hpos : Nat.ble 1 te.size = true) (hzc : te.zero.cells.size = te.size) (hi : getA L i = some (RowOf enc e sz A c xs))
    (hlen : xs.length + 1 ≤ maxLen) (hby : (xs.length + 1) * te.bytes ≤ 140737488355328)
    (k : ∀ A' c' w', Sat W w' (L.set i (RowOf enc e sz A' c' (xs ++ [z]))) → LW r P ops Q rest (FR n ((d, .slice A' (xs ++ [z]).length c') :: s) τ ds) w') :
    LW r P ops Q (⟨some d, .call { callee := .builtin .append, args := #[x, y], argTypes := #[t, t] }, ty, ps, af, none⟩ :: rest) (FR n s τ ds) w := by
  have hr : Rd enc w (some ⟨bx, 0, none⟩) [z] := hs.rdC (t := e') 0 (by simp [getA, hcs])
  refine LW_append (i + 1) hE.1 (ys := [z]) hs hT hx hy hr hE.2 ht hu he hsz hpos hzc (by simpa [getA] using hi) (by simpa using hlen) (by simpa using hby) ?_
  intro A' c' w' hs'
  exact k A' c' w' (Sat.drop1 hs')
end steps
def eI (x : Int) : List Value := [.int .i64 x]
def eP (p : Int × Int) : List Value := [.int .i64 p.1, .int .i64 p.2]
def eB (b : UInt8) : List Value := [.int .u8 b.toNat]
def eS (b : ByteArray) : List Value := [.string b]
theorem eI_ok : (∀ x, (eI x).length = 1) ∧ ∀ x, ∀ u ∈ eI x, u.oneCell' = true := ⟨fun _ => rfl, fun x u h => by simp [eI] at h; subst h; rfl⟩
theorem eP_ok : (∀ x, (eP x).length = 2) ∧ ∀ x, ∀ u ∈ eP x, u.oneCell' = true := ⟨fun _ => rfl, fun x u h => by simp [eP] at h; rcases h with rfl | rfl <;> rfl⟩
theorem eB_ok : (∀ x, (eB x).length = 1) ∧ ∀ x, ∀ u ∈ eB x, u.oneCell' = true := ⟨fun _ => rfl, fun x u h => by simp [eB] at h; subst h; rfl⟩
theorem eS_ok : (∀ x, (eS x).length = 1) ∧ ∀ x, ∀ u ∈ eS x, u.oneCell' = true := ⟨fun _ => rfl, fun x u h => by simp [eS] at h; subst h; rfl⟩
end Go.Sl
