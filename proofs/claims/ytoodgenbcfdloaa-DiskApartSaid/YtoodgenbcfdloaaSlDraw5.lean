/- append onto the front part of a row: where it lay (the room stays what it was), or anew. -/
import Derived.Test.YtoodgenbcfdloaaSlB
set_option linter.unusedVariables false
set_option linter.unusedSimpArgs false
namespace Go.Sl
open Go.RowKit
theorem run_appendRc {P : Program} (w : World) (base : Nat) (t ty e : TypeId) (i : TypeInfo) (z : Value) (size bytes : Nat) (ht : P.underlying t = some (.slice e)) (hi : P.info? e = some i) (hz : i.zero = some z)
    (hsize : i.size = size) (hby : i.bytes = bytes) (hzs : z.cells.size = size) (hsz : 0 < size) (A : Option Addr) (n cap0 : Nat) (xs : List Value) (hown : OwnR w base e size (.slice A n cap0) n xs)
    (a : Addr) (m c : Nat) (news : List Value) (hl : news.length = m * size) (hm : 0 < m) (hnews : ∀ j u, news[j]? = some u → w.cell? (a.add j) = some u) (h1 : ∀ u ∈ news, u.oneCell' = true)
    (h63 : n + m ≤ maxLen) (hbytes : (n + m) * bytes ≤ 140737488355328) (hbase : base ≤ w.heap.size) :
    ∃ v' w', (Builtin.append_ #[t, t] ty #[.slice A n cap0, .slice (some a) m c]).run P w = .ok v' w' ∧ OwnR w' base e size v' (n + m) (xs ++ news) ∧ w.grownBy w' (Value.slice A n cap0).ownBlock ∧ (v' = .slice A (n + m) cap0 ∧ v'.ownBlock = (Value.slice A n cap0).ownBlock ∨ v'.ownBlock = some w.heap.size ∧ w.grownBy w' none) := by
  rcases hown.2 with ⟨h0, h00⟩ | ⟨g, cap, cur, h0, hbg, hgc, hnc, hcm, hcs, htake⟩
  · cases h0
    have hx : xs = [] := List.eq_nil_of_length_eq_zero (by simpa using hown.1)
    subst hx
    obtain ⟨v', w', hr, ho, hg, _, hat⟩ := run_append_own_at w base t ty e i z size bytes ht hi hz hsize hby hzs hsz (.slice none 0 0) 0 [] (World.ownsRow_nil w base e size) a m c news hl hnews h1 h63 hbytes hbase
    have ho' : OwnR w' base e size v' (0 + m) ([] ++ news) := .of ho
    refine ⟨v', w', hr, ho', hg, ?_⟩
    rcases hat with hat | hat
    · exfalso
      rcases ho'.2 with ⟨_, h2⟩ | ⟨g, cap, cur, h2, _⟩
      · omega
      · subst h2; simp [Value.ownBlock] at hat
    · exact .inr ⟨hat, hg⟩
  · cases h0
    subst hsize
    by_cases hroom : n + m ≤ cap0
    · have hfit : n * i.size + news.length ≤ cur.size := Nat.le_trans (by rw [hl, ← Nat.add_mul]; exact Nat.mul_le_mul_right _ hroom) hcs
      have h2 := run_append_room (P := P) w t ty e i ht hi g n cap0 cur hgc a m c news hl hnews h1 hroom hfit
      refine ⟨_, _, h2, ⟨by rw [List.length_append, hown.1, hl, Nat.add_mul], .inr ⟨g, cap0, _, rfl, hbg, setRow_heap w g cur _ e _ hgc, hroom, hcm, ?_, ?_⟩⟩, ⟨rfl, rfl, rfl, by simp, fun k _ hk => setRow_other w g k _ (fun e => hk (by simp [Value.ownBlock, e]))⟩, .inl ⟨rfl, rfl⟩⟩
      · simp only [List.size_toArray, List.length_append, List.length_take, List.length_drop, Array.length_toList]
        omega
      · rw [htake, List.take_append_of_le_length (by rw [List.length_append, hown.1, hl, Nat.add_mul]; omega), List.take_of_length_le (by rw [List.length_append, hown.1, hl, Nat.add_mul]; omega)]
    · have h2 := run_append_grow (P := P) w t ty e i z ht hi hz ⟨g, 0, none⟩ n cap0 xs hown.1 hown.cells a m c news hl hnews (by omega) (by simp only [maxLen] at h63; omega) (growslice_fits (by omega) (by rw [hby]; exact hbytes))
      have hge := grownCap_ge w (n + m) cap0 e
      have hlen : (xs ++ news).length = (n + m) * i.size := by rw [List.length_append, hown.1, hl, Nat.add_mul]
      have hgb : ∀ row, w.grownBy (w.drew.alloc (.cells (xs.toArray ++ news.toArray ++ Builtin.zeroCells z.cells (grownCap w (n + m) cap0 e - (n + m))) e)) row := fun row => ⟨rfl, rfl, rfl, by simp, fun k hk _ => Below.heap_alloc w.drew _ k hk⟩
      refine ⟨_, _, h2, ⟨hlen, .inr ⟨w.heap.size, _, _, rfl, hbase, World.alloc_heap_new w.drew _, hge, grownCap_le_maxLen w (n + m) cap0 e h63, ?_, ?_⟩⟩, hgb _, .inr ⟨rfl, hgb _⟩⟩
      · simp only [Array.size_append, List.size_toArray, size_zeroCells, hzs, hown.1, hl, ← Nat.add_mul]
        exact Nat.mul_le_mul_right _ (by omega)
      · simp only [Array.toList_append, List.append_assoc]
        rw [← List.append_assoc, ← hlen]
        exact List.take_left
section
variable {W w : World} {L R : List HProp} {e : TypeId} {sz n N c : Nat} {A : Option Addr} {cells : List Value}
theorem Sat.rowKeepLc {w' : World} (hs : Sat W w (Row e sz A N c cells :: R)) (h1 : n ≤ N) (h2 : n ≤ c) {n' : Nat} {v' : Value} {cells' : List Value} (hown : OwnR w' W.heap.size e sz v' n' cells')
    (hg : w.grownBy w' (Value.slice A n c).ownBlock) (hat : v' = .slice A n' c ∧ v'.ownBlock = (Value.slice A n c).ownBlock ∨ v'.ownBlock = some w.heap.size ∧ w.grownBy w' none) :
    (v' = .slice A n' c ∧ Sat W w' (Row e sz A n' c cells' :: R)) ∨ ∃ A' c', v' = .slice A' n' c' ∧ Sat W w' (Row e sz A N c cells :: Row e sz A' n' c' cells' :: R) := by
  rcases hat with ⟨hv, hat⟩ | ⟨hat, hg2⟩
  · have hs := hs.cutFront h1 h2
    obtain ⟨A', c', h1, h2⟩ := hs.rowTurn hown hg (.inl hat)
    left
    refine ⟨hv, ?_⟩
    rw [hv] at h1; cases h1
    exact h2
  · obtain ⟨A', c', h1, h2⟩ := (hs.nilRow e sz).rowTurn hown hg2 (.inr hat)
    exact .inr ⟨A', c', h1, h2.picks [1]⟩
end
/-- A row full of one mark, and slices of it that were lengthened by the mark: each lies in the row, or has a row of its own. -/
def MkOK {α : Type} (enc : α → List Value) (e : TypeId) (A : Option Addr) (k : Nat) (m : α) (A' : Option Addr) (n' c' : Nat) (Z : List HProp) : Prop :=
  (A' = A ∧ n' ≤ k) ∨ Z = [RowOf enc e 1 A' c' (List.replicate n' m)]
section steps
variable {r : Option Nat} {P : Program} {T : List (Nat × TI)} {ops : Array Oper} {Q : Exit → Act → World → Prop} {rest : List Oper} {n : Nat} {s : List (Nat × Value)} {τ : Nat → Value} {ds : List Deferred} {w : World}
  {ty : TypeId} {ps : String} {af : Array Edge} {d : Nat} {W : World} {L : List HProp} {α : Type} {e' : TypeId}
/-- append of j marks onto the front part (nn elements) of a row of marks. -/
theorem LW_appendM (i1 i2 : Nat) {enc : α → List Value} (hE : (∀ x, (enc x).length = 1) ∧ ∀ x, ∀ u ∈ enc x, u.oneCell' = true) {mk : α} {k : Nat} {A : Option Addr} {c bx m nn : Nat} {x y : Operand} {t e : TypeId} {ti te : TI} {cs : List Value} (hs : Sat W w L) (hT : TyOK P T) (hx : EVO n s x = some (.slice A nn c)) (hy : EVO n s y = some (.slice (some ⟨bx, 0, none⟩) m m))
    (hi1 : getA L i1 = some (Cl bx cs e')) (hcs : (List.replicate m mk).flatMap enc = cs) (hi2 : getA (L.eraseIdx i1) i2 = some (RowOf enc e 1 A c (List.replicate k mk))) (hn : nn ≤ k) (hk : k ≤ nn + m) (hm : 0 < m) (hnc : nn ≤ c)
    (ht : lookT T t = some ti) (hu : ti.u = .slice e) (he : lookT T e = some te) (hsz : te.size = 1) (hzc : te.zero.cells.size = te.size)
    (hlen : nn + m ≤ maxLen) (hby : (nn + m) * te.bytes ≤ 140737488355328)
    (kk : ∀ A' c' k' Z w', k ≤ k' → k' ≤ nn + m → MkOK enc e A k' mk A' (nn + m) c' Z → Sat W w' (RowOf enc e 1 A c (List.replicate k' mk) :: Big Z :: ((L.eraseIdx i1).eraseIdx i2)) → LW r P ops Q rest (FR n ((d, .slice A' (nn + m) c') :: s) τ ds) w') :
    LW r P ops Q (⟨some d, .call { callee := .builtin .append, args := #[x, y], argTypes := #[t, t] }, ty, ps, af, none⟩ :: rest) (FR n s τ ds) w := by
  rw [getA_eq] at hi1 hi2
  have hs0 := hs.front i1 hi1
  have hcells := (hs0.at 0 rfl).2
  have hs' : Sat W w (RowOf enc e 1 A c (List.replicate k mk) :: ((L.eraseIdx i1).eraseIdx i2)) := hs0.drop1.front i2 hi2
  subst hcs
  have hxl : (List.replicate k mk).length = k := List.length_replicate
  have hcut : ((List.replicate k mk).flatMap enc).take (nn * 1) = (List.replicate nn mk).flatMap enc := by
    have h1 : List.replicate k mk = List.replicate nn mk ++ List.replicate (k - nn) mk := by rw [List.replicate_append_replicate]; congr 1; omega
    rw [h1, List.flatMap_append, List.take_left' (by rw [flat_len hE.1, List.length_replicate])]
  have hown := (hs'.cutFront (n := nn) (by rw [hxl]; exact hn) hnc).row0
  rw [hcut] at hown
  obtain ⟨hu1, f, hf1, hf2, hf3, hf4⟩ := ty_info (hT _ _ ht)
  obtain ⟨hu2, fe, hfe, hfe2, hfe3, hfe4⟩ := ty_info (hT _ _ he)
  rw [hu] at hu1
  obtain ⟨v', w', hrun, hown', hg, hat⟩ := run_appendRc (P := P) w W.heap.size t ty e fe te.zero 1 te.bytes hu1 hfe hfe2 (by rw [hfe3, hsz]) hfe4 (by rw [hzc, hsz]) (by omega) A nn c ((List.replicate nn mk).flatMap enc) hown ⟨bx, 0, none⟩ m m ((List.replicate m mk).flatMap enc) (by rw [flat_len hE.1, List.length_replicate]) hm
        (fun j u h => by
          have e : (⟨bx, 0, none⟩ : Addr).add j = ⟨bx, 0 + j, none⟩ := by unfold Addr.add; split <;> simp_all
          rw [e, hs0.cell 0 rfl (0 + j), Nat.zero_add]; exact h) (fun u h => by obtain ⟨x, _, hx⟩ := List.mem_flatMap.1 h; exact hE.2 x u hx) hlen hby hs.size
  have hcat : (List.replicate nn mk).flatMap enc ++ (List.replicate m mk).flatMap enc = (List.replicate (nn + m) mk).flatMap enc := by rw [← List.flatMap_append, List.replicate_append_replicate]
  rw [hcat] at hown'
  have hxl2 : (List.replicate (nn + m) mk).length = nn + m := List.length_replicate
  have key : ∃ A' c' k' Z, v' = .slice A' (nn + m) c' ∧ k ≤ k' ∧ k' ≤ nn + m ∧ MkOK enc e A k' mk A' (nn + m) c' Z ∧ Sat W w' (RowOf enc e 1 A c (List.replicate k' mk) :: Big Z :: ((L.eraseIdx i1).eraseIdx i2)) := by
    rcases hs'.rowKeepLc (by rw [hxl]; exact hn) hnc hown' hg hat with ⟨rfl, hs2⟩ | ⟨A', c', rfl, hs2⟩
    · refine ⟨A, c, nn + m, [], rfl, hk, Nat.le_refl _, .inl ⟨rfl, Nat.le_refl _⟩, ?_⟩
      have h3 : Sat W w' (Big [] :: Row e 1 A (nn + m) c ((List.replicate (nn + m) mk).flatMap enc) :: ((L.eraseIdx i1).eraseIdx i2)) := Sat.mkBig (l := []) hs2
      show Sat W w' (Row e 1 A (List.replicate (nn + m) mk).length c _ :: _)
      rw [hxl2]
      exact h3.picks [1]
    · refine ⟨A', c', k, [RowOf enc e 1 A' c' (List.replicate (nn + m) mk)], rfl, Nat.le_refl _, hk, .inr rfl, ?_⟩
      have h3 : Sat W w' (Row e 1 A' (List.replicate (nn + m) mk).length c' ((List.replicate (nn + m) mk).flatMap enc) :: RowOf enc e 1 A c (List.replicate k mk) :: ((L.eraseIdx i1).eraseIdx i2)) := by
        rw [hxl2]; exact hs2.picks [1]
      have h4 : Sat W w' (Big [RowOf enc e 1 A' c' (List.replicate (nn + m) mk)] :: RowOf enc e 1 A c (List.replicate k mk) :: ((L.eraseIdx i1).eraseIdx i2)) := Sat.mkBig (l := [_]) h3
      exact h4.picks [1]
  obtain ⟨A', c', k', Z, rfl, hk1, hk2, hZ, hs3⟩ := key
  refine LW_run (v := .slice A' (nn + m) c') (w' := w') rfl (fun c e => by cases e) ?_ (by rw [put_FR]; exact kk A' c' k' Z w' hk1 hk2 hZ hs3)
  show Sem.run P (do let d ← resolve (FR n s τ ds).eval { callee := .builtin .append, args := #[x, y], argTypes := #[t, t] } ty; invoke d.target d.args) w = _
  have e1 : (#[x, y] : Array Operand).map (FR n s τ ds).eval = #[.slice A nn c, .slice (some ⟨bx, 0, none⟩) m m] := by simp [eval_of hx, eval_of hy]
  simp only [resolve, e1, Sem.run_bind, Sem.run_pure, Result.andThen, invoke, builtin, hrun]
end steps
theorem rep_take {α : Type} {n k : Nat} (h : n ≤ k) (m : α) : List.replicate n m <+: List.replicate k m := ⟨List.replicate (k - n) m, by rw [List.replicate_append_replicate]; congr 1; omega⟩
/-- So each reads as marks in all its places. -/
theorem MkOK.rd {α : Type} {enc : α → List Value} {e : TypeId} {A A' : Option Addr} {k n' c' c : Nat} {m : α} {Z L : List HProp} {W w : World} (h : MkOK enc e A k m A' n' c' Z) (hs : Sat W w (RowOf enc e 1 A c (List.replicate k m) :: Big Z :: L)) : Rd enc w A' (List.replicate n' m) := by
  rcases h with ⟨rfl, h⟩ | rfl
  · exact (hs.rd 0 rfl).ahead (rep_take h m)
  · have h2 : Sat W w (RowOf enc e 1 A' c' (List.replicate n' m) :: RowOf enc e 1 A c (List.replicate k m) :: L) := Sat.big (l := [_]) (hs.picks [1])
    exact h2.rd 0 rfl
end Go.Sl

/- Drawn regions without a plan: several operations may come next, and each is gone through. -/
set_option linter.unusedVariables false
set_option linter.unusedSimpArgs false
namespace Go.Sl
open Go.RowKit
def DX (r : Option Nat) (P : Program) (l : List Oper) (eff : List Nat) (K : Act → World → Prop) (Cs : List (Nat × (World → Prop))) (fuel : Nat) (listed : Array Bool) (a : Act) (w : World) : Prop :=
  noDefer l.toArray = true → DW r P l eff K Cs fuel listed a w
section
variable {r : Option Nat} {P : Program} {T : List (Nat × TI)} {l : List Oper} {eff : List Nat} {K : Act → World → Prop} {Cs : List (Nat × (World → Prop))} {fuel : Nat} {listed : Array Bool} {a : Act} {w : World} {n : Nat} {s : List (Nat × Value)} {τ : Nat → Value} {ds : List Deferred}
  {W : World} {L : List HProp} {op : Op} {ty : TypeId} {ps : String} {af : Array Edge} {d i : Nat} {α : Type}
/-- Is the plan one for the first operations, each of which only reads? -/
def preOK (l : List Oper) (eff : List Nat) : List Nat → Array Bool → Bool
  | [], _ => true
  | i :: rest, listed => (!eff.contains i) && (Region.free .any l.toArray listed i && (Region.ready .any l.toArray listed).contains i) && preOK l eff rest (listed.setIfInBounds i true)
def DY (r : Option Nat) (P : Program) (l : List Oper) (eff : List Nat) (K : Act → World → Prop) (Cs : List (Nat × (World → Prop))) (plan : List Nat) (fuel : Nat) (listed : Array Bool) (a : Act) (w : World) : Prop :=
  noDefer l.toArray = true → preOK l eff plan listed = true → DW r P l eff K Cs (plan.length + fuel) listed a w
theorem CW_drawX {Q : Exit → Act → World → Prop} {id : Nat} (eff plan : List Nat) (fuel : Nat) (hm : P.follows .mixedOrders = true) (hok : (noDefer l.toArray && preOK l eff plan (Array.replicate l.length false) && Nat.beq (plan.length + fuel) l.length) = true) (hs : Sat W w L)
    (h : Sat W w.drew L → DY r P l eff (fun a w => Q .normal a w) [] plan fuel (Array.replicate l.length false) a w.drew) : CW r P (.region id l.toArray true) Q a w := by
  simp only [Bool.and_eq_true] at hok
  refine CW_draw eff hm hok.1.1 ?_
  have := h hs.drew hok.1.1 hok.1.2
  rwa [Nat.eq_of_beq_eq_true hok.2] at this
theorem DY_nil (h : DX r P l eff K Cs fuel listed a w) : DY r P l eff K Cs [] fuel listed a w := fun hnd _ => by
  have := h hnd
  simpa using this
theorem DY_plain {plan : List Nat} {o : Oper} {v : Value} (hi : getA l i = some o) (hy : YC P l.toArray (fun _ => True) o v a) (k : DY r P l eff K Cs plan fuel (listed.setIfInBounds i true) (a.put o.dst v) w) : DY r P l eff K Cs (i :: plan) fuel listed a w := fun hnd hp => by
  unfold preOK at hp
  simp only [Bool.and_eq_true, Bool.not_eq_true'] at hp
  have e : (i :: plan).length + fuel = (plan.length + fuel) + 1 := by rw [List.length_cons]; omega
  rw [e]
  exact DW_plain i hi hnd hp.1.1 hp.1.2.1 hp.1.2.2 hy (k hnd hp.2)
theorem DY_yield {plan : List Nat} {o : Oper} {v : Value} (c : World → Prop) (hi : getA l i = some o) (hy : YC P l.toArray c o v a) (hc : c w) (hI : Inv l eff Cs listed w) (k : DY r P l eff K ((i, c) :: Cs) plan fuel (listed.setIfInBounds i true) (a.put o.dst v) w) : DY r P l eff K Cs (i :: plan) fuel listed a w := fun hnd hp => by
  unfold preOK at hp
  simp only [Bool.and_eq_true, Bool.not_eq_true'] at hp
  have e : (i :: plan).length + fuel = (plan.length + fuel) + 1 := by rw [List.length_cons]; omega
  rw [e]
  exact DW_yield i c hi hnd hp.1.1 hp.1.2.1 hp.1.2.2 hy hc hI (k hnd hp.2)
theorem DY_pure {plan : List Nat} (hT : TyOK P T) (hi : getA l i = some ⟨some d, op, ty, ps, af, none⟩) {v : Value} (h : evalOp T n s op = some v) (k : DY r P l eff K Cs plan fuel (listed.setIfInBounds i true) (FR n ((d, v) :: s) τ ds) w) :
    DY r P l eff K Cs (i :: plan) fuel listed (FR n s τ ds) w :=
  DY_plain hi (YC.mk rfl fun w _ => evalOp_run (fun x v => eval_of) hT h w) (by rw [put_FR]; exact k)
theorem DY_loadC (j : Nat) {plan : List Nat} {x : Operand} {t : TypeId} {ti : TI} {b o : Nat} {v : Value} {vs : List Value} {te : TypeId} (hs : Sat W w L) (hT : TyOK P T) (hi : getA l i = some ⟨some d, .load t x, ty, ps, af, none⟩) (hx : EVO n s x = some (.pointer (some ⟨b, o, none⟩))) (ht : lookT T t = some ti) (ha : ti.agg = false) (hj : getA L j = some (Cl b vs te)) (hv : getA vs o = some v)
    (hI : Inv l eff Cs listed w) (k : DY r P l eff K ((i, fun w' => w'.cell? ⟨b, o, none⟩ = some v) :: Cs) plan fuel (listed.setIfInBounds i true) (FR n ((d, v) :: s) τ ds) w) : DY r P l eff K Cs (i :: plan) fuel listed (FR n s τ ds) w := by
  rw [getA_eq] at hj hv
  refine DY_yield (v := v) (fun w' => w'.cell? ⟨b, o, none⟩ = some v) hi (YC.mk rfl fun w' hw' => ?_) ((hs.cell j hj o).trans hv) hI (by rw [put_FR]; exact k)
  show Sem.run P (do let v ← Instr.loadAt t ((FR n s τ ds).eval x); pure (Next.value v)) w' = _
  rw [eval_of hx, Sem.run_bind, run_load1 (hT _ _ ht) ha hw']; rfl
theorem DX_end (hr : Region.ready .any l.toArray listed = []) (hI : Inv l eff Cs listed w) (h : K a w) : DX r P l eff K Cs fuel listed a w := fun _ => DW_end ⟨hI, h⟩ hr
theorem DX_mono {o : List Oper} (hnd : noDefer l.toArray = true) (h : LW r P l.toArray (QN (DX r P l eff K Cs fuel listed)) o a w) : LW r P l.toArray (QN (DW r P l eff K Cs fuel listed)) o a w := by
  induction o generalizing a w with
  | nil => exact h hnd
  | cons o os ih =>
    unfold LW wpListIn at h ⊢
    split at h
    · rw [if_pos ‹_›]
      exact ⟨h.1, uponIn_mono (fun a w q => ih q) (fun _ _ _ q => q) (fun _ _ q => q) h.2⟩
    · rw [if_neg ‹_›]; exact ⟨h.1, ih h.2⟩
/-- One alone, two, or three may come next. -/
theorem DX_1 {o : Oper} (i : Nat) (hi : getA l i = some o) (hr : Region.ready .any l.toArray listed = [i]) (hI : Inv l eff Cs listed w) (h : LW r P l.toArray (QN (DX r P l eff K Cs fuel (listed.setIfInBounds i true))) [o] a w) : DX r P l eff K Cs (fuel + 1) listed a w :=
  fun hnd => DW_eff i hi hnd hr hI (DX_mono hnd h)
theorem DX_2 {o1 o2 : Oper} (i j : Nat) (hi : getA l i = some o1) (hj : getA l j = some o2) (hr : Region.ready .any l.toArray listed = [i, j]) (hI : Inv l eff Cs listed w) (h1 : LW r P l.toArray (QN (DX r P l eff K Cs fuel (listed.setIfInBounds i true))) [o1] a w)
    (h2 : LW r P l.toArray (QN (DX r P l eff K Cs fuel (listed.setIfInBounds j true))) [o2] a w) : DX r P l eff K Cs (fuel + 1) listed a w :=
  fun hnd => DW_all hnd hr (by simp) hI fun x hx o ho => by
    simp only [List.mem_cons, List.not_mem_nil, or_false] at hx
    rcases hx with rfl | rfl
    · rw [hi] at ho; cases ho; exact DX_mono hnd h1
    · rw [hj] at ho; cases ho; exact DX_mono hnd h2
theorem DX_3 {o1 o2 o3 : Oper} (i j k : Nat) (hi : getA l i = some o1) (hj : getA l j = some o2) (hk : getA l k = some o3) (hr : Region.ready .any l.toArray listed = [i, j, k]) (hI : Inv l eff Cs listed w) (h1 : LW r P l.toArray (QN (DX r P l eff K Cs fuel (listed.setIfInBounds i true))) [o1] a w)
    (h2 : LW r P l.toArray (QN (DX r P l eff K Cs fuel (listed.setIfInBounds j true))) [o2] a w) (h3 : LW r P l.toArray (QN (DX r P l eff K Cs fuel (listed.setIfInBounds k true))) [o3] a w) : DX r P l eff K Cs (fuel + 1) listed a w :=
  fun hnd => DW_all hnd hr (by simp) hI fun x hx o ho => by
    simp only [List.mem_cons, List.not_mem_nil, or_false] at hx
    rcases hx with rfl | rfl | rfl
    · rw [hi] at ho; cases ho; exact DX_mono hnd h1
    · rw [hj] at ho; cases ho; exact DX_mono hnd h2
    · rw [hk] at ho; cases ho; exact DX_mono hnd h3
end
end Go.Sl

/- Drawn regions without a plan: an operation that only reckons. -/
set_option linter.unusedVariables false
set_option linter.unusedSimpArgs false
namespace Go.Sl
open Go.RowKit
section
variable {r : Option Nat} {P : Program} {T : List (Nat × TI)} {l : List Oper} {eff : List Nat} {K : Act → World → Prop} {Cs : List (Nat × (World → Prop))} {fuel : Nat} {listed : Array Bool} {w : World} {n : Nat} {s : List (Nat × Value)} {τ : Nat → Value} {ds : List Deferred} {op : Op} {ty : TypeId} {ps : String} {af : Array Edge} {d : Nat}
theorem DX_pure (i : Nat) (hT : TyOK P T) (hi : getA l i = some ⟨some d, op, ty, ps, af, none⟩) (hc : (!eff.contains i && (Region.free .any l.toArray listed i && (Region.ready .any l.toArray listed).contains i)) = true) {v : Value} (h : evalOp T n s op = some v) (k : DX r P l eff K Cs fuel (listed.setIfInBounds i true) (FR n ((d, v) :: s) τ ds) w) : DX r P l eff K Cs (fuel + 1) listed (FR n s τ ds) w := fun hnd => by
  simp only [Bool.and_eq_true, Bool.not_eq_true'] at hc
  exact DW_plain i hi hnd hc.1 hc.2.1 hc.2.2 (YC.mk rfl fun w _ => evalOp_run (fun x v => eval_of) hT h w) (by rw [put_FR]; exact k hnd)
variable {Cs' : List (Nat × (World → Prop))} {plan : List Nat} {i : Nat} {gd : Option (Nat × Bool)}
theorem DP_build {t : TypeId} {ti : TI} {fields : Array Field} {pl : List (Nat × Nat)} {parts : Array (Nat × Operand)} {pv : List (Nat × Value)} {zs : List Value} {cs : List Value} (hT : TyOK P T) (heff : eff.contains i = false) (hi : getA l i = some ⟨some d, .build t parts, ty, ps, af, gd⟩) (hg : gdOK s n l gd) (ht : lookT T t = some ti) (hu : ti.u = .struct fields) (hp : fieldPl T fields.toList = some pl)
    (he : evalParts n s parts.toList = some pv) (hz : zeroL ti.zero = some zs) (hf0 : fillF (getA pl) zs pv = some cs) (k : DP r P l eff K Cs plan (listed.setIfInBounds i true) (FR n ((d, .agg cs.toArray) :: s) τ ds) w) : DP r P l eff K Cs (i :: plan) listed (FR n s τ ds) w := by
  have hf := fillF_eq hf0
  refine DP_plain (v := .agg cs.toArray) heff hi (YC.mkD hg fun w' _ => ?_) (by rw [put_FR]; exact k)
  show Sem.run P (do let v ← Instr.build t (parts.map fun (i, x) => (i, (FR n s τ ds).eval x)); pure (Next.value v)) w' = _
  have e1 := evalParts_run (ρ := (FR n s τ ds).eval) (fun x v => eval_of) he
  have hz' : ∃ zs', ti.zero = .agg zs' ∧ zs'.toList = zs := by
    cases h : ti.zero with
    | agg c => rw [h] at hz; cases hz; exact ⟨c, rfl, rfl⟩
    | _ => rw [h] at hz; cases hz
  obtain ⟨zs', hz1, hz2⟩ := hz'
  rw [Sem.run_bind, run_build (cs := cs) hT ht hu ⟨zs', hz1, by rw [hz2]; simpa [e1] using hf⟩ hp]; rfl
theorem DP_indexAddr {t e : TypeId} {x y : Operand} {ti te : TI} {k : IntKind} {b o len cap : Nat} {j : Int} (hT : TyOK P T) (heff : eff.contains i = false) (hi : getA l i = some ⟨some d, .indexAddr t x y, ty, ps, af, gd⟩) (hg : gdOK s n l gd)
    (hx : EVO n s x = some (.slice (some ⟨b, o, none⟩) len cap)) (hy : EVO n s y = some (.int k j)) (ht : lookT T t = some ti) (hu : ti.u = .slice e) (he : lookT T e = some te) (h0 : 0 ≤ j) (h1 : j < len)
    (c : DP r P l eff K Cs plan (listed.setIfInBounds i true) (FR n ((d, .pointer (some ⟨b, o + j.toNat * te.size, none⟩)) :: s) τ ds) w) : DP r P l eff K Cs (i :: plan) listed (FR n s τ ds) w := by
  refine DP_plain (v := .pointer (some ⟨b, o + j.toNat * te.size, none⟩)) heff hi (YC.mkD hg fun w _ => ?_) (by rw [put_FR]; exact c)
  show Sem.run P (do let v ← Instr.indexAt t ((FR n s τ ds).eval x) ((FR n s τ ds).eval y); pure (Next.value v)) w = _
  rw [eval_of hx, eval_of hy, Sem.run_bind, run_indexAddr (hT _ _ ht) hu (hT _ _ he) h0 h1]; rfl
theorem DY_build {t : TypeId} {ti : TI} {fields : Array Field} {pl : List (Nat × Nat)} {parts : Array (Nat × Operand)} {pv : List (Nat × Value)} {zs : List Value} {cs : List Value} (hT : TyOK P T) (hi : getA l i = some ⟨some d, .build t parts, ty, ps, af, none⟩) (ht : lookT T t = some ti) (hu : ti.u = .struct fields) (hp : fieldPl T fields.toList = some pl)
    (he : evalParts n s parts.toList = some pv) (hz : zeroL ti.zero = some zs) (hf0 : fillF (getA pl) zs pv = some cs) (k : DY r P l eff K Cs plan fuel (listed.setIfInBounds i true) (FR n ((d, .agg cs.toArray) :: s) τ ds) w) : DY r P l eff K Cs (i :: plan) fuel listed (FR n s τ ds) w := by
  have hf := fillF_eq hf0
  refine DY_plain (v := .agg cs.toArray) hi (YC.mk rfl fun w' _ => ?_) (by rw [put_FR]; exact k)
  show Sem.run P (do let v ← Instr.build t (parts.map fun (i, x) => (i, (FR n s τ ds).eval x)); pure (Next.value v)) w' = _
  have e1 := evalParts_run (ρ := (FR n s τ ds).eval) (fun x v => eval_of) he
  have hz' : ∃ zs', ti.zero = .agg zs' ∧ zs'.toList = zs := by
    cases h : ti.zero with
    | agg c => rw [h] at hz; cases hz; exact ⟨c, rfl, rfl⟩
    | _ => rw [h] at hz; cases hz
  obtain ⟨zs', hz1, hz2⟩ := hz'
  rw [Sem.run_bind, run_build (cs := cs) hT ht hu ⟨zs', hz1, by rw [hz2]; simpa [e1] using hf⟩ hp]; rfl
end
end Go.Sl
