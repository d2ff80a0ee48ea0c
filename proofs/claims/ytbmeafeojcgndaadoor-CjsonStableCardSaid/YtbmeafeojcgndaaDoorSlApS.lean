/- Texts: laid together; made of bytes. -/
import Derived.Test.YtbmeafeojcgndaaDoorSlA
import Derived.Test.YtbmeafeojcgndaaDoorSlB
import Derived.Laws.BytesString
import Derived.Test.YtbmeafeojcgndaaDoorSlText
import Derived.Lib.AppendStr
set_option linter.unusedVariables false
set_option linter.unusedSimpArgs false
namespace Go.Sl
open Go.RowKit
def bytesOf (ns : List Int) : ByteArray := ns.foldl (fun r n => r.push (UInt8.ofNat n.toNat)) ByteArray.empty
section
variable {r : Option Nat} {P : Program} {T : List (Nat × TI)} {ops : Array Oper} {Q : Exit → Act → World → Prop} {rest : List Oper} {n : Nat} {s : List (Nat × Value)} {τ : Nat → Value} {ds : List Deferred} {w W : World} {L : List HProp}
  {ty : TypeId} {ps : String} {af : Array Edge} {d : Nat}
theorem LW_strCat {t yt : TypeId} {x y : Operand} {a b : ByteArray} (hx : EVO n s x = some (.string a)) (hy : EVO n s y = some (.string b)) (hb : a.size + b.size ≤ 9223372036854775807) (c : LW r P ops Q rest (FR n ((d, .string (a ++ b)) :: s) τ ds) w) :
    LW r P ops Q (⟨some d, .binOp .add t x y yt, ty, ps, af, none⟩ :: rest) (FR n s τ ds) w := by
  refine LW_run (v := .string (a ++ b)) rfl (fun c e => by cases e) ?_ (by rw [put_FR]; exact c)
  show Sem.run P (do let v ← (do eqGuard .add t x y ((FR n s τ ds).eval x) ((FR n s τ ds).eval y); binOp .add t ((FR n s τ ds).eval x) ((FR n s τ ds).eval y)); pure (Next.value v)) w = _
  rw [eval_of hx, eval_of hy]
  have h : ¬ (((a.size + b.size : Nat) : Int) > IntKind.i64.max) := by
    have : IntKind.i64.max = 9223372036854775807 := by decide
    rw [this]; omega
  have h2 : (Op.stringOp .add a b).run P w = .ok (.string (a ++ b)) w := by
    unfold Op.stringOp
    simp only [h, if_false]
    rfl
  simp only [eqGuard, binOp, Sem.run_bind, Sem.run_pure, Result.andThen, Bool.not_false, if_true, h2]
theorem LW_bytesStr (i : Nat) {src dst e : TypeId} {x : Operand} {b k c : Nat} {ns : List Int} {te : TypeId} {t1 t2 t3 : TI} (hT : TyOK P T) (hs : Sat W w L) (hx : EVO n s x = some (.slice (some ⟨b, 0, none⟩) k c)) (h1 : lookT T src = some t1) (u1 : t1.u = .slice e) (h2 : lookT T e = some t2) (u2 : t2.u = .int .u8) (h3 : lookT T dst = some t3) (u3 : t3.u = .string) (hi : getA L i = some (Cl b (ns.map (Value.int .u8)) te)) (hk : ns.length = k)
    (cc : LW r P ops Q rest (FR n ((d, .string (bytesOf ns)) :: s) τ ds) w) : LW r P ops Q (⟨some d, .convert src dst x, ty, ps, af, none⟩ :: rest) (FR n s τ ds) w := by
  rw [getA_eq] at hi
  have a1 := (ty_info (hT _ _ h1)).1
  have a2 := (ty_info (hT _ _ h2)).1
  have a3 := (ty_info (hT _ _ h3)).1
  rw [u1] at a1; rw [u2] at a2; rw [u3] at a3
  have hl : (loadCells ⟨b, 0, none⟩ k).run P w = .ok (ns.map (Value.int .u8)).toArray w := by
    have := run_loadCells_list (P := P) (w := w) ⟨b, 0, none⟩ (ns.map (Value.int .u8)) (fun j v hj => by
      have e : (⟨b, 0, none⟩ : Addr).add j = ⟨b, 0 + j, none⟩ := by unfold Addr.add; split <;> simp_all
      rw [e, hs.cell i hi (0 + j), Nat.zero_add]; exact hj)
    rw [List.length_map, hk] at this
    exact this
  refine LW_run (v := .string (bytesOf ns)) rfl (fun c e => by cases e) ?_ (by rw [put_FR]; exact cc)
  show Sem.run P (do let v ← convert src dst ((FR n s τ ds).eval x); pure (Next.value v)) w = _
  rw [eval_of hx, Sem.run_bind, run_convert_bytes_string w src dst e _ _ _ a1 a2 a3, run_bytesToString w _ _ _ ns hl]
  rfl
end
end Go.Sl

/- A row of bytes as a text. -/
set_option linter.unusedVariables false
set_option linter.unusedSimpArgs false
namespace Go.Sl
open Go.RowKit
theorem bytesOf_push : ∀ (l : List UInt8) (r : ByteArray), (l.map fun b => (b.toNat : Int)).foldl (fun r n => r.push (UInt8.ofNat n.toNat)) r = ⟨r.data ++ l.toArray⟩
  | [], r => by cases r; simp
  | c :: l, r => by
    rw [List.map_cons, List.foldl_cons, bytesOf_push l]
    simp [ByteArray.push]
theorem flat_eB : ∀ xs : List UInt8, xs.flatMap eB = (xs.map fun b => (b.toNat : Int)).map (Value.int .u8)
  | [] => rfl
  | x :: xs => by rw [List.flatMap_cons, flat_eB xs]; rfl
section
variable {r : Option Nat} {P : Program} {T : List (Nat × TI)} {ops : Array Oper} {Q : Exit → Act → World → Prop} {rest : List Oper} {n : Nat} {s : List (Nat × Value)} {τ : Nat → Value} {ds : List Deferred} {w W : World} {L : List HProp}
  {ty : TypeId} {ps : String} {af : Array Edge} {d : Nat}
theorem run_rdStr {A : Option Addr} {xs : List UInt8} {len c : Nat} (hr : Rd eB w A xs) (hl : len = xs.length) : (Conv.bytesToString (.slice A len c)).run P w = .ok (.string ⟨xs.toArray⟩) w := by
  subst hl
  have key : ∀ (a : Addr), (loadCells a xs.length).run P w = .ok ((xs.map fun b => (b.toNat : Int)).map (Value.int .u8)).toArray w → (Conv.bytesToString (.slice (some a) xs.length c)).run P w = .ok (.string ⟨xs.toArray⟩) w := fun a h => by
    rw [run_bytesToString w a _ c _ h, bytesOf_push]
    simp [ByteArray.empty, ByteArray.emptyWithCapacity]
    rfl
  rcases hr with rfl | ⟨b, o, rfl, hr⟩
  · cases A with
    | none => rfl
    | some a => exact key a rfl
  · refine key _ ?_
    have := run_loadCells_list (P := P) (w := w) ⟨b, o, none⟩ ((xs.map fun b => (b.toNat : Int)).map (Value.int .u8)) (fun j v hj => by
      have e : (⟨b, o, none⟩ : Addr).add j = ⟨b, o + j, none⟩ := by unfold Addr.add; split <;> simp_all
      rw [e]
      refine hr j v ?_
      rw [flat_eB]; exact hj)
    simpa using this
theorem LW_strRd {A : Option Addr} {xs : List UInt8} {len c : Nat} {src dst e : TypeId} {x : Operand} {t1 t2 t3 : TI} (hT : TyOK P T) (hr : Rd eB w A xs) (hx : EVO n s x = some (.slice A len c)) (hl : len = xs.length) (h1 : lookT T src = some t1) (u1 : t1.u = .slice e) (h2 : lookT T e = some t2) (u2 : t2.u = .int .u8) (h3 : lookT T dst = some t3) (u3 : t3.u = .string)
    (cc : LW r P ops Q rest (FR n ((d, .string ⟨xs.toArray⟩) :: s) τ ds) w) : LW r P ops Q (⟨some d, .convert src dst x, ty, ps, af, none⟩ :: rest) (FR n s τ ds) w := by
  have a1 := (ty_info (hT _ _ h1)).1
  have a2 := (ty_info (hT _ _ h2)).1
  have a3 := (ty_info (hT _ _ h3)).1
  rw [u1] at a1; rw [u2] at a2; rw [u3] at a3
  refine LW_run (v := .string ⟨xs.toArray⟩) rfl (fun c e => by cases e) ?_ (by rw [put_FR]; exact cc)
  show Sem.run P (do let v ← convert src dst ((FR n s τ ds).eval x); pure (Next.value v)) w = _
  rw [eval_of hx, Sem.run_bind, run_convert_bytes_string w src dst e _ _ _ a1 a2 a3, run_rdStr hr hl]
  rfl
end
end Go.Sl

/- append of a text to a row of bytes. -/
set_option linter.unusedVariables false
set_option linter.unusedSimpArgs false
namespace Go.Sl
open Go.RowKit Go.Lib
theorem run_appendStrR {P : Program} (w : World) (base : Nat) (t u ty e : TypeId) (i : TypeInfo) (ht : P.underlying t = some (.slice e)) (hu : P.underlying u = some .string) (hi : P.info? e = some i) (hz : i.zero = some (.int .u8 0))
    (hsize : i.size = 1) (hby : i.bytes = 1) (v : Value) (n : Nat) (xs : List Value) (hown : OwnR w base e 1 v n xs) (s : ByteArray) (h63 : n + s.size ≤ maxLen) (hbytes : n + s.size ≤ 140737488355328) (hbase : base ≤ w.heap.size) :
    ∃ v' w', (Builtin.append_ #[t, u] ty #[v, .string s]).run P w = .ok v' w' ∧ OwnR w' base e 1 v' (n + s.size) (xs ++ strCells s) ∧ w.grownBy w' v.ownBlock ∧ (v'.ownBlock = v.ownBlock ∨ v'.ownBlock = some w.heap.size) := by
  have hsmall : n + s.size ≤ 9223372036854775807 := by simp only [maxLen] at h63; omega
  have hxl : xs.length = n := by simpa using hown.1
  have hlen : (xs ++ strCells s).length = (n + s.size) * 1 := by rw [List.length_append, hxl, strCells_length, Nat.mul_one]
  rcases hown.2 with ⟨rfl, rfl⟩ | ⟨g, cap, cur, rfl, hbg, hg, hnc, hcm, hcs, htake⟩
  · obtain ⟨v', w', h1, h2, h3, h4⟩ := run_append_own_string (P := P) w base t u ty e i ht hu hi hz hsize hby (.slice none 0 0) 0 xs ⟨hown.1, .inl ⟨rfl, rfl⟩⟩ s h63 hbytes hbase
    refine ⟨v', w', h1, .of h2, h3, ?_⟩
    by_cases hm : s.size = 0
    · rw [h4.2 ⟨rfl, hm⟩]; exact .inl rfl
    · have hr := run_append_nil_string (P := P) w t u ty e i (.int .u8 0) ht hu hi hz s (by omega) (by omega) (by rw [hby]; omega)
      rw [hr] at h1
      injection h1 with h1 _
      rw [← h1]; exact .inr rfl
  · have ht' : cur.toList.take n = xs := by simpa using htake
    by_cases hroom : n + s.size ≤ cap
    · have hr := run_append_room_string (P := P) w t u ty e i ht hu hi hsize g n cap cur hg s hroom (by omega)
      refine ⟨_, _, hr, ⟨hlen, .inr ⟨g, cap, _, rfl, hbg, setRow_heap w g cur _ e _ hg, hroom, hcm, ?_, ?_⟩⟩, ⟨rfl, rfl, rfl, by simp, fun k _ hk => setRow_other w g k _ (fun e => hk (by simp [Value.ownBlock, e]))⟩, .inl rfl⟩
      · simp only [List.size_toArray, List.length_append, List.length_take, List.length_drop, Array.length_toList, strCells_length]
        omega
      · rw [ht', ← hlen]
        exact List.take_left
    · have holds := hown.cells (g := g) (cap := cap)
      have hr := run_append_grow_string (P := P) w t u ty e i (.int .u8 0) ht hu hi hz ⟨g, 0, none⟩ n cap xs (by rw [hsize]; simpa using hxl) holds s (by omega) (by omega) (by rw [hby]; exact growslice_fits (by omega) (by omega))
      have hge := grownCap_ge w (n + s.size) cap e
      have hcm2 : grownCap w (n + s.size) cap e ≤ maxLen := grownCap_le_maxLen w (n + s.size) cap e h63
      refine ⟨_, _, hr, ⟨hlen, .inr ⟨w.heap.size, _, _, rfl, hbase, heap_alloc_new w.drew _, hge, hcm2, ?_, ?_⟩⟩, ⟨rfl, rfl, rfl, by simp, fun k hk _ => heap_alloc_old w.drew _ hk⟩, .inr rfl⟩
      · have hz1 : (Value.int IntKind.u8 0).cells.size = 1 := rfl
        simp only [Array.size_append, List.size_toArray, size_zeroCells, hz1, hxl, strCells_length]
        omega
      · simp only [Array.toList_append, List.append_assoc]
        rw [← List.append_assoc, ← hlen]
        exact List.take_left
theorem strCells_eB (l : List UInt8) : strCells ⟨l.toArray⟩ = l.flatMap eB := by
  rw [flat_eB]
  simp [strCells]
section
variable {r : Option Nat} {P : Program} {T : List (Nat × TI)} {Q : Exit → Act → World → Prop} {ops : Array Oper} {rest : List Oper} {n : Nat} {s : List (Nat × Value)} {τ : Nat → Value} {ds : List Deferred} {w W : World} {L : List HProp}
  {ty : TypeId} {ps : String} {af : Array Edge} {d : Nat}
theorem LW_appendS (i : Nat) {xs ys : List UInt8} {A : Option Addr} {c : Nat} {p : ByteArray} (hs : Sat W w L) {x y : Operand} {t u e : TypeId} {ti tu te : TI} (hT : TyOK P T) (hx : EVO n s x = some (.slice A xs.length c)) (hy : EVO n s y = some (.string p)) (hp : p = ⟨ys.toArray⟩)
    (ht : lookT T t = some ti) (hu : ti.u = .slice e) (htu : lookT T u = some tu) (huu : tu.u = .string) (he : lookT T e = some te) (hz : te.zero = .int .u8 0) (hsz : te.size = 1) (hbt : te.bytes = 1) (hi : getA L i = some (RowOf eB e 1 A c xs))
    (hlen : xs.length + ys.length ≤ 140737488355328)
    (k : ∀ A' c' w', Sat W w' (L.set i (RowOf eB e 1 A' c' (xs ++ ys))) → LW r P ops Q rest (FR n ((d, .slice A' (xs ++ ys).length c') :: s) τ ds) w') :
    LW r P ops Q (⟨some d, .call { callee := .builtin .append, args := #[x, y], argTypes := #[t, u] }, ty, ps, af, none⟩ :: rest) (FR n s τ ds) w := by
  subst hp
  have hi' : L[i]? = some (RowOf eB e 1 A c xs) := by rw [← getA_eq]; exact hi
  have hown := hs.row i hi
  have hf := hs.front i hi'
  obtain ⟨hu1, _⟩ := ty_info (hT _ _ ht)
  obtain ⟨hu3, _⟩ := ty_info (hT _ _ htu)
  obtain ⟨hu2, fe, hfe, hfe2, hfe3, hfe4⟩ := ty_info (hT _ _ he)
  rw [hu] at hu1
  rw [huu] at hu3
  have hsz2 : (ByteArray.mk ys.toArray).size = ys.length := rfl
  obtain ⟨v', w', hrun, hown', hg, hat⟩ := run_appendStrR (P := P) w W.heap.size t u ty e fe hu1 hu3 hfe (by rw [hfe2, hz]) (by rw [hfe3, hsz]) (by rw [hfe4, hbt]) (.slice A xs.length c) xs.length (xs.flatMap eB) hown ⟨ys.toArray⟩ (by rw [hsz2]; unfold maxLen; omega) (by rw [hsz2]; exact hlen) hs.size
  obtain ⟨A', c', rfl, hs'⟩ := hf.rowTurn hown' hg hat
  rw [strCells_eB, hsz2] at hs'
  have hcat : xs.flatMap eB ++ ys.flatMap eB = (xs ++ ys).flatMap eB := by simp
  have hln : xs.length + ys.length = (xs ++ ys).length := by simp
  rw [hcat, hln] at hs'
  rw [hsz2, hln] at hrun
  refine LW_run (v := .slice A' (xs ++ ys).length c') (w' := w') rfl (fun c e => by cases e) ?_ (by rw [put_FR]; exact k A' c' w' (Sat.back hi' hs'))
  show Sem.run P (do let d ← resolve (FR n s τ ds).eval { callee := .builtin .append, args := #[x, y], argTypes := #[t, u] } ty; invoke d.target d.args) w = _
  have e1 : (#[x, y] : Array Operand).map (FR n s τ ds).eval = #[.slice A xs.length c, .string ⟨ys.toArray⟩] := by simp [eval_of hx, eval_of hy]
  simp only [resolve, e1, Sem.run_bind, Sem.run_pure, Result.andThen, invoke, builtin, hrun]
end
end Go.Sl
