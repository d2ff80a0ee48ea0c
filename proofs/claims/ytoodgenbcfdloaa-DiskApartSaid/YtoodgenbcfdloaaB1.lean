/- Texts: laid together; made of bytes. -/
import Derived.Test.YtoodgenbcfdloaaSlA
import Derived.Test.YtoodgenbcfdloaaSlB
import Derived.Laws.BytesString
import Derived.Test.YtoodgenbcfdloaaB5
set_option linter.unusedVariables false
set_option linter.unusedSimpArgs false
namespace Go.Sl
open Go.RowKit
def bytesOf (ns : List Int) : ByteArray := ns.foldl (fun r n => r.push (UInt8.ofNat n.toNat)) ByteArray.empty
section
variable {r : Option Nat} {P : Program} {T : List (Nat × TI)} {ops : Array Oper} {Q : Exit → Act → World → Prop} {rest : List Oper} {n : Nat} {s : List (Nat × Value)} {τ : Nat → Value} {ds : List Deferred} {w W : World} {L : List HProp}
  {ty : TypeId} {ps : String} {af : Array Edge} {d : Nat}
theorem LW_strCat {t yt : TypeId} {x y : Operand} {a b : ByteArray} (hx : EVO n s x = some (.string a)) (hy : EVO n s y = some (.string b)) (hb : a.size + b.size ≤ 9223372036854775807) (c : LW r P ops Q rest (FR n ((d, .string (a ++ b)) :: s) τ ds) w) :
    LW r P ops Q (⟨some d, .binOp .add t x y yt, ty, ps, af, none⟩ :: rest) (FR n s τ ds) w := by
  refine LW_run (v := .string (a ++ b)) rfl (fun c e => by cases e) ?_ (by rw [put_FR]; exact c)
  show Sem.run P (do let v ← (do eqGuard .add t x y ((FR n s τ ds).eval x) ((FR n s τ ds).eval y); binOp .add t ((FR n s τ ds).eval x) ((FR n s τ ds).eval y)); pure (Next.value v)) w = _
  rw [eval_of hx, eval_of hy]
  have h : ¬ (((a.size + b.size : Nat) : Int) > IntKind.i64.max) := by
    have : IntKind.i64.max = 9223372036854775807 := by decide
    rw [this]; omega
  have h2 : (Op.stringOp .add a b).run P w = .ok (.string (a ++ b)) w := by
    unfold Op.stringOp
    simp only [h, if_false]
    rfl
  simp only [eqGuard, binOp, Sem.run_bind, Sem.run_pure, Result.andThen, Bool.not_false, if_true, h2]
theorem LW_bytesStr (i : Nat) {src dst e : TypeId} {x : Operand} {b k c : Nat} {ns : List Int} {te : TypeId} {t1 t2 t3 : TI} (hT : TyOK P T) (hs : Sat W w L) (hx : EVO n s x = some (.slice (some ⟨b, 0, none⟩) k c)) (h1 : lookT T src = some t1) (u1 : t1.u = .slice e) (h2 : lookT T e = some t2) (u2 : t2.u = .int .u8) (h3 : lookT T dst = some t3) (u3 : t3.u = .string) (hi : getA L i = some (Cl b (ns.map (Value.int .u8)) te)) (hk : ns.length = k)
    (cc : LW r P ops Q rest (FR n ((d, .string (bytesOf ns)) :: s) τ ds) w) : LW r P ops Q (⟨some d, .convert src dst x, ty, ps, af, none⟩ :: rest) (FR n s τ ds) w := by
  rw [getA_eq] at hi
  have a1 := (ty_info (hT _ _ h1)).1
  have a2 := (ty_info (hT _ _ h2)).1
  have a3 := (ty_info (hT _ _ h3)).1
  rw [u1] at a1; rw [u2] at a2; rw [u3] at a3
  have hl : (loadCells ⟨b, 0, none⟩ k).run P w = .ok (ns.map (Value.int .u8)).toArray w := by
    have := run_loadCells_list (P := P) (w := w) ⟨b, 0, none⟩ (ns.map (Value.int .u8)) (fun j v hj => by
      have e : (⟨b, 0, none⟩ : Addr).add j = ⟨b, 0 + j, none⟩ := by unfold Addr.add; split <;> simp_all
      rw [e, hs.cell i hi (0 + j), Nat.zero_add]; exact hj)
    rw [List.length_map, hk] at this
    exact this
  refine LW_run (v := .string (bytesOf ns)) rfl (fun c e => by cases e) ?_ (by rw [put_FR]; exact cc)
  show Sem.run P (do let v ← convert src dst ((FR n s τ ds).eval x); pure (Next.value v)) w = _
  rw [eval_of hx, Sem.run_bind, run_convert_bytes_string w src dst e _ _ _ a1 a2 a3, run_bytesToString w _ _ _ ns hl]
  rfl
end
end Go.Sl

/- The book of lists that were handed out: words; walks: word, keep. -/
set_option linter.unusedVariables false
set_option linter.unusedSimpArgs false
namespace Go.Proofs.Ytoodgenbcfdloaa
open Go Go.Sl Go.RowKit
set_option maxRecDepth 100000
attribute [local irreducible] CW LW DW FR DP Calls
set_option maxHeartbeats 1000000 in
theorem word_call (W w : World) (L : List HProp) (n : Int) (hs : Sat W w L) (hn : 0 ≤ n ∧ n ≤ 9223372036854775807) :
    Calls Try.prog 74 [Value.int .i64 n].toArray w (Ret fun v w' => ∃ x : Nm, v = sv x ∧ x.length ≤ 13 ∧ Sat W w' L) := by
  refine Calls_of Try.func74 rfl 20 Try.ntmps74 rfl ?_
  (repeat' (first | (refine isLW ?_; first | refine LW_nil ?_ | refine LW_pure TOK rfl ?_) | (with_reducible first | refine then_n ?_ | refine CW_seq ?_ | refine CW_region ?_ | refine CW_block ?_)))
  refine CW_loop (γ := Nat × Int × ByteArray) (fun g => [(0, .int .i64 g.2.1), (3, .string g.2.2), (4, .int .i64 (g.1 : Int))]) (fun g w' => Sat W w' L ∧ g.1 ≤ 12 ∧ (0 ≤ g.2.1 ∧ g.2.1 ≤ 9223372036854775807) ∧ g.2.2.size ≤ 1 + g.1) (fun g => 12 - g.1) (0, n, ⟨#[32]⟩) ⟨rfl, rfl, rfl, trivial⟩ ⟨hs, Nat.zero_le _, hn, Nat.le_refl 1⟩ ?_
  clear hs hn
  rintro ⟨i, n, t⟩ τ w ⟨hs, hi, hn, ht⟩
  dsimp only at hs hi hn ht ⊢
  by_cases hlt : i < 12
  · have h1 := Int.tmod_nonneg (26 : Int) hn.1
    have h2 := Int.tmod_lt_of_pos n (show (0 : Int) < 26 by decide)
    obtain ⟨m, hm⟩ : ∃ m, n.tmod 26 = m := ⟨_, rfl⟩
    rw [hm] at h1 h2
    have h3 := Int.tdiv_nonneg hn.1 (show (0 : Int) ≤ 26 by decide)
    have h4 : n.tdiv 26 ≤ n := Int.tdiv_le_self _ hn.1
    obtain ⟨k, hk⟩ : ∃ k, n.tdiv 26 = k := ⟨_, rfl⟩
    rw [hk] at h3 h4
    obtain ⟨z, hz⟩ := byte_of (97 + m)
    (repeat' (first | (refine isLW ?_; first | refine LW_nil ?_ | (refine isLbin ?_; first | refine LW_divE m rfl rfl (by omega) rfl hm ?_ | refine LW_divE k rfl rfl (by omega) rfl (by rw [hk]; exact wrap_i64 (by omega) (by omega)) ?_ | refine LW_i64 rfl (by omega) (by omega) ?_ | (refine LW_cmp rfl (fun _ => ?_) (fun _ => ?_) <;> try (exfalso; omega))) | refine LW_convE (z.toNat : Int) TOK rfl rfl rfl rfl hz ?_ | refine LW_bytesStr 0 (ns := [(z.toNat : Int)]) TOK hs rfl rfl rfl rfl rfl rfl rfl rfl rfl ?_ | refine LW_strCat rfl rfl (by have e1 : (bytesOf [(z.toNat : Int)]).size = 1 := rfl; omega) ?_ | refine LW_pure TOK rfl ?_ | (refine LW_buildSlice TOK hs rfl rfl rfl rfl rfl rfl rfl ?_; clear hs; intro _ w hs)) | (with_reducible first | refine then_n ?_ | refine CW_seq ?_ | refine CW_region ?_ | refine CW_block ?_ | refine CW_skip ?_ | refine blk_n ?_) | refine CW_true rfl ?_))
    refine ⟨(i + 1, k, t ++ bytesOf [(z.toNat : Int)]), _, FR_forget _ ⟨rfl, rfl, (by push_cast; rfl), trivial⟩, ⟨hs.drop1, hlt, ⟨h3, by dsimp only; omega⟩, ?_⟩, by dsimp only; omega⟩
    dsimp only
    rw [ByteArray.size_append]
    have e1 : (bytesOf [(z.toNat : Int)]).size = 1 := rfl
    omega
  · (repeat' (first | (refine isLW ?_; first | refine LW_nil ?_ | (refine isLbin ?_; first | (refine LW_cmp rfl (fun _ => ?_) (fun _ => ?_) <;> try (exfalso; omega))) | refine LW_pure TOK rfl ?_) | (with_reducible first | refine then_n ?_ | refine CW_seq ?_ | refine CW_region ?_ | refine CW_exit ?_ | refine CW_ret ?_ | refine then_e ?_ | refine blk_same ?_) | refine CW_false rfl ?_ | refine RET1 Try.results74 rfl ?_))
    refine ⟨t.data.toList, ?_, ?_, hs⟩
    · unfold sv; simp
    · have : t.data.toList.length = t.size := by rw [Array.length_toList]; rfl
      omega
abbrev Hd := Option Addr × Nat × Nat
/-- The book's parts: the lists that are kept, their marks, the longer ones. -/
structure Bk where
  LA : Option Addr
  lc : Nat
  ls : List Hd
  MA : Option Addr
  mc : Nat
  ms : List UInt8
  FA : Option Addr
  fc : Nat
  fs : List Hd
  NA : Option Addr
  nc : Nat
  ns : List Hd
  SA : Option Addr
  sc : Nat
  ss : List Nm
  TA : Option Addr
  tc : Nat
  ts : List Nm
  HA : Option Addr
  hc : Nat
  hh : List Hd
  IA : Option Addr
  ic : Nat
  ii : List Hd
  JA : Option Addr
  jc : Nat
  jj : List Hd
theorem Sat.snocB {W w : World} {L l : List HProp} {p : HProp} (hs : Sat W w (p :: Big l :: L)) : Sat W w (Big (l ++ [p]) :: L) := by
  have h1 : Sat W w (p :: ([] ++ Big (l ++ []) :: L)) := by rw [List.append_nil]; exact hs
  exact Sat.closeBig h1
theorem rd_lt {α : Type} [Inhabited α] {xs : List α} {i : Nat} (h : i < xs.length) : rd xs (i : Int) = xs[i] := rd_at h
theorem rd_snocL {α : Type} [Inhabited α] {xs : List α} {z : α} {i : Nat} (h : i < xs.length) : rd (xs ++ [z]) (i : Int) = rd xs (i : Int) := by
  rw [rd_lt (by rw [List.length_append]; omega), rd_lt h, List.getElem_append_left h]
theorem rd_snocR {α : Type} [Inhabited α] {xs : List α} {z : α} : rd (xs ++ [z]) (xs.length : Int) = z := by
  rw [rd_lt (by rw [List.length_append]; simp)]; simp
section kinds
variable {μ : Type} (Own : Hd × μ → HProp)
def ownL (ls : List Hd) (ms : List μ) (k : Nat) : List HProp := ((ls.zip ms).drop k).map Own
variable {Own}
theorem ownL_snoc {ls : List Hd} {ms : List μ} {k : Nat} {h : Hd} {m : μ} (hl : ms.length = ls.length) (hk : k ≤ ls.length) : ownL Own (ls ++ [h]) (ms ++ [m]) k = ownL Own ls ms k ++ [Own (h, m)] := by
  unfold ownL
  rw [List.zip_append hl.symm, List.drop_append_of_le_length (by rw [List.length_zip]; omega), List.map_append]; rfl
theorem ownL_all {ls : List Hd} {ms : List μ} {k : Nat} (hk : ls.length ≤ k) : ownL Own ls ms k = [] := by
  unfold ownL
  rw [List.drop_of_length_le (by rw [List.length_zip]; omega)]; rfl
end kinds
section kinds2
variable {μ : Type} [Inhabited μ]
theorem ownL_cons {Own : Hd × μ → HProp} {ls : List Hd} {ms : List μ} {k : Nat} (hl : ms.length = ls.length) (hk : k < ls.length) : ownL Own ls ms k = Own (rd ls (k : Int), rd ms (k : Int)) :: ownL Own ls ms (k + 1) := by
  unfold ownL
  rw [List.drop_eq_getElem_cons (by rw [List.length_zip]; omega), List.map_cons, List.getElem_zip, rd_lt hk, rd_lt (by omega)]
def Done (In : List HProp → Hd → μ → Prop) (pool : List HProp) (ls : List Hd) (ms : List μ) (hs : List Hd) : Prop := ∀ i : Nat, i < hs.length → In pool (rd ls (i : Int)) (rd ms (i : Int)) ∧ In pool (rd hs (i : Int)) (rd ms (i : Int))
variable {In : List HProp → Hd → μ → Prop}
theorem Done.more {pool rows : List HProp} {ls hs : List Hd} {ms : List μ} (hm : ∀ {h m}, In pool h m → In (rows ++ pool) h m) (h : Done In pool ls ms hs) : Done In (rows ++ pool) ls ms hs := fun i hi => ⟨hm (h i hi).1, hm (h i hi).2⟩
theorem Done.ext {pool : List HProp} {ls hs : List Hd} {ms : List μ} {l : Hd} {m : μ} (h : Done In pool ls ms hs) (h1 : hs.length ≤ ls.length) (h2 : ms.length = ls.length) : Done In pool (ls ++ [l]) (ms ++ [m]) hs := fun i hi => by
  rw [rd_snocL (by omega), rd_snocL (by omega)]
  exact h i hi
theorem Done.next {pool : List HProp} {ls hs : List Hd} {ms : List μ} {g : Hd} (h : Done In pool ls ms hs) (h1 : In pool (rd ls (hs.length : Int)) (rd ms (hs.length : Int))) (h2 : In pool g (rd ms (hs.length : Int))) : Done In pool ls ms (hs ++ [g]) := fun i hi => by
  rw [List.length_append, List.length_singleton] at hi
  by_cases hc : i < hs.length
  · rw [rd_snocL hc]; exact h i hc
  · have : i = hs.length := by omega
    subst this
    rw [rd_snocR]; exact ⟨h1, h2⟩
end kinds2
def OwnB (p : Hd × UInt8) : HProp := RowOf eB 5 1 p.1.1 p.1.2.2 (List.replicate p.1.2.1 p.2)
def OwnN (p : Hd × Nm) : HProp := RowOf eN 9 1 p.1.1 p.1.2.2 (List.replicate p.1.2.1 p.2)
def OwnF (p : Hd × Nm) : HProp := fun f => ∃ rs : List RF, rs.length = p.1.2.1 ∧ (∀ r ∈ rs, r.n = p.2) ∧ sepL [RowOf eF 30 2 p.1.1 p.1.2.2 rs] f
def InB (pool : List HProp) (h : Hd) (m : UInt8) : Prop := h.2.1 = 0 ∨ ∃ zs c, RowOf eB 5 1 h.1 c zs ∈ pool ∧ h.2.1 ≤ zs.length ∧ ∀ z ∈ zs, z = m
def InN (pool : List HProp) (h : Hd) (m : Nm) : Prop := h.2.1 = 0 ∨ ∃ zs c, RowOf eN 9 1 h.1 c zs ∈ pool ∧ h.2.1 ≤ zs.length ∧ ∀ z ∈ zs, z = m
def InF (pool : List HProp) (h : Hd) (m : Nm) : Prop := h.2.1 = 0 ∨ ∃ (zs : List RF) (c : Nat), RowOf eF 30 2 h.1 c zs ∈ pool ∧ h.2.1 ≤ zs.length ∧ ∀ z ∈ zs, z.n = m
theorem InB.more {pool rows : List HProp} {h : Hd} {m : UInt8} (k : InB pool h m) : InB (rows ++ pool) h m := k.imp_right fun ⟨zs, c, h1, h2⟩ => ⟨zs, c, List.mem_append_right _ h1, h2⟩
theorem InN.more {pool rows : List HProp} {h : Hd} {m : Nm} (k : InN pool h m) : InN (rows ++ pool) h m := k.imp_right fun ⟨zs, c, h1, h2⟩ => ⟨zs, c, List.mem_append_right _ h1, h2⟩
theorem InF.more {pool rows : List HProp} {h : Hd} {m : Nm} (k : InF pool h m) : InF (rows ++ pool) h m := k.imp_right fun ⟨zs, c, h1, h2⟩ => ⟨zs, c, List.mem_append_right _ h1, h2⟩
abbrev Bk.C (b : Bk) : List Value := [.slice b.LA b.ls.length b.lc, .slice b.MA b.ms.length b.mc, .slice b.FA b.fs.length b.fc, .slice b.NA b.ns.length b.nc, .slice b.SA b.ss.length b.sc, .slice b.TA b.ts.length b.tc, .slice b.HA b.hh.length b.hc, .slice b.IA b.ii.length b.ic, .slice b.JA b.jj.length b.jc]
abbrev Bk.L (bb : Nat) (b : Bk) (pool : List HProp) : List HProp := [Cl bb b.C 79, RowOf eH 23 1 b.LA b.lc b.ls, RowOf eB 5 1 b.MA b.mc b.ms, RowOf eH 22 1 b.FA b.fc b.fs, RowOf eH 72 1 b.NA b.nc b.ns, RowOf eN 9 1 b.SA b.sc b.ss, RowOf eN 9 1 b.TA b.tc b.ts, RowOf eH 23 1 b.HA b.hc b.hh, RowOf eH 22 1 b.IA b.ic b.ii, RowOf eH 72 1 b.JA b.jc b.jj, Big (ownL OwnB b.ls b.ms b.hh.length), Big (ownL OwnF b.fs b.ss b.ii.length), Big (ownL OwnN b.ns b.ts b.jj.length), Big pool]
structure BkOK (b : Bk) (pool : List HProp) : Prop where
  lm : b.ms.length = b.ls.length
  fs : b.ss.length = b.fs.length
  nt : b.ts.length = b.ns.length
  hl : b.hh.length ≤ b.ls.length
  il : b.ii.length ≤ b.fs.length
  jl : b.jj.length ≤ b.ns.length
  dl : Done InB pool b.ls b.ms b.hh
  df : Done InF pool b.fs b.ss b.ii
  dn : Done InN pool b.ns b.ts b.jj
  ll : ∀ h ∈ b.ls, h.2.1 ≤ 1099511627776
  fl : ∀ h ∈ b.fs, h.2.1 ≤ 1099511627776
  nl : ∀ h ∈ b.ns, h.2.1 ≤ 1099511627776
  sl : ∀ x ∈ b.ss, x.length ≤ 13
  tl : ∀ x ∈ b.ts, x.length ≤ 13
  gl : ∀ h ∈ b.hh, h.2.1 ≤ 4398046511104
  gi : ∀ h ∈ b.ii, h.2.1 ≤ 4398046511104
  gj : ∀ h ∈ b.jj, h.2.1 ≤ 4398046511104
/-- A list of bytes has been kept. -/
def Bk.kept (b : Bk) (LA : Option Addr) (lc : Nat) (MA : Option Addr) (mc : Nat) (h : Hd) (m : UInt8) : Bk := { b with LA := LA, lc := lc, ls := b.ls ++ [h], MA := MA, mc := mc, ms := b.ms ++ [m] }
theorem BkOK.kept {b : Bk} {pool : List HProp} (k : BkOK b pool) (LA : Option Addr) (lc : Nat) (MA : Option Addr) (mc : Nat) {h : Hd} (m : UInt8) (hh : h.2.1 ≤ 1099511627776) : BkOK (b.kept LA lc MA mc h m) pool :=
  { lm := by show (b.ms ++ [m]).length = (b.ls ++ [h]).length; rw [List.length_append, List.length_append, k.lm]; rfl
    fs := k.fs, nt := k.nt
    hl := by show _ ≤ (b.ls ++ [h]).length; rw [List.length_append]; exact Nat.le_add_right_of_le k.hl
    il := k.il, jl := k.jl
    dl := k.dl.ext k.hl k.lm
    df := k.df, dn := k.dn
    ll := fun x hx => by
      rcases List.mem_append.1 hx with hx | hx
      · exact k.ll x hx
      · rw [List.mem_singleton.1 hx]; exact hh
    fl := k.fl, nl := k.nl, sl := k.sl, tl := k.tl, gl := k.gl, gi := k.gi, gj := k.gj }
theorem set_full {x : List UInt8} {m : UInt8} {i : Nat} (h : x.take i = List.replicate i m) (hi : i < x.length) : (x.set i m).take (i + 1) = List.replicate (i + 1) m := by
  rw [List.take_add_one, List.take_set_of_le (Nat.le_refl _), h, List.getElem?_set_self hi, List.replicate_succ']; rfl
set_option maxHeartbeats 4000000 in
theorem keep_call (W w : World) (L : List HProp) (bb : Nat) (b : Bk) (pool : List HProp) (A : Option Addr) (c : Nat) (y : List UInt8) (hs : Sat W w (RowOf eB 5 1 A c y :: (b.L bb pool ++ L))) (ok : BkOK b pool) (hl : b.ls.length ≤ 1000000000) (hy : y.length ≤ 1099511627776) :
    Calls Try.prog 41 [Value.pointer (some ⟨bb, 0, none⟩), .slice A y.length c].toArray w (Ret fun v w' => v = .tuple #[] ∧ ∃ LA lc MA mc m, Sat W w' ((b.kept LA lc MA mc (A, y.length, c) m).L bb pool ++ L)) := by
  refine Calls_of Try.func41 rfl 44 Try.ntmps41 rfl ?_
  have hlm := ok.lm
  have h2 := Int.tmod_lt_of_pos (b.ls.length : Int) (show (0 : Int) < 250 by decide)
  have h1 := Int.tmod_nonneg (250 : Int) (show (0 : Int) ≤ (b.ls.length : Int) by omega)
  obtain ⟨e, he⟩ : ∃ e, (b.ls.length : Int).tmod 250 = e := ⟨_, rfl⟩
  rw [he] at h1 h2
  obtain ⟨m, hz⟩ := byte_of (1 + e)
  (repeat' (first | (refine isLW ?_; first | refine LW_nil ?_ | (refine isLload ?_; first | refine LW_loadC 1 TOK hs rfl rfl rfl rfl rfl ?_) | (refine isLcall ?_; first | refine LW_pure TOK rfl ?_) | (refine isLbin ?_; first | refine LW_divE e rfl rfl (by omega) rfl he ?_ | refine LW_i64 rfl (by omega) (by omega) ?_) | refine LW_convE (m.toNat : Int) TOK rfl rfl rfl rfl hz ?_ | refine LW_pure TOK rfl ?_) | (with_reducible first | refine then_n ?_ | refine CW_seq ?_ | refine CW_region ?_ | refine CW_block ?_)))
  refine CW_loop (γ := Nat × List UInt8) (fun g => [(0, .pointer (some ⟨bb, 0, none⟩)), (1, .slice A y.length c), (4, .int .u8 (m.toNat : Int)), (5, .int .i64 (g.1 : Int))])
    (fun g w' => Sat W w' (RowOf eB 5 1 A c g.2 :: (b.L bb pool ++ L)) ∧ g.2.length = y.length ∧ g.1 ≤ y.length ∧ g.2.take g.1 = List.replicate g.1 m) (fun g => y.length - g.1) (0, y) ⟨rfl, rfl, rfl, rfl, trivial⟩ ⟨hs, rfl, Nat.zero_le _, rfl⟩ ?_
  clear hs
  rintro ⟨i, x⟩ τ w ⟨hs, hx, hi, hr⟩
  dsimp only at hs hx hi hr ⊢
  by_cases hil : i < y.length
  · (repeat' (first | (refine isLW ?_; first | refine LW_nil ?_ | (refine isLstore ?_; first | (refine LW_storeRow 0 eB_ok (z := m) hs TOK rfl (by assumption) rfl rfl rfl rfl rfl (by omega) (by omega) ?_; clear hs; intro w hs)) | (refine isLcall ?_; first | refine LW_pure TOK rfl ?_) | (refine isLidx ?_; first | (refine LW_indexRdN (hs.rd 0 rfl) TOK rfl rfl rfl rfl rfl (by omega) (by omega) (by omega) ?_; intro _ _ _)) | (refine isLbin ?_; first | refine LW_i64 rfl (by omega) (by omega) ?_ | (refine LW_cmp rfl (fun _ => ?_) (fun _ => ?_) <;> try (exfalso; omega))) | refine LW_pure TOK rfl ?_) | (with_reducible first | refine then_n ?_ | refine CW_seq ?_ | refine CW_region ?_ | refine CW_block ?_ | refine CW_skip ?_ | refine blk_n ?_) | refine CW_true rfl ?_))
    exact ⟨(i + 1, x.set i m), _, FR_forget _ ⟨rfl, rfl, rfl, (by push_cast; rfl), trivial⟩, ⟨hs, by simpa using hx, hil, set_full hr (by omega)⟩, by dsimp only; omega⟩
  · have hxm : x = List.replicate y.length m := by
      have hib : i = y.length := by omega
      rw [hib, List.take_of_length_le (by omega)] at hr
      exact hr
    subst hxm
    (repeat' (first | (refine isLW ?_; first | refine LW_nil ?_ | (refine isLload ?_; first | refine LW_loadC 1 TOK hs rfl rfl rfl rfl rfl ?_) | (refine isLstore ?_; first | (refine LW_storeC 1 TOK hs rfl rfl rfl rfl rfl rfl rfl ?_; clear hs; intro w hs)) | (refine isLcall ?_; first | (refine LW_append1 2 (z := ((A, y.length, c) : Hd)) eH_ok hs TOK rfl rfl rfl rfl rfl rfl rfl rfl rfl rfl (by unfold maxLen; omega) (by simp only []; omega) ?_; clear hs; intro LA lc w hs) | (refine LW_append1 3 (z := m) eB_ok hs TOK rfl rfl rfl rfl rfl rfl rfl rfl rfl rfl (by unfold maxLen; omega) (by simp only []; omega) ?_; clear hs; intro MA mc w hs) | refine LW_pure TOK rfl ?_) | (refine isLbin ?_; first | (refine LW_cmp rfl (fun _ => ?_) (fun _ => ?_) <;> try (exfalso; omega))) | refine LW_pure TOK rfl ?_ | (refine LW_buildSlice TOK hs rfl rfl rfl rfl rfl rfl rfl ?_; clear hs; intro _ w hs)) | (with_reducible first | refine then_n ?_ | refine CW_seq ?_ | refine CW_region ?_ | refine CW_exit ?_ | refine then_e ?_ | refine blk_same ?_) | refine CW_false rfl ?_ | refine RET0 Try.results41 ?_))
    have hs0 : Sat W w (OwnB ((A, y.length, c), m) :: Cl bb (b.kept LA lc MA mc (A, y.length, c) m).C 79 :: RowOf eH 23 1 LA lc (b.ls ++ [(A, y.length, c)]) :: RowOf eB 5 1 MA mc (b.ms ++ [m]) :: RowOf eH 22 1 b.FA b.fc b.fs :: RowOf eH 72 1 b.NA b.nc b.ns :: RowOf eN 9 1 b.SA b.sc b.ss :: RowOf eN 9 1 b.TA b.tc b.ts :: RowOf eH 23 1 b.HA b.hc b.hh :: RowOf eH 22 1 b.IA b.ic b.ii :: RowOf eH 72 1 b.JA b.jc b.jj :: Big (ownL OwnB b.ls b.ms b.hh.length) :: Big (ownL OwnF b.fs b.ss b.ii.length) :: Big (ownL OwnN b.ns b.ts b.jj.length) :: Big pool :: L) := hs
    clear hs
    have h1 := Sat.snocB (hs0.picks [0, 10])
    rw [← ownL_snoc hlm ok.hl] at h1
    exact ⟨rfl, LA, lc, MA, mc, m, h1.picks [1, 1, 1, 1, 1, 1, 1, 1, 1, 1, 0]⟩
end Go.Proofs.Ytoodgenbcfdloaa
