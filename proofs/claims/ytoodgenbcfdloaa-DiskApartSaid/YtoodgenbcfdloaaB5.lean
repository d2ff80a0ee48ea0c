/- DiskAgain: small parts. -/
import Derived.Test.YtoodgenbcfdloaaQ19
import Derived.Test.YtoodgenbcfdloaaG22
set_option linter.unusedVariables false
set_option linter.unusedSimpArgs false
namespace Go.Proofs.Ytoodgenbcfdloaa
open Go Go.Sl Go.RowKit
set_option maxRecDepth 100000
attribute [local irreducible] CW LW DW FR DP Calls
theorem pair32 : PairEq Try.prog 32 :=
  PairEq.mk' (t1 := 3) (t2 := 3) (hu := (ty_info (TOK 32 _ rfl)).1) (by kernel_rfl) (by kernel_rfl) (by decide) (by decide) rfl rfl (ty_info (TOK 3 _ rfl)).1 (ty_info (TOK 3 _ rfl)).1
theorem tmod_small (a : Int) {m : Int} (hm : 0 < m) (hb : m ≤ 9223372036854775807) : -9223372036854775808 ≤ a.tmod m ∧ a.tmod m ≤ 9223372036854775807 ∧ -m < a.tmod m ∧ a.tmod m < m := by
  have h1 := Int.tmod_lt_of_pos a hm
  have h2 : -m < a.tmod m := by
    have h3 := Int.tmod_lt_of_pos (-a) hm
    rw [Int.neg_tmod] at h3
    omega
  exact ⟨by omega, by omega, h2, h1⟩
theorem spot_call (w : World) (i m : Int) (hm : 0 < m) (hb : m ≤ 9223372036854775807) :
    Calls Try.prog 28 [Value.int .i64 i, .int .i64 m].toArray w (Ret fun v w' => ∃ j : Int, v = .int .i64 j ∧ 0 ≤ j ∧ j < m ∧ w = w') := by
  refine Calls_of Try.func28 rfl 15 Try.ntmps28 rfl ?_
  obtain ⟨h1, h2, h3, h4⟩ := tmod_small i hm hb
  obtain ⟨e, he⟩ : ∃ e, i.tmod m = e := ⟨_, rfl⟩
  rw [he] at h1 h2 h3 h4
  have hm0 : ¬ m = 0 := by omega
  (repeat' (first | (refine isLW ?_; first | refine LW_nil ?_ | (refine isLbin ?_; first | refine LW_divE e rfl rfl hm0 rfl he ?_ | refine LW_i64 rfl (by omega) (by omega) ?_ | (refine LW_cmp rfl (fun _ => ?_) (fun _ => ?_) <;> try (exfalso; omega))) | refine LW_pure TOK rfl ?_) | (with_reducible first | refine then_n ?_ | refine CW_seq ?_ | refine CW_region ?_ | refine CW_skip ?_ | refine CW_ret ?_) | refine CW_true rfl ?_ | refine CW_false rfl ?_ | refine RET1 Try.results28 rfl ?_))
  · exact ⟨_, rfl, by omega, by omega, rfl⟩
  · exact ⟨_, rfl, by omega, by omega, rfl⟩
/-- The disk that is appended to. -/
def zD (b : List UInt8) : DS := ⟨4194304, [⟨b, 1⟩], [(zN, 0)], [(zN, 0)], [], none, false⟩
theorem zD_rdy : zD [7] = rdyD 4194304 := rfl
theorem zD_find (b : List UInt8) : (zD b).find zN = (0, 0) := by rfl
theorem zD_taken (b : List UInt8) : (zD b).taken = b.length := by
  show ([(zN, 0)].map fun p : Nm × Nat => ((zD b).dat p.2).length).sum + 0 = b.length
  show b.length + 0 + 0 = b.length
  omega
theorem zD_append (b ys : List UInt8) (h : b.length + ys.length ≤ 4194304) : (zD b).append zN ys = (0, zD (b ++ ys)) := by
  have hf : (zD b).free = 4194304 - b.length := by
    unfold DS.free
    rw [zD_taken]; rfl
  unfold DS.append
  rw [zD_find, if_pos rfl, hf, if_neg (by omega)]
  rfl
theorem zD_read (b : List UInt8) : (zD b).read zN = b := by rfl
theorem zD_good {b : List UInt8} (h : Good (zD b)) {ys : List UInt8} (hl : b.length + ys.length ≤ 4194304) : Good (zD (b ++ ys)) := by
  have := h.append zN ys
  rwa [zD_append b ys hl] at this
theorem zD_fit {b : List UInt8} (h : Good (zD b)) : Fit (zD b) := fit_of h (by simp [zD]) (by simp [zD])
set_option maxHeartbeats 1000000 in
theorem rLoadPK (W : World) (q : Int) (F : List File) (A : Option Addr) (c : Nat) (ra : RdF W A F) (hl : F.length ≤ 1048576) (hd : ∀ f ∈ F, f.2.length ≤ 140737488351232) (hnm : ∀ f ∈ F, f.1.length ≤ 140737488355328) (hq : -9223372036854775808 ≤ q ∧ q ≤ 9223372036854775807) (hsum : sumLen F ≤ 9223372036854775807) :
    Calls Try.prog 19 [Value.int .i64 q, .slice A F.length c].toArray W (Ret fun v w' =>
      ((load q (sumW F) F).1 ≠ 0 ∧ v = .tuple #[.agg (eK noK).toArray, .int .i64 (load q (sumW F) F).1] ∧ Sat W w' []) ∨
      ((load q (sumW F) F).1 = 0 ∧ ∃ k pool, v = .tuple #[.agg (eK k).toArray, .int .i64 0] ∧ PK (load q (sumW F) F).2 k pool ∧ (load q (sumW F) F).2.fs.length ≤ 1048576 ∧ Sat W w' [Big pool])) := by
  refine Calls.ret (rLoad_call W q F A c ra (by omega) (fun f hf => by have := hd f hf; omega) hnm hq) ?_
  rintro v w' (h | ⟨h0, TA, tc, th, NA, nc, rfl, hth1, hth2, hs, hres⟩)
  · exact .inl h
  obtain ⟨fs, now, hst, he⟩ := load_lst h0
  have he2 := he
  rw [hres] at he
  injection he with _ e1 e2
  rw [← e1, ← e2] at hst
  have hg : Good (load q (sumW F) F).2 := by
    have h0' := h0
    rw [sumW_eq F hsum] at h0' ⊢
    exact (load_good h0').1
  have hfl : (load q (sumW F) F).2.fs.length ≤ 1048576 := by rw [hres]; show (flsF F).length ≤ _; rw [hst.fsE, List.length_map]; omega
  refine .inr ⟨h0, ⟨q, beginS TA tc th NA nc (beginN 0 [] F), -1, false⟩, [RowOf eT 111 3 TA tc th, RowOf eE 113 2 NA nc (beginN 0 [] F)] ++ th.map RTh.P, rfl, ⟨⟨?_, ?_, ?_, ?_⟩, ⟨.inr ?_, ?_, .inr ?_, .inr ?_, .inl rfl⟩, hg, by omega, ?_, ?_⟩, hfl, ?_⟩
  · rw [hres]
    show q = (q.toNat : Int)
    have : ¬ q < 0 := fun hq0 => by
      unfold load at h0
      rw [if_pos (.inl hq0)] at h0
      cases h0
    omega
  · rw [hres]; exact rep_begin hth1 hth2 hst
  · rw [hres]; rfl
  · rw [hres]
  · simp [beginS]
  · intro t ht
    exact .inr (List.mem_append_right _ (List.mem_map.2 ⟨t, ht, rfl⟩))
  · simp [beginS]
  · simp [beginS]
  · rw [hres]; exact Nat.zero_le _
  · rw [hres]; show leftI none ≤ _; decide
  · have h2 : Sat W w' ([RowOf eT 111 3 TA tc th, RowOf eE 113 2 NA nc (beginN 0 [] F)] ++ (Big (th.map RTh.P) :: [])) := hs
    have h3 := Sat.bigs (Sat.mkBig h2)
    exact h3
/-- Pairs of numbers. -/
def behN : Nm := [98, 101, 104, 105, 110, 100]
set_option maxHeartbeats 1000000 in
theorem behind_call (w : World) (rs : List RF) (rb : RF) (cuts : List (Int × Int)) (A C : Option Addr) (c cc : Nat) (ra : Rd eF w A (rs ++ [rb])) (hn : rb.n = behN) (hd : rb.data = [77]) (rdb : Rd eB w rb.A rb.data) (rc : Rd eP w C (cuts ++ [(-77, -78)])) (hl : rs.length ≤ 4611686018427387904) (hcl : cuts.length ≤ 4611686018427387904) :
    Calls Try.prog 30 [Value.slice A (rs ++ [rb]).length c, .int .i64 (rs.length : Int), .slice C (cuts ++ [((-77 : Int), (-78 : Int))]).length cc, .int .i64 (cuts.length : Int)].toArray w (Ret fun v w' => v = .bool true ∧ Sat w w' []) := by
  refine Calls_of Try.func30 rfl 50 Try.ntmps30 rfl ?_
  have hs := Sat.start w
  have e1 : rd (rs ++ [rb]) (rs.length : Int) = rb := by rw [rd_at (by simp)]; simp
  have e2 : rd (cuts ++ [((-77 : Int), (-78 : Int))]) (cuts.length : Int) = (-77, -78) := by rw [rd_at (by simp)]; simp
  have l1 : ((rs.length : Nat) : Int) < ((rs ++ [rb]).length : Nat) := by rw [List.length_append]; simp; omega
  have l2 : ((cuts.length : Nat) : Int) < ((cuts ++ [((-77 : Int), (-78 : Int))]).length : Nat) := by rw [List.length_append]; simp; omega
  have hdl : rb.data.length = 1 := by rw [hd]; rfl
  have e3 : rd rb.data 0 = 77 := by rw [hd]; rfl
  have eb : sv rb.n = sv behN := by rw [hn]
  (repeat' (first | (refine isLW ?_; first | refine LW_nil ?_ | (refine isLg ?_; first | refine LW_take rfl ?_ | refine LW_pass rfl rfl ?_) | (refine isLload ?_; first | refine LW_loadRd (v := .slice rb.A rb.data.length rb.c) ra (fun _ => rfl) TOK rfl (by assumption) rfl rfl (by omega) (by omega) (by rw [e1]; rfl) ?_ | refine LW_loadRd0 (v := .int .u8 77) rdb (fun _ => rfl) TOK rfl (by assumption) rfl rfl (by omega) (by omega) (by rw [e3]; rfl) ?_ | refine LW_loadRd (v := .int .i64 (-78)) rc (fun _ => rfl) TOK rfl (by assumption) rfl rfl (by omega) (by omega) (by rw [e2]; rfl) ?_ | refine LW_loadRd (ra.of hs) (fun _ => rfl) TOK rfl (by assumption) rfl rfl (by omega) (by omega) rfl ?_ | refine LW_loadRd (rc.of hs) (fun _ => rfl) TOK rfl (by assumption) rfl rfl (by omega) (by omega) rfl ?_) | (refine isLcall ?_; first | refine LW_pure TOK rfl ?_) | (refine isLidx ?_; first | (refine LW_indexRd (ra.of hs) TOK rfl rfl rfl rfl rfl (by omega) (by omega) ?_; intro _ _ _) | (refine LW_indexRd (rdb.of hs) TOK rfl rfl rfl rfl rfl (by omega) (by omega) ?_; intro _ _ _) | (refine LW_indexRd (rc.of hs) TOK rfl rfl rfl rfl rfl (by omega) (by omega) ?_; intro _ _ _)) | (refine isLbin ?_; first | (refine LW_cmp rfl (fun _ => ?_) (fun _ => ?_) <;> try (exfalso; omega))) | refine LW_pure TOK rfl ?_) | (with_reducible first | refine then_n ?_ | refine CW_seq ?_ | refine CW_region ?_ | refine CW_ret ?_) | refine RET1 Try.results30 rfl ?_))
  all_goals first | exact ⟨rfl, hs⟩ | (exfalso; rename_i hx; exact hx (by rw [e2])) | (exfalso; rename_i hx; exact hx (by rw [e1, hn]; rfl))
end Go.Proofs.Ytoodgenbcfdloaa

/- DiskAgain: lists of files whose bytes change, lists of disks and of lists; plain. -/
set_option linter.unusedVariables false
set_option linter.unusedSimpArgs false
namespace Go.Proofs.Ytoodgenbcfdloaa
open Go Go.Sl Go.RowKit
set_option maxRecDepth 100000
theorem byte_of (x : Int) : ∃ z : UInt8, IntKind.u8.wrap x = (z.toNat : Int) := by
  have h : 0 ≤ IntKind.u8.wrap x ∧ IntKind.u8.wrap x < 256 := by simp [IntKind.wrap, IntKind.bits, IntKind.signed]; omega
  refine ⟨UInt8.ofNat (IntKind.u8.wrap x).toNat, ?_⟩
  rw [UInt8.toNat_ofNat', Nat.mod_eq_of_lt (by omega)]; omega
/-- A file but for its bytes. -/
def RF.sh (r : RF) : Nm × Option Addr × Nat × Nat := (r.n, r.A, r.c, r.data.length)
theorem eF_sh {r r' : RF} (h : r.sh = r'.sh) : eF r = eF r' := by
  simp only [RF.sh, Prod.mk.injEq] at h
  unfold eF
  rw [h.1, h.2.1, h.2.2.1, h.2.2.2]
theorem flat_sh : ∀ {rs rs' : List RF}, rs.map RF.sh = rs'.map RF.sh → rs.flatMap eF = rs'.flatMap eF
  | [], [], _ => rfl
  | [], _ :: _, h => by simp at h
  | _ :: _, [], h => by simp at h
  | r :: rs, r' :: rs', h => by
    simp only [List.map_cons, List.cons.injEq] at h
    rw [List.flatMap_cons, List.flatMap_cons, eF_sh h.1, flat_sh h.2]
theorem rd_sh {w : World} {A : Option Addr} {rs rs' : List RF} (h : rs.map RF.sh = rs'.map RF.sh) (hr : Rd eF w A rs') : Rd eF w A rs := by
  have hl : rs.length = rs'.length := by have := congrArg List.length h; simpa using this
  rcases hr with rfl | ⟨b, o, h1, h2⟩
  · exact .inl (List.eq_nil_of_length_eq_zero hl)
  · refine .inr ⟨b, o, h1, ?_⟩
    rw [flat_sh h]; exact h2
theorem sh_at {rs rs' : List RF} (h : rs.map RF.sh = rs'.map RF.sh) {i : Nat} (hi : i < rs.length) (hi' : i < rs'.length) : rs[i].sh = rs'[i].sh := by
  have := congrArg (fun l => l[i]?) h
  simp only [List.getElem?_map, List.getElem?_eq_getElem hi, List.getElem?_eq_getElem hi', Option.map_some] at this
  exact Option.some.inj this
theorem sh_set {rs rs' : List RF} (h : rs.map RF.sh = rs'.map RF.sh) {i : Nat} {r : RF} (hi : i < rs.length) (hr : r.sh = rs[i].sh) : (rs.set i r).map RF.sh = rs'.map RF.sh := by
  rw [← h, List.map_set, hr]
  apply List.ext_getElem?
  intro j
  rw [List.getElem?_set]
  split
  · rename_i e
    subst e
    simp [hi]
  · rfl
theorem sh_lens {rs rs' : List RF} (h : rs.map RF.sh = rs'.map RF.sh) : rs.length = rs'.length ∧ sumLen (rs.map RF.f) = sumLen (rs'.map RF.f) := by
  refine ⟨by have := congrArg List.length h; simpa using this, ?_⟩
  unfold sumLen
  rw [List.map_map, List.map_map]
  have e : ∀ l : List RF, l.map ((fun f : File => f.2.length) ∘ RF.f) = (l.map RF.sh).map fun x => x.2.2.2 := fun l => by rw [List.map_map]; rfl
  rw [e, e, h]
theorem sh_mem {rs rs' : List RF} (h : rs.map RF.sh = rs'.map RF.sh) {r : RF} (hr : r ∈ rs) : ∃ r' ∈ rs', r.n = r'.n ∧ r.data.length = r'.data.length := by
  have : r.sh ∈ rs'.map RF.sh := h ▸ List.mem_map.2 ⟨r, hr, rfl⟩
  obtain ⟨r', h1, h2⟩ := List.mem_map.1 this
  simp only [RF.sh, Prod.mk.injEq] at h2
  exact ⟨r', h1, h2.1.symm, h2.2.2.2.symm⟩
section
variable {W w : World} {L : List HProp}
theorem Sat.openP {rs : List RF} {k : Nat} (hk : k < rs.length) (hs : Sat W w (Big (rs.map RF.P) :: L)) : Sat W w (RF.P rs[k] :: Big ((rs.take k).map RF.P ++ (rs.drop (k + 1)).map RF.P) :: L) := by
  have e : rs.map RF.P = (rs.take k).map RF.P ++ RF.P rs[k] :: (rs.drop (k + 1)).map RF.P := by
    have h1 : rs = rs.take k ++ rs[k] :: rs.drop (k + 1) := by
      rw [← List.drop_eq_getElem_cons hk, List.take_append_drop]
    exact (congrArg (List.map RF.P) h1).trans (by rw [List.map_append, List.map_cons])
  have hs' : Sat W w ([] ++ Big ((rs.take k).map RF.P ++ RF.P rs[k] :: (rs.drop (k + 1)).map RF.P) :: L) := by rw [← e]; exact hs
  exact Sat.openBig hs'
theorem Sat.closeP {rs : List RF} {k : Nat} {r : RF} (hk : k < rs.length) (hs : Sat W w (RF.P r :: Big ((rs.take k).map RF.P ++ (rs.drop (k + 1)).map RF.P) :: L)) : Sat W w (Big ((rs.set k r).map RF.P) :: L) := by
  have hs' : Sat W w ([] ++ Big ((rs.take k).map RF.P ++ RF.P r :: (rs.drop (k + 1)).map RF.P) :: L) := Sat.closeBig hs
  rw [List.set_eq_take_append_cons_drop, if_pos hk, List.map_append, List.map_cons]
  exact hs'
theorem Sat.openA {α : Type} {f : α → HProp} {xs : List α} {k : Nat} (hk : k < xs.length) (hs : Sat W w (Big (xs.map f) :: L)) : Sat W w (f xs[k] :: Big ((xs.take k).map f ++ (xs.drop (k + 1)).map f) :: L) := by
  have e : xs.map f = (xs.take k).map f ++ f xs[k] :: (xs.drop (k + 1)).map f := by
    have h1 : xs = xs.take k ++ xs[k] :: xs.drop (k + 1) := by
      rw [← List.drop_eq_getElem_cons hk, List.take_append_drop]
    exact (congrArg (List.map f) h1).trans (by rw [List.map_append, List.map_cons])
  have hs' : Sat W w ([] ++ Big ((xs.take k).map f ++ f xs[k] :: (xs.drop (k + 1)).map f) :: L) := by rw [← e]; exact hs
  exact Sat.openBig hs'
theorem Sat.shutA {α : Type} {f : α → HProp} {xs : List α} {k : Nat} (hk : k < xs.length) (hs : Sat W w (f xs[k] :: Big ((xs.take k).map f ++ (xs.drop (k + 1)).map f) :: L)) : Sat W w (Big (xs.map f) :: L) := by
  have hs' : Sat W w ([] ++ Big ((xs.take k).map f ++ f xs[k] :: (xs.drop (k + 1)).map f) :: L) := Sat.closeBig hs
  have e : xs.map f = (xs.take k).map f ++ f xs[k] :: (xs.drop (k + 1)).map f := by
    have h1 : xs = xs.take k ++ xs[k] :: xs.drop (k + 1) := by
      rw [← List.drop_eq_getElem_cons hk, List.take_append_drop]
    exact (congrArg (List.map f) h1).trans (by rw [List.map_append, List.map_cons])
  rw [e]; exact hs'
theorem Sat.snocA {α : Type} {f : α → HProp} {xs : List α} {x : α} (hs : Sat W w (f x :: Big (xs.map f) :: L)) : Sat W w (Big ((xs ++ [x]).map f) :: L) := by
  rw [List.map_append]
  have h1 : Sat W w (f x :: ([] ++ Big (xs.map f ++ []) :: L)) := by rw [List.append_nil]; exact hs
  exact Sat.closeBig h1
/-- A list of files that was told. -/
structure WL where
  A : Option Addr
  c : Nat
  l : List File
  deriving Inhabited
def WL.P (x : WL) : HProp := HF x.A x.c x.l
def eWL (x : WL) : List Value := [.slice x.A x.l.length x.c]
theorem eWL_ok : (∀ x, (eWL x).length = 1) ∧ ∀ x, ∀ u ∈ eWL x, u.oneCell' = true := ⟨fun _ => rfl, fun x u h => by
  simp [eWL] at h
  subst h; rfl⟩
def HDp (p : Nat × DS) : HProp := HD p.1 p.2
def eD (p : Nat × DS) : List Value := [.pointer (some ⟨p.1, 0, none⟩)]
instance : Inhabited DS := ⟨newD 0⟩
theorem eD_ok : (∀ x, (eD x).length = 1) ∧ ∀ x, ∀ u ∈ eD x, u.oneCell' = true := ⟨fun _ => rfl, fun x u h => by
  simp [eD] at h
  subst h; rfl⟩
/-- The files of the caller's list, as they are now. -/
theorem agRd {rs rs0 : List RF} {rb : RF} {A : Option Addr} {c : Nat} (h : rs.map RF.sh = rs0.map RF.sh) (hs : Sat W w (RowOf eF 30 2 A c (rs0 ++ [rb]) :: Big (rs.map RF.P) :: L)) : Rd eF w A rs ∧ ∀ r ∈ rs, Rd eB w r.A r.data :=
  ⟨rd_sh h ((hs.rd 0 rfl).ahead ⟨[rb], rfl⟩), bigRd (hs.picks [1])⟩
end
/-- What turns from round to round. -/
structure AgS where
  i : Nat
  rs : List RF
  buf : List UInt8
  A5 : Option Addr
  c5 : Nat
  book : List UInt8
  A6 : Option Addr
  c6 : Nat
  ds : List (Nat × DS)
  A7 : Option Addr
  c7 : Nat
  ws : List WL
/-- What stays. -/
structure AgC where
  q : Int
  n : Nat
  A0 : Option Addr
  c0 : Nat
  m : Nat
  C : Option Addr
  cc : Nat
  tl : Nat
  T : Option Addr
  tc : Nat
  da : Nat
  A2 : Option Addr
  c2 : Nat
  rs0 : List RF
  rb : RF
  bb : Nat
  A3 : Option Addr
  c3 : Nat
  cuts : List (Int × Int)
  bl : Nat
  A4 : Option Addr
  c4 : Nat
abbrev agL (c : AgC) (g : AgS) : List HProp := [HD c.da (zD g.book), RowOf eF 30 2 c.A2 c.c2 (c.rs0 ++ [c.rb]), Big (g.rs.map RF.P), Cl c.bb [.int .u8 77] 5, RowOf eP 32 2 c.A3 c.c3 (c.cuts ++ [(-77, -78)]), RowOf eB 5 1 c.A4 c.c4 g.buf, RowOf eB 5 1 g.A5 g.c5 g.book, RowOf eD 26 1 g.A6 g.c6 g.ds, Big (g.ds.map HDp), RowOf eWL 22 1 g.A7 g.c7 g.ws, Big (g.ws.map WL.P)]
abbrev agF (c : AgC) (g : AgS) : List (Nat × Value) := [(0, .int .i64 c.q), (1, .slice c.A0 c.n c.c0), (3, .slice c.C c.m c.cc), (4, .slice c.T c.tl c.tc), (11, .pointer (some ⟨c.da, 0, none⟩)), (12, .slice c.A2 (c.rs0 ++ [c.rb]).length c.c2), (13, .slice c.A2 c.n c.c2), (14, .slice c.A3 (c.cuts ++ [((-77 : Int), (-78 : Int))]).length c.c3), (15, .slice c.A4 c.bl c.c4), (16, .slice g.A5 g.book.length g.c5), (17, .slice g.A6 g.ds.length g.c6), (18, .slice g.A7 g.ws.length g.c7), (19, .int .i64 (g.i : Int))]
structure AgOk (c : AgC) (k : Nat) (g : AgS) : Prop where
  sh : g.rs.map RF.sh = c.rs0.map RF.sh
  bl : g.buf.length = c.bl
  book : g.book.length = 1 + k * c.bl
  good : Good (zD g.book)
  dg : ∀ p ∈ g.ds, Fit p.2
  ws : g.ws.map (·.l) = g.ds.map fun p => p.2.files
structure AgK (W : World) (c : AgC) (turns : List (Int × Int)) : Prop where
  q : -9223372036854775808 ≤ c.q ∧ c.q ≤ 9223372036854775807
  n : c.rs0.length = c.n
  nl : c.n ≤ 1048576
  sum : sumLen (c.rs0.map RF.f) ≤ 1048576
  nm : ∀ r ∈ c.rs0, r.n.length ≤ 140737488355328
  m : c.cuts.length = c.m
  ml : c.m ≤ 1048576
  rc : Rd eP W c.C c.cuts
  tl : turns.length = c.tl
  tb : c.tl ≤ 9223372036854775807
  rt : Rd eP W c.T turns
  bl : c.bl ≤ 20000
  rb : c.rb = ⟨behN, some ⟨c.bb, 0, none⟩, 1, [77]⟩
theorem sum_mem {l : List File} {f : File} (h : f ∈ l) : f.2.length ≤ sumLen l := by
  unfold sumLen
  induction l with
  | nil => cases h
  | cons x l ih =>
    simp only [List.map_cons, List.sum_cons]
    rcases List.mem_cons.1 h with rfl | h
    · omega
    · have := ih h; omega
/-- What is known of the files as they are now. -/
theorem AgOk.files {W : World} {c : AgC} {turns : List (Int × Int)} {k : Nat} {g : AgS} (h : AgOk c k g) (hk : AgK W c turns) :
    g.rs.length = c.n ∧ (g.rs.map RF.f).length = c.n ∧ sumLen (g.rs.map RF.f) ≤ 1048576 ∧ (∀ f ∈ g.rs.map RF.f, f.2.length ≤ 1048576) ∧ (∀ f ∈ g.rs.map RF.f, f.1.length ≤ 140737488355328) := by
  obtain ⟨h1, h2⟩ := sh_lens h.sh
  have hn := hk.n
  have hsum := hk.sum
  refine ⟨by omega, by rw [List.length_map]; omega, by omega, fun f hf => ?_, fun f hf => ?_⟩
  · have := sum_mem hf; omega
  · obtain ⟨r, hr, rfl⟩ := List.mem_map.1 hf
    obtain ⟨r', hr', h3, _⟩ := sh_mem h.sh hr
    show r.n.length ≤ _
    rw [h3]; exact hk.nm _ hr'
end Go.Proofs.Ytoodgenbcfdloaa

/- The book of lists that were handed out; walks: tails. -/
set_option linter.unusedVariables false
set_option linter.unusedSimpArgs false
namespace Go.Proofs.Ytoodgenbcfdloaa
open Go Go.Sl Go.RowKit
set_option maxRecDepth 100000
attribute [local irreducible] CW LW DW FR DP Calls
theorem rd_tail (y t : List UInt8) (k : Nat) (hk : k < t.length) : rd (y ++ t) ((y.length + k : Nat) : Int) = t[k] := by
  rw [rd_at (by rw [List.length_append]; omega), List.getElem_append_right (by omega)]
  congr 1
  omega
set_option maxHeartbeats 4000000 in
theorem tails_call (w : World) (A : Option Addr) (c : Nat) (hl : List (Option Addr × Nat × Nat)) (ra : Rd eH w A hl) (hlb : hl.length ≤ 1000000000) (hz : ∀ h ∈ hl, ∃ y : List UInt8, Rd eB w h.1 (y ++ [91, 92, 93]) ∧ h.2.1 = y.length + 3 ∧ y.length ≤ 1099511627776) :
    Calls Try.prog 46 [Value.slice A hl.length c].toArray w (Ret fun v w' => v = .bool true ∧ Sat w w' []) := by
  refine Calls_of Try.func46 rfl 51 Try.ntmps46 rfl ?_
  have hs := Sat.start w
  (repeat' (first | (refine isLW ?_; first | refine LW_nil ?_ | refine LW_pure TOK rfl ?_) | (with_reducible first | refine then_n ?_ | refine CW_seq ?_ | refine CW_region ?_ | refine CW_block ?_)))
  refine CW_loop (γ := Nat) (fun i => [(0, .slice A hl.length c), (3, .int .i64 (i : Int))]) (fun i w' => Sat w w' [] ∧ i ≤ hl.length) (fun i => hl.length - i) 0 ⟨rfl, rfl, trivial⟩ ⟨hs, Nat.zero_le _⟩ ?_
  clear hs
  obtain ⟨w0, hw0⟩ : ∃ w0, w = w0 := ⟨_, rfl⟩
  subst hw0
  rintro i τ w' ⟨hs, hi⟩
  by_cases hlt : i < hl.length
  · obtain ⟨y, ry, hy, hyb⟩ := hz (rd hl (i : Int)) (by rw [rd_at hlt]; exact List.getElem_mem hlt)
    obtain ⟨⟨A1, n1, c1⟩, hh⟩ : ∃ h, rd hl (i : Int) = h := ⟨_, rfl⟩
    rw [hh] at ry hy
    dsimp only at ry hy
    have hzl : (y ++ [91, 92, 93]).length = y.length + 3 := by rw [List.length_append]; rfl
    have e0 : rd (y ++ [91, 92, 93]) ((n1 : Int) - 3) = 91 := by
      have : (n1 : Int) - 3 = ((y.length + 0 : Nat) : Int) := by omega
      rw [this]; exact rd_tail y [91, 92, 93] 0 (by decide)
    have e1 : rd (y ++ [91, 92, 93]) ((n1 : Int) - 3 + 1) = 92 := by
      have : (n1 : Int) - 3 + 1 = ((y.length + 1 : Nat) : Int) := by omega
      rw [this]; exact rd_tail y [91, 92, 93] 1 (by decide)
    have e2 : rd (y ++ [91, 92, 93]) ((n1 : Int) - 3 + 2) = 93 := by
      have : (n1 : Int) - 3 + 2 = ((y.length + 2 : Nat) : Int) := by omega
      rw [this]; exact rd_tail y [91, 92, 93] 2 (by decide)
    (repeat' (first | (refine isLW ?_; first | refine LW_nil ?_ | (refine isLg ?_; first | refine LW_take rfl ?_) | (refine isLload ?_; first | refine LW_loadRd0 (v := .slice A1 n1 c1) (ra.of hs) (fun _ => rfl) TOK rfl (by assumption) rfl rfl (by omega) (by omega) (by rw [hh]; rfl) ?_ | refine LW_loadRd0 (v := .int .u8 91) (ry.of hs) (fun _ => rfl) TOK rfl (by assumption) rfl rfl (by omega) (by omega) (by rw [e0]; rfl) ?_ | refine LW_loadRd0 (v := .int .u8 92) (ry.of hs) (fun _ => rfl) TOK rfl (by assumption) rfl rfl (by omega) (by omega) (by rw [e1]; rfl) ?_ | refine LW_loadRd0 (v := .int .u8 93) (ry.of hs) (fun _ => rfl) TOK rfl (by assumption) rfl rfl (by omega) (by omega) (by rw [e2]; rfl) ?_) | (refine isLcall ?_; first | refine LW_pure TOK rfl ?_) | (refine isLidx ?_; first | (refine LW_indexRdN (ry.of hs) TOK rfl rfl rfl rfl rfl (by omega) (by omega) (by omega) ?_; intro _ _ _) | (refine LW_indexRd (ra.of hs) TOK rfl rfl rfl rfl rfl (by omega) (by omega) ?_; intro _ _ _)) | (refine isLbin ?_; first | refine LW_i64 rfl (by omega) (by omega) ?_ | (refine LW_cmp rfl (fun _ => ?_) (fun _ => ?_) <;> try (exfalso; omega))) | refine LW_pure TOK rfl ?_) | (with_reducible first | refine then_n ?_ | refine CW_seq ?_ | refine CW_region ?_ | refine CW_block ?_ | refine CW_skip ?_ | refine blk_n ?_) | refine CW_true rfl ?_ | refine CW_false rfl ?_))
    exact ⟨i + 1, _, FR_forget _ ⟨rfl, (by push_cast; rfl), trivial⟩, ⟨hs, hlt⟩, by omega⟩
  · (repeat' (first | (refine isLW ?_; first | refine LW_nil ?_ | (refine isLcall ?_; first | refine LW_pure TOK rfl ?_) | (refine isLbin ?_; first | (refine LW_cmp rfl (fun _ => ?_) (fun _ => ?_) <;> try (exfalso; omega))) | refine LW_pure TOK rfl ?_) | (with_reducible first | refine then_n ?_ | refine CW_seq ?_ | refine CW_region ?_ | refine CW_exit ?_ | refine CW_ret ?_ | refine then_e ?_ | refine blk_same ?_) | refine CW_false rfl ?_ | refine RET1 Try.results46 rfl ?_))
    exact ⟨rfl, hs⟩
end Go.Proofs.Ytoodgenbcfdloaa
