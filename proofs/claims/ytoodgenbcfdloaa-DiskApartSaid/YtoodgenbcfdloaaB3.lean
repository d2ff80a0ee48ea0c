/- The book of lists that were handed out; walks: grow. Printed by tools/genb3.py. -/
import Derived.Test.YtoodgenbcfdloaaB2
import Derived.Test.YtoodgenbcfdloaaSlB
set_option linter.unusedVariables false
set_option linter.unusedSimpArgs false
namespace Go.Proofs.Ytoodgenbcfdloaa
open Go Go.Sl Go.RowKit
set_option maxRecDepth 100000
attribute [local irreducible] CW LW DW FR DP Calls
/-- A header's list, while a list is lengthened from it. -/
def HdK {α : Type} (enc : α → List Value) (e : TypeId) (sz : Nat) (P : α → Prop) (K : List HProp) (A : Option Addr) (n : Nat) (Ag : Option Addr) : Prop := n = 0 ∨ Ag = A ∨ ∃ (zs : List α) (c0 : Nat), RowOf enc e sz A c0 zs ∈ K ∧ n ≤ zs.length ∧ ∀ z ∈ zs, P z
theorem HdK.next {α : Type} {enc : α → List Value} {e : TypeId} {sz : Nat} {P : α → Prop} {K K' : List HProp} {A Ag A' : Option Addr} {n cg : Nat} {ys : List α} (h : HdK enc e sz P K A n Ag) (hk : (K' = [] ∧ A' = Ag) ∨ K' = [RowOf enc e sz Ag cg ys]) (hl : n ≤ ys.length) (hp : ∀ z ∈ ys, P z) : HdK enc e sz P (K' ++ K) A n A' := by
  rcases h with h | rfl | ⟨zs, c0, h1, h2, h3⟩
  · exact .inl h
  · rcases hk with ⟨_, rfl⟩ | rfl
    · exact .inr (.inl rfl)
    · exact .inr (.inr ⟨ys, cg, List.mem_append_left _ (List.mem_singleton.2 rfl), hl, hp⟩)
  · exact .inr (.inr ⟨zs, c0, List.mem_append_right _ h1, h2, h3⟩)
theorem HdK.fin {α : Type} {enc : α → List Value} {e : TypeId} {sz : Nat} {P : α → Prop} {K pool : List HProp} {A Ag : Option Addr} {n cg : Nat} {ys : List α} (h : HdK enc e sz P K A n Ag) (hl : n ≤ ys.length) (hp : ∀ z ∈ ys, P z) : n = 0 ∨ ∃ (zs : List α) (c0 : Nat), RowOf enc e sz A c0 zs ∈ ([RowOf enc e sz Ag cg ys] ++ K) ++ pool ∧ n ≤ zs.length ∧ ∀ z ∈ zs, P z := by
  rcases h with h | rfl | ⟨zs, c0, h1, h2, h3⟩
  · exact .inl h
  · exact .inr ⟨ys, cg, List.mem_append_left _ (List.mem_append_left _ (List.mem_singleton.2 rfl)), hl, hp⟩
  · exact .inr ⟨zs, c0, List.mem_append_left _ (List.mem_append_right _ h1), h2, h3⟩
theorem all_snoc {α : Type} {P : α → Prop} {ys : List α} {z : α} (h : ∀ x ∈ ys, P x) (hz : P z) : ∀ x ∈ ys ++ [z], P x := fun x hx => by
  rcases List.mem_append.1 hx with hx | hx
  · exact h x hx
  · rw [List.mem_singleton.1 hx]; exact hz
theorem own_B {h : Hd} {m : UInt8} {W w : World} {L : List HProp} (hs : Sat W w (OwnB (h, m) :: L)) : ∃ ys : List UInt8, ys.length = h.2.1 ∧ (∀ z ∈ ys, z = m) ∧ Sat W w (RowOf eB 5 1 h.1 h.2.2 ys :: L) := ⟨List.replicate h.2.1 m, List.length_replicate, fun z hz => (List.mem_replicate.1 hz).2, hs⟩
theorem own_N {h : Hd} {m : Nm} {W w : World} {L : List HProp} (hs : Sat W w (OwnN (h, m) :: L)) : ∃ ys : List Nm, ys.length = h.2.1 ∧ (∀ z ∈ ys, z = m) ∧ Sat W w (RowOf eN 9 1 h.1 h.2.2 ys :: L) := ⟨List.replicate h.2.1 m, List.length_replicate, fun z hz => (List.mem_replicate.1 hz).2, hs⟩
theorem own_F {h : Hd} {m : Nm} {W w : World} {L : List HProp} (hs : Sat W w (OwnF (h, m) :: L)) : ∃ ys : List RF, ys.length = h.2.1 ∧ (∀ z ∈ ys, z.n = m) ∧ Sat W w (RowOf eF 30 2 h.1 h.2.2 ys :: L) := by
  obtain ⟨ys, ⟨h1, h2⟩, h3⟩ := Sat.unpack (α := List RF) (Φ := fun ys => ys.length = h.2.1 ∧ ∀ r ∈ ys, r.n = m) (M := fun ys => [RowOf eF 30 2 h.1 h.2.2 ys]) hs (fun _ ⟨ys, h1, h2, h3⟩ => ⟨ys, ⟨h1, h2⟩, h3⟩)
  exact ⟨ys, h1, h2, h3⟩
abbrev Bk.Lx (bb : Nat) (b : Bk) (pool o1 o2 o3 : List HProp) : List HProp := [Cl bb b.C 79, RowOf eH 23 1 b.LA b.lc b.ls, RowOf eB 5 1 b.MA b.mc b.ms, RowOf eH 22 1 b.FA b.fc b.fs, RowOf eH 72 1 b.NA b.nc b.ns, RowOf eN 9 1 b.SA b.sc b.ss, RowOf eN 9 1 b.TA b.tc b.ts, RowOf eH 23 1 b.HA b.hc b.hh, RowOf eH 22 1 b.IA b.ic b.ii, RowOf eH 72 1 b.JA b.jc b.jj, Big o1, Big o2, Big o3, Big pool]
/-- What grow leaves as it is. -/
structure GrB (b b' : Bk) : Prop where
  ls : b'.ls = b.ls
  fs : b'.fs = b.fs
  ns : b'.ns = b.ns
def Bk.grownB (b : Bk) (A : Option Addr) (c : Nat) (g : Hd) : Bk := { b with HA := A, hc := c, hh := b.hh ++ [g] }
theorem BkOK.grownB {b : Bk} {pool rows : List HProp} (k : BkOK b pool) (A : Option Addr) (c : Nat) {g : Hd} (hg : g.2.1 ≤ 4398046511104) (hlt : b.hh.length < b.ls.length) (h1 : InB (rows ++ pool) (rd b.ls (b.hh.length : Int)) (rd b.ms (b.hh.length : Int))) (h2 : InB (rows ++ pool) g (rd b.ms (b.hh.length : Int))) : BkOK (b.grownB A c g) (rows ++ pool) :=
  { lm := k.lm, fs := k.fs, nt := k.nt
    hl := by show (b.hh ++ [g]).length ≤ _; rw [List.length_append]; exact hlt
    dl := (k.dl.more InB.more).next h1 h2
    il := k.il
    df := k.df.more InF.more
    jl := k.jl
    dn := k.dn.more InN.more
    gl := fun y hy => by
      rcases List.mem_append.1 hy with hy | hy
      · exact k.gl y hy
      · rw [List.mem_singleton.1 hy]; exact hg
    gi := k.gi
    gj := k.gj
    ll := k.ll, fl := k.fl, nl := k.nl, sl := k.sl, tl := k.tl }
def Bk.grownF (b : Bk) (A : Option Addr) (c : Nat) (g : Hd) : Bk := { b with IA := A, ic := c, ii := b.ii ++ [g] }
theorem BkOK.grownF {b : Bk} {pool rows : List HProp} (k : BkOK b pool) (A : Option Addr) (c : Nat) {g : Hd} (hg : g.2.1 ≤ 4398046511104) (hlt : b.ii.length < b.fs.length) (h1 : InF (rows ++ pool) (rd b.fs (b.ii.length : Int)) (rd b.ss (b.ii.length : Int))) (h2 : InF (rows ++ pool) g (rd b.ss (b.ii.length : Int))) : BkOK (b.grownF A c g) (rows ++ pool) :=
  { lm := k.lm, fs := k.fs, nt := k.nt
    hl := k.hl
    dl := k.dl.more InB.more
    il := by show (b.ii ++ [g]).length ≤ _; rw [List.length_append]; exact hlt
    df := (k.df.more InF.more).next h1 h2
    jl := k.jl
    dn := k.dn.more InN.more
    gl := k.gl
    gi := fun y hy => by
      rcases List.mem_append.1 hy with hy | hy
      · exact k.gi y hy
      · rw [List.mem_singleton.1 hy]; exact hg
    gj := k.gj
    ll := k.ll, fl := k.fl, nl := k.nl, sl := k.sl, tl := k.tl }
def Bk.grownN (b : Bk) (A : Option Addr) (c : Nat) (g : Hd) : Bk := { b with JA := A, jc := c, jj := b.jj ++ [g] }
theorem BkOK.grownN {b : Bk} {pool rows : List HProp} (k : BkOK b pool) (A : Option Addr) (c : Nat) {g : Hd} (hg : g.2.1 ≤ 4398046511104) (hlt : b.jj.length < b.ns.length) (h1 : InN (rows ++ pool) (rd b.ns (b.jj.length : Int)) (rd b.ts (b.jj.length : Int))) (h2 : InN (rows ++ pool) g (rd b.ts (b.jj.length : Int))) : BkOK (b.grownN A c g) (rows ++ pool) :=
  { lm := k.lm, fs := k.fs, nt := k.nt
    hl := k.hl
    dl := k.dl.more InB.more
    il := k.il
    df := k.df.more InF.more
    jl := by show (b.jj ++ [g]).length ≤ _; rw [List.length_append]; exact hlt
    dn := (k.dn.more InN.more).next h1 h2
    gl := k.gl
    gi := k.gi
    gj := fun y hy => by
      rcases List.mem_append.1 hy with hy | hy
      · exact k.gj y hy
      · rw [List.mem_singleton.1 hy]; exact hg
    ll := k.ll, fl := k.fl, nl := k.nl, sl := k.sl, tl := k.tl }
set_option maxHeartbeats 16000000 in
theorem grow_call (W w : World) (L : List HProp) (bb : Nat) (b : Bk) (pool : List HProp) (hs : Sat W w (b.L bb pool ++ L)) (ok : BkOK b pool) (h1 : b.ls.length ≤ 1000000000) (h2 : b.fs.length ≤ 1000000000) (h3 : b.ns.length ≤ 1000000000) :
    Calls Try.prog 43 [Value.pointer (some ⟨bb, 0, none⟩)].toArray w (Ret fun v w' => v = .tuple #[] ∧ ∃ b' pool', BkOK b' pool' ∧ GrB b b' ∧ b'.hh.length = b.ls.length ∧ b'.ii.length = b.fs.length ∧ b'.jj.length = b.ns.length ∧ Sat W w' (b'.L bb pool' ++ L)) := by
  refine Calls_of Try.func43 rfl 174 Try.ntmps43 rfl ?_
  (repeat' (first | (refine isLW ?_; first | refine LW_nil ?_ | (refine isLload ?_; first | refine LW_loadC 0 TOK hs rfl rfl rfl rfl rfl ?_) | (refine isLcall ?_; first | refine LW_pure TOK rfl ?_) | refine LW_pure TOK rfl ?_) | (with_reducible first | refine then_n ?_ | refine CW_seq ?_ | refine CW_region ?_ | refine CW_block ?_)))
  refine CW_loop (γ := Bk × List HProp) (fun g => [(0, .pointer (some ⟨bb, 0, none⟩)), (2, .int .i64 (g.1.hh.length : Int))])
    (fun g w' => Sat W w' (g.1.L bb g.2 ++ L) ∧ BkOK g.1 g.2 ∧ GrB b g.1) (fun g => g.1.ls.length - g.1.hh.length) (b, pool) ⟨rfl, rfl, trivial⟩ ⟨hs, ok, ⟨rfl, rfl, rfl⟩⟩ ?_
  clear hs ok
  skip
  rintro ⟨b', pool'⟩ τ w ⟨hs, ok, gr⟩
  dsimp only at hs ok gr ⊢
  have hlen : b'.ls.length ≤ 1000000000 := by rw [gr.ls]; assumption
  have hml := ok.lm
  have hol := ok.hl
  by_cases hlt : b'.hh.length < b'.ls.length
  case pos =>
    obtain ⟨i, hi⟩ : ∃ i, b'.hh.length = i := ⟨_, rfl⟩
    rw [hi] at hlt
    have ho : Sat W w (Big (ownL OwnB b'.ls b'.ms b'.hh.length) :: _) := hs.picks [10]
    rw [hi, ownL_cons hml hlt] at ho
    have ho2 : Sat W w (OwnB (rd b'.ls (i : Int), rd b'.ms (i : Int)) :: Big (ownL OwnB b'.ls b'.ms (i + 1)) :: _) := Sat.openBig (X := []) (l1 := []) ho
    obtain ⟨y0, hy0, hyp, ho3⟩ := own_B ho2
    have hb : Sat W w (b'.Lx bb pool' (ownL OwnB b'.ls b'.ms (i + 1)) (ownL OwnF b'.fs b'.ss b'.ii.length) (ownL OwnN b'.ns b'.ts b'.jj.length) ++ (RowOf eB 5 1 (rd b'.ls (i : Int)).1 (rd b'.ls (i : Int)).2.2 y0 :: L)) := ho3.picks [2, 2, 2, 2, 2, 2, 2, 2, 2, 2, 1, 1, 1, 1, 0]
    clear hs ho ho2 ho3
    have hs : Sat W w (b'.Lx bb pool' (ownL OwnB b'.ls b'.ms (i + 1)) (ownL OwnF b'.fs b'.ss b'.ii.length) (ownL OwnN b'.ns b'.ts b'.jj.length) ++ (RowOf eB 5 1 (rd b'.ls (i : Int)).1 (rd b'.ls (i : Int)).2.2 y0 :: Big [] :: L)) := (Sat.mkBig (l := []) hb).picks [1, 1, 1, 1, 1, 1, 1, 1, 1, 1, 1, 1, 1, 1, 1]
    clear hb
    have hll : (rd b'.ls (i : Int)).2.1 ≤ 1099511627776 := ok.ll _ (by rw [rd_lt hlt]; exact List.getElem_mem hlt)
    have hlm : i < b'.ms.length := by omega
    obtain ⟨⟨A, n, c⟩, hh⟩ : ∃ h, rd b'.ls (i : Int) = h := ⟨_, rfl⟩
    rw [hh] at hs hll hy0
    dsimp only at hs hll hy0
    rw [hi]
    (repeat' (first | (refine isLW ?_; first | refine LW_nil ?_ | (refine isLload ?_; first | refine LW_loadRd0 (v := .slice A n c) (hs.rd 1 rfl) (fun _ => rfl) TOK rfl (by assumption) rfl rfl (by omega) (by omega) (by rw [hh]; rfl) ?_ | refine LW_loadC 0 TOK hs rfl rfl rfl rfl rfl ?_) | (refine isLcall ?_; first | refine LW_pure TOK rfl ?_) | (refine isLidx ?_; first | (refine LW_indexRd (hs.rd 1 rfl) TOK rfl rfl rfl rfl rfl (by omega) (by omega) ?_; intro _ _ _)) | (refine isLbin ?_; first | (refine LW_cmp rfl (fun _ => ?_) (fun _ => ?_) <;> try (exfalso; omega))) | refine LW_pure TOK rfl ?_) | (with_reducible first | refine then_n ?_ | refine CW_seq ?_ | refine CW_region ?_ | refine CW_block ?_ | refine CW_skip ?_) | refine CW_true rfl ?_))
    refine CW_loop (γ := Nat × Option Addr × Nat × List UInt8 × List HProp) (fun g => [(0, .pointer (some ⟨bb, 0, none⟩)), (2, .int .i64 (i : Int)), (3, .slice g.2.1 g.2.2.2.1.length g.2.2.1), (4, .int .i64 (g.1 : Int))])
      (fun g w' => Sat W w' (b'.Lx bb pool' (ownL OwnB b'.ls b'.ms (i + 1)) (ownL OwnF b'.fs b'.ss b'.ii.length) (ownL OwnN b'.ns b'.ts b'.jj.length) ++ (RowOf eB 5 1 g.2.1 g.2.2.1 g.2.2.2.1 :: Big g.2.2.2.2 :: L)) ∧ g.1 ≤ n + 70 ∧ g.2.2.2.1.length = n + g.1 ∧ (∀ z ∈ g.2.2.2.1, (fun z => z = rd b'.ms (i : Int)) z) ∧ HdK eB 5 1 (fun z => z = rd b'.ms (i : Int)) g.2.2.2.2 A n g.2.1) (fun g => n + 70 - g.1) (0, A, c, y0, []) ⟨rfl, rfl, by show some _ = some _; rw [hy0], rfl, trivial⟩ ⟨hs, Nat.zero_le _, hy0, hyp, .inr (.inl rfl)⟩ ?_
    clear hs hy0 hyp
    rintro ⟨j, Ag, cg, ys, K⟩ τ w ⟨hs, hj, hyl, hyp, hdk⟩
    dsimp only at hs hj hyl hyp hdk ⊢
    by_cases hjl : j < n + 70
    · (repeat' (first | (refine isLW ?_; first | refine LW_nil ?_ | (refine isLload ?_; first | refine LW_loadRd0 (v := .slice A n c) (hs.rd 1 rfl) (fun _ => rfl) TOK rfl (by assumption) rfl rfl (by omega) (by omega) (by rw [hh]; rfl) ?_ | refine LW_loadC 0 TOK hs rfl rfl rfl rfl rfl ?_ | refine LW_loadRd0 (hs.rd 2 rfl) (fun _ => rfl) TOK rfl (by assumption) rfl rfl (by omega) (by omega) rfl ?_) | (refine isLcall ?_; first | (refine LW_appendK eB_ok (z := rd b'.ms (i : Int)) (hs.picks [0, 14]) TOK rfl rfl rfl rfl rfl rfl rfl rfl rfl (by unfold maxLen; omega) (by simp only []; omega) ?_; clear hs; intro A' c' K' w hk hs; replace hs : Sat W w (RowOf eB 5 1 A' c' (ys ++ [rd b'.ms (i : Int)]) :: Big K' :: (b'.Lx bb pool' (ownL OwnB b'.ls b'.ms (i + 1)) (ownL OwnF b'.fs b'.ss b'.ii.length) (ownL OwnN b'.ns b'.ts b'.jj.length) ++ (Big K :: L))) := hs) | refine LW_pure TOK rfl ?_) | (refine isLidx ?_; first | (refine LW_indexRd (hs.rd 1 rfl) TOK rfl rfl rfl rfl rfl (by omega) (by omega) ?_; intro _ _ _) | (refine LW_indexRd (hs.rd 2 rfl) TOK rfl rfl rfl rfl rfl (by omega) (by omega) ?_; intro _ _ _)) | (refine isLbin ?_; first | refine LW_i64 rfl (by omega) (by omega) ?_ | (refine LW_cmp rfl (fun _ => ?_) (fun _ => ?_) <;> try (exfalso; omega))) | refine LW_pure TOK rfl ?_ | (refine LW_buildSlice TOK hs rfl rfl rfl rfl rfl rfl rfl ?_; clear hs; intro _ w hs)) | (with_reducible first | refine then_n ?_ | refine CW_seq ?_ | refine CW_region ?_ | refine CW_block ?_ | refine CW_skip ?_ | refine blk_n ?_) | refine CW_true rfl ?_))
      have h4 : Sat W w (Big (K' ++ K) :: RowOf eB 5 1 A' c' (ys ++ [rd b'.ms (i : Int)]) :: (b'.Lx bb pool' (ownL OwnB b'.ls b'.ms (i + 1)) (ownL OwnF b'.fs b'.ss b'.ii.length) (ownL OwnN b'.ns b'.ts b'.jj.length) ++ L)) := Sat.big2 (hs.picks [1, 15])
      exact ⟨(j + 1, A', c', ys ++ [rd b'.ms (i : Int)], K' ++ K), _, FR_forget _ ⟨rfl, rfl, rfl, (by push_cast; rfl), trivial⟩, ⟨h4.picks [2, 2, 2, 2, 2, 2, 2, 2, 2, 2, 2, 2, 2, 2, 1, 0], hjl, by dsimp only; rw [List.length_append, hyl]; rfl, all_snoc hyp rfl, hdk.next hk (by omega) hyp⟩, by dsimp only; omega⟩
    · (repeat' (first | (refine isLW ?_; first | refine LW_nil ?_ | (refine isLload ?_; first | refine LW_loadRd0 (v := .slice A n c) (hs.rd 1 rfl) (fun _ => rfl) TOK rfl (by assumption) rfl rfl (by omega) (by omega) (by rw [hh]; rfl) ?_ | refine LW_loadC 0 TOK hs rfl rfl rfl rfl rfl ?_) | (refine isLstore ?_; first | (refine LW_storeC 0 TOK hs rfl rfl rfl rfl rfl rfl rfl ?_; clear hs; intro w hs)) | (refine isLcall ?_; first | (refine LW_append1 7 (z := ((Ag, ys.length, cg) : Hd)) eH_ok hs TOK rfl rfl rfl rfl rfl rfl rfl rfl rfl rfl (by unfold maxLen; omega) (by simp only []; omega) ?_; clear hs; intro A' c' w hs) | refine LW_pure TOK rfl ?_) | (refine isLidx ?_; first | (refine LW_indexRd (hs.rd 1 rfl) TOK rfl rfl rfl rfl rfl (by omega) (by omega) ?_; intro _ _ _)) | (refine isLbin ?_; first | refine LW_i64 rfl (by omega) (by omega) ?_ | (refine LW_cmp rfl (fun _ => ?_) (fun _ => ?_) <;> try (exfalso; omega))) | refine LW_pure TOK rfl ?_ | (refine LW_buildSlice TOK hs rfl rfl rfl rfl rfl rfl rfl ?_; clear hs; intro _ w hs)) | (with_reducible first | refine then_n ?_ | refine CW_seq ?_ | refine CW_region ?_ | refine CW_exit ?_ | refine then_e ?_ | refine blk_n ?_ | refine blk_same ?_) | refine CW_false rfl ?_))
      have h5 : Sat W w ((b'.grownB A' c' (Ag, ys.length, cg)).Lx bb pool' (ownL OwnB b'.ls b'.ms (i + 1)) (ownL OwnF b'.fs b'.ss b'.ii.length) (ownL OwnN b'.ns b'.ts b'.jj.length) ++ (RowOf eB 5 1 Ag cg ys :: Big K :: L)) := hs
      clear hs
      have h6 : Sat W w (Big (K ++ pool') :: RowOf eB 5 1 Ag cg ys :: _) := Sat.big2 (h5.picks [15, 13, 13])
      have h7 : Sat W w (Big ([RowOf eB 5 1 Ag cg ys] ++ (K ++ pool')) :: _) := Sat.big2 (Sat.mkBig (l := [_]) (h6.picks [1]))
      rw [← List.append_assoc] at h7
      have hn1 : n ≤ ys.length := by omega
      have k1 : InB (([RowOf eB 5 1 Ag cg ys] ++ K) ++ pool') (rd b'.ls (b'.hh.length : Int)) (rd b'.ms (b'.hh.length : Int)) := by
        rw [hi, hh]; exact hdk.fin hn1 hyp
      have k2 : InB (([RowOf eB 5 1 Ag cg ys] ++ K) ++ pool') ((Ag, ys.length, cg) : Hd) (rd b'.ms (b'.hh.length : Int)) := by
        rw [hi]; exact .inr ⟨ys, cg, List.mem_append_left _ (List.mem_append_left _ (List.mem_singleton.2 rfl)), Nat.le_refl _, hyp⟩
      have ok2 := ok.grownB A' c' (g := (Ag, ys.length, cg)) (by dsimp only; omega) (by omega) k1 k2
      have hl2 : (b'.grownB A' c' (Ag, ys.length, cg)).hh.length = i + 1 := by show (b'.hh ++ [_]).length = _; rw [List.length_append, hi]; rfl
      refine ⟨(b'.grownB A' c' (Ag, ys.length, cg), ([RowOf eB 5 1 Ag cg ys] ++ K) ++ pool'), _, FR_forget _ ⟨rfl, by show some _ = some _; rw [hl2]; push_cast; rfl, trivial⟩, ⟨?_, ok2, ⟨gr.ls, gr.fs, gr.ns⟩⟩, by dsimp only; rw [hl2]; show b'.ls.length - (i + 1) < b'.ls.length - i; omega⟩
      have h8 : Sat W w ((b'.grownB A' c' (Ag, ys.length, cg)).Lx bb (([RowOf eB 5 1 Ag cg ys] ++ K) ++ pool') (ownL OwnB b'.ls b'.ms (i + 1)) (ownL OwnF b'.fs b'.ss b'.ii.length) (ownL OwnN b'.ns b'.ts b'.jj.length) ++ L) := h7.picks [1, 1, 1, 1, 1, 1, 1, 1, 1, 1, 1, 1, 1, 0]
      rw [← hl2] at h8
      exact h8
  have hd0 : b'.hh.length = b.ls.length := by rw [← gr.ls]; omega
  clear hml hlen
  (repeat' (first | (refine isLW ?_; first | refine LW_nil ?_ | (refine isLload ?_; first | refine LW_loadC 0 TOK hs rfl rfl rfl rfl rfl ?_) | (refine isLcall ?_; first | refine LW_pure TOK rfl ?_) | (refine isLbin ?_; first | (refine LW_cmp rfl (fun _ => ?_) (fun _ => ?_) <;> try (exfalso; omega))) | refine LW_pure TOK rfl ?_) | (with_reducible first | refine then_n ?_ | refine CW_seq ?_ | refine CW_region ?_ | refine CW_block ?_ | refine CW_exit ?_ | refine then_e ?_ | refine blk_same ?_) | refine CW_false rfl ?_))
  refine CW_loop (γ := Bk × List HProp) (fun g => [(0, .pointer (some ⟨bb, 0, none⟩)), (5, .int .i64 (g.1.ii.length : Int))])
    (fun g w' => Sat W w' (g.1.L bb g.2 ++ L) ∧ BkOK g.1 g.2 ∧ GrB b g.1 ∧ g.1.hh.length = b.ls.length) (fun g => g.1.fs.length - g.1.ii.length) (b', pool') ⟨rfl, rfl, trivial⟩ ⟨hs, ok, gr, hd0⟩ ?_
  clear hs ok gr hd0
  skip
  rintro ⟨b', pool'⟩ τ w ⟨hs, ok, gr, hd0⟩
  dsimp only at hs ok gr hd0 ⊢
  have hlen : b'.fs.length ≤ 1000000000 := by rw [gr.fs]; assumption
  have hml := ok.fs
  have hol := ok.il
  by_cases hlt : b'.ii.length < b'.fs.length
  case pos =>
    obtain ⟨i, hi⟩ : ∃ i, b'.ii.length = i := ⟨_, rfl⟩
    rw [hi] at hlt
    have ho : Sat W w (Big (ownL OwnF b'.fs b'.ss b'.ii.length) :: _) := hs.picks [11]
    rw [hi, ownL_cons hml hlt] at ho
    have ho2 : Sat W w (OwnF (rd b'.fs (i : Int), rd b'.ss (i : Int)) :: Big (ownL OwnF b'.fs b'.ss (i + 1)) :: _) := Sat.openBig (X := []) (l1 := []) ho
    obtain ⟨y0, hy0, hyp, ho3⟩ := own_F ho2
    have hb : Sat W w (b'.Lx bb pool' (ownL OwnB b'.ls b'.ms b'.hh.length) (ownL OwnF b'.fs b'.ss (i + 1)) (ownL OwnN b'.ns b'.ts b'.jj.length) ++ (RowOf eF 30 2 (rd b'.fs (i : Int)).1 (rd b'.fs (i : Int)).2.2 y0 :: L)) := ho3.picks [2, 2, 2, 2, 2, 2, 2, 2, 2, 2, 2, 1, 1, 1, 0]
    clear hs ho ho2 ho3
    have hs : Sat W w (b'.Lx bb pool' (ownL OwnB b'.ls b'.ms b'.hh.length) (ownL OwnF b'.fs b'.ss (i + 1)) (ownL OwnN b'.ns b'.ts b'.jj.length) ++ (RowOf eF 30 2 (rd b'.fs (i : Int)).1 (rd b'.fs (i : Int)).2.2 y0 :: Big [] :: L)) := (Sat.mkBig (l := []) hb).picks [1, 1, 1, 1, 1, 1, 1, 1, 1, 1, 1, 1, 1, 1, 1]
    clear hb
    have hll : (rd b'.fs (i : Int)).2.1 ≤ 1099511627776 := ok.fl _ (by rw [rd_lt hlt]; exact List.getElem_mem hlt)
    have hlm : i < b'.ss.length := by omega
    obtain ⟨⟨A, n, c⟩, hh⟩ : ∃ h, rd b'.fs (i : Int) = h := ⟨_, rfl⟩
    rw [hh] at hs hll hy0
    dsimp only at hs hll hy0
    rw [hi]
    (repeat' (first | (refine isLW ?_; first | refine LW_nil ?_ | (refine isLload ?_; first | refine LW_loadRd0 (v := .slice A n c) (hs.rd 3 rfl) (fun _ => rfl) TOK rfl (by assumption) rfl rfl (by omega) (by omega) (by rw [hh]; rfl) ?_ | refine LW_loadC 0 TOK hs rfl rfl rfl rfl rfl ?_) | (refine isLcall ?_; first | refine LW_pure TOK rfl ?_) | (refine isLidx ?_; first | (refine LW_indexRd (hs.rd 3 rfl) TOK rfl rfl rfl rfl rfl (by omega) (by omega) ?_; intro _ _ _)) | (refine isLbin ?_; first | (refine LW_cmp rfl (fun _ => ?_) (fun _ => ?_) <;> try (exfalso; omega))) | refine LW_pure TOK rfl ?_) | (with_reducible first | refine then_n ?_ | refine CW_seq ?_ | refine CW_region ?_ | refine CW_block ?_ | refine CW_skip ?_) | refine CW_true rfl ?_))
    refine CW_loop (γ := Nat × Option Addr × Nat × List RF × List HProp) (fun g => [(0, .pointer (some ⟨bb, 0, none⟩)), (5, .int .i64 (i : Int)), (6, .slice g.2.1 g.2.2.2.1.length g.2.2.1), (7, .int .i64 (g.1 : Int))])
      (fun g w' => Sat W w' (b'.Lx bb pool' (ownL OwnB b'.ls b'.ms b'.hh.length) (ownL OwnF b'.fs b'.ss (i + 1)) (ownL OwnN b'.ns b'.ts b'.jj.length) ++ (RowOf eF 30 2 g.2.1 g.2.2.1 g.2.2.2.1 :: Big g.2.2.2.2 :: L)) ∧ g.1 ≤ n + 20 ∧ g.2.2.2.1.length = n + g.1 ∧ (∀ z ∈ g.2.2.2.1, (fun z => z.n = rd b'.ss (i : Int)) z) ∧ HdK eF 30 2 (fun z => z.n = rd b'.ss (i : Int)) g.2.2.2.2 A n g.2.1) (fun g => n + 20 - g.1) (0, A, c, y0, []) ⟨rfl, rfl, by show some _ = some _; rw [hy0], rfl, trivial⟩ ⟨hs, Nat.zero_le _, hy0, hyp, .inr (.inl rfl)⟩ ?_
    clear hs hy0 hyp
    rintro ⟨j, Ag, cg, ys, K⟩ τ w ⟨hs, hj, hyl, hyp, hdk⟩
    dsimp only at hs hj hyl hyp hdk ⊢
    by_cases hjl : j < n + 20
    · (repeat' (first | (refine isLW ?_; first | refine LW_nil ?_ | (refine isLload ?_; first | refine LW_loadRd0 (v := .slice A n c) (hs.rd 3 rfl) (fun _ => rfl) TOK rfl (by assumption) rfl rfl (by omega) (by omega) (by rw [hh]; rfl) ?_ | refine LW_loadC 0 TOK hs rfl rfl rfl rfl rfl ?_ | refine LW_loadRd0 (hs.rd 5 rfl) (fun _ => rfl) TOK rfl (by assumption) rfl rfl (by omega) (by omega) rfl ?_) | (refine isLcall ?_; first | (refine LW_appendK eF_ok (z := (⟨rd b'.ss (i : Int), none, 0, []⟩ : RF)) (hs.picks [0, 14]) TOK rfl rfl rfl rfl rfl rfl rfl rfl rfl (by unfold maxLen; omega) (by simp only []; omega) ?_; clear hs; intro A' c' K' w hk hs; replace hs : Sat W w (RowOf eF 30 2 A' c' (ys ++ [(⟨rd b'.ss (i : Int), none, 0, []⟩ : RF)]) :: Big K' :: (b'.Lx bb pool' (ownL OwnB b'.ls b'.ms b'.hh.length) (ownL OwnF b'.fs b'.ss (i + 1)) (ownL OwnN b'.ns b'.ts b'.jj.length) ++ (Big K :: L))) := hs) | refine LW_pure TOK rfl ?_) | (refine isLidx ?_; first | (refine LW_indexRd (hs.rd 3 rfl) TOK rfl rfl rfl rfl rfl (by omega) (by omega) ?_; intro _ _ _) | (refine LW_indexRd (hs.rd 5 rfl) TOK rfl rfl rfl rfl rfl (by omega) (by omega) ?_; intro _ _ _)) | (refine isLbin ?_; first | refine LW_i64 rfl (by omega) (by omega) ?_ | (refine LW_cmp rfl (fun _ => ?_) (fun _ => ?_) <;> try (exfalso; omega))) | refine LW_pure TOK rfl ?_ | (refine LW_buildSlice TOK hs rfl rfl rfl rfl rfl rfl rfl ?_; clear hs; intro _ w hs) | refine LW_build TOK rfl rfl rfl rfl rfl rfl ?_) | (with_reducible first | refine then_n ?_ | refine CW_seq ?_ | refine CW_region ?_ | refine CW_block ?_ | refine CW_skip ?_ | refine blk_n ?_) | refine CW_true rfl ?_))
      have h4 : Sat W w (Big (K' ++ K) :: RowOf eF 30 2 A' c' (ys ++ [(⟨rd b'.ss (i : Int), none, 0, []⟩ : RF)]) :: (b'.Lx bb pool' (ownL OwnB b'.ls b'.ms b'.hh.length) (ownL OwnF b'.fs b'.ss (i + 1)) (ownL OwnN b'.ns b'.ts b'.jj.length) ++ L)) := Sat.big2 (hs.picks [1, 15])
      exact ⟨(j + 1, A', c', ys ++ [(⟨rd b'.ss (i : Int), none, 0, []⟩ : RF)], K' ++ K), _, FR_forget _ ⟨rfl, rfl, rfl, (by push_cast; rfl), trivial⟩, ⟨h4.picks [2, 2, 2, 2, 2, 2, 2, 2, 2, 2, 2, 2, 2, 2, 1, 0], hjl, by dsimp only; rw [List.length_append, hyl]; rfl, all_snoc hyp rfl, hdk.next hk (by omega) hyp⟩, by dsimp only; omega⟩
    · (repeat' (first | (refine isLW ?_; first | refine LW_nil ?_ | (refine isLload ?_; first | refine LW_loadRd0 (v := .slice A n c) (hs.rd 3 rfl) (fun _ => rfl) TOK rfl (by assumption) rfl rfl (by omega) (by omega) (by rw [hh]; rfl) ?_ | refine LW_loadC 0 TOK hs rfl rfl rfl rfl rfl ?_) | (refine isLstore ?_; first | (refine LW_storeC 0 TOK hs rfl rfl rfl rfl rfl rfl rfl ?_; clear hs; intro w hs)) | (refine isLcall ?_; first | (refine LW_append1 8 (z := ((Ag, ys.length, cg) : Hd)) eH_ok hs TOK rfl rfl rfl rfl rfl rfl rfl rfl rfl rfl (by unfold maxLen; omega) (by simp only []; omega) ?_; clear hs; intro A' c' w hs) | refine LW_pure TOK rfl ?_) | (refine isLidx ?_; first | (refine LW_indexRd (hs.rd 3 rfl) TOK rfl rfl rfl rfl rfl (by omega) (by omega) ?_; intro _ _ _)) | (refine isLbin ?_; first | refine LW_i64 rfl (by omega) (by omega) ?_ | (refine LW_cmp rfl (fun _ => ?_) (fun _ => ?_) <;> try (exfalso; omega))) | refine LW_pure TOK rfl ?_ | (refine LW_buildSlice TOK hs rfl rfl rfl rfl rfl rfl rfl ?_; clear hs; intro _ w hs)) | (with_reducible first | refine then_n ?_ | refine CW_seq ?_ | refine CW_region ?_ | refine CW_exit ?_ | refine then_e ?_ | refine blk_n ?_ | refine blk_same ?_) | refine CW_false rfl ?_))
      have h5 : Sat W w ((b'.grownF A' c' (Ag, ys.length, cg)).Lx bb pool' (ownL OwnB b'.ls b'.ms b'.hh.length) (ownL OwnF b'.fs b'.ss (i + 1)) (ownL OwnN b'.ns b'.ts b'.jj.length) ++ (RowOf eF 30 2 Ag cg ys :: Big K :: L)) := hs
      clear hs
      have h6 : Sat W w (Big (K ++ pool') :: RowOf eF 30 2 Ag cg ys :: _) := Sat.big2 (h5.picks [15, 13, 13])
      have h7 : Sat W w (Big ([RowOf eF 30 2 Ag cg ys] ++ (K ++ pool')) :: _) := Sat.big2 (Sat.mkBig (l := [_]) (h6.picks [1]))
      rw [← List.append_assoc] at h7
      have hn1 : n ≤ ys.length := by omega
      have k1 : InF (([RowOf eF 30 2 Ag cg ys] ++ K) ++ pool') (rd b'.fs (b'.ii.length : Int)) (rd b'.ss (b'.ii.length : Int)) := by
        rw [hi, hh]; exact hdk.fin hn1 hyp
      have k2 : InF (([RowOf eF 30 2 Ag cg ys] ++ K) ++ pool') ((Ag, ys.length, cg) : Hd) (rd b'.ss (b'.ii.length : Int)) := by
        rw [hi]; exact .inr ⟨ys, cg, List.mem_append_left _ (List.mem_append_left _ (List.mem_singleton.2 rfl)), Nat.le_refl _, hyp⟩
      have ok2 := ok.grownF A' c' (g := (Ag, ys.length, cg)) (by dsimp only; omega) (by omega) k1 k2
      have hl2 : (b'.grownF A' c' (Ag, ys.length, cg)).ii.length = i + 1 := by show (b'.ii ++ [_]).length = _; rw [List.length_append, hi]; rfl
      refine ⟨(b'.grownF A' c' (Ag, ys.length, cg), ([RowOf eF 30 2 Ag cg ys] ++ K) ++ pool'), _, FR_forget _ ⟨rfl, by show some _ = some _; rw [hl2]; push_cast; rfl, trivial⟩, ⟨?_, ok2, ⟨gr.ls, gr.fs, gr.ns⟩, hd0⟩, by dsimp only; rw [hl2]; show b'.fs.length - (i + 1) < b'.fs.length - i; omega⟩
      have h8 : Sat W w ((b'.grownF A' c' (Ag, ys.length, cg)).Lx bb (([RowOf eF 30 2 Ag cg ys] ++ K) ++ pool') (ownL OwnB b'.ls b'.ms b'.hh.length) (ownL OwnF b'.fs b'.ss (i + 1)) (ownL OwnN b'.ns b'.ts b'.jj.length) ++ L) := h7.picks [1, 1, 1, 1, 1, 1, 1, 1, 1, 1, 1, 1, 1, 0]
      rw [← hl2] at h8
      exact h8
  have hd1 : b'.ii.length = b.fs.length := by rw [← gr.fs]; omega
  clear hml hlen
  (repeat' (first | (refine isLW ?_; first | refine LW_nil ?_ | (refine isLload ?_; first | refine LW_loadC 0 TOK hs rfl rfl rfl rfl rfl ?_) | (refine isLcall ?_; first | refine LW_pure TOK rfl ?_) | (refine isLbin ?_; first | (refine LW_cmp rfl (fun _ => ?_) (fun _ => ?_) <;> try (exfalso; omega))) | refine LW_pure TOK rfl ?_) | (with_reducible first | refine then_n ?_ | refine CW_seq ?_ | refine CW_region ?_ | refine CW_block ?_ | refine CW_exit ?_ | refine then_e ?_ | refine blk_same ?_) | refine CW_false rfl ?_))
  refine CW_loop (γ := Bk × List HProp) (fun g => [(0, .pointer (some ⟨bb, 0, none⟩)), (8, .int .i64 (g.1.jj.length : Int))])
    (fun g w' => Sat W w' (g.1.L bb g.2 ++ L) ∧ BkOK g.1 g.2 ∧ GrB b g.1 ∧ g.1.hh.length = b.ls.length ∧ g.1.ii.length = b.fs.length) (fun g => g.1.ns.length - g.1.jj.length) (b', pool') ⟨rfl, rfl, trivial⟩ ⟨hs, ok, gr, hd0, hd1⟩ ?_
  clear hs ok gr hd0 hd1
  skip
  rintro ⟨b', pool'⟩ τ w ⟨hs, ok, gr, hd0, hd1⟩
  dsimp only at hs ok gr hd0 hd1 ⊢
  have hlen : b'.ns.length ≤ 1000000000 := by rw [gr.ns]; assumption
  have hml := ok.nt
  have hol := ok.jl
  by_cases hlt : b'.jj.length < b'.ns.length
  case pos =>
    obtain ⟨i, hi⟩ : ∃ i, b'.jj.length = i := ⟨_, rfl⟩
    rw [hi] at hlt
    have ho : Sat W w (Big (ownL OwnN b'.ns b'.ts b'.jj.length) :: _) := hs.picks [12]
    rw [hi, ownL_cons hml hlt] at ho
    have ho2 : Sat W w (OwnN (rd b'.ns (i : Int), rd b'.ts (i : Int)) :: Big (ownL OwnN b'.ns b'.ts (i + 1)) :: _) := Sat.openBig (X := []) (l1 := []) ho
    obtain ⟨y0, hy0, hyp, ho3⟩ := own_N ho2
    have hb : Sat W w (b'.Lx bb pool' (ownL OwnB b'.ls b'.ms b'.hh.length) (ownL OwnF b'.fs b'.ss b'.ii.length) (ownL OwnN b'.ns b'.ts (i + 1)) ++ (RowOf eN 9 1 (rd b'.ns (i : Int)).1 (rd b'.ns (i : Int)).2.2 y0 :: L)) := ho3.picks [2, 2, 2, 2, 2, 2, 2, 2, 2, 2, 2, 2, 1, 1, 0]
    clear hs ho ho2 ho3
    have hs : Sat W w (b'.Lx bb pool' (ownL OwnB b'.ls b'.ms b'.hh.length) (ownL OwnF b'.fs b'.ss b'.ii.length) (ownL OwnN b'.ns b'.ts (i + 1)) ++ (RowOf eN 9 1 (rd b'.ns (i : Int)).1 (rd b'.ns (i : Int)).2.2 y0 :: Big [] :: L)) := (Sat.mkBig (l := []) hb).picks [1, 1, 1, 1, 1, 1, 1, 1, 1, 1, 1, 1, 1, 1, 1]
    clear hb
    have hll : (rd b'.ns (i : Int)).2.1 ≤ 1099511627776 := ok.nl _ (by rw [rd_lt hlt]; exact List.getElem_mem hlt)
    have hlm : i < b'.ts.length := by omega
    obtain ⟨⟨A, n, c⟩, hh⟩ : ∃ h, rd b'.ns (i : Int) = h := ⟨_, rfl⟩
    rw [hh] at hs hll hy0
    dsimp only at hs hll hy0
    rw [hi]
    (repeat' (first | (refine isLW ?_; first | refine LW_nil ?_ | (refine isLload ?_; first | refine LW_loadRd0 (v := .slice A n c) (hs.rd 4 rfl) (fun _ => rfl) TOK rfl (by assumption) rfl rfl (by omega) (by omega) (by rw [hh]; rfl) ?_ | refine LW_loadC 0 TOK hs rfl rfl rfl rfl rfl ?_) | (refine isLcall ?_; first | refine LW_pure TOK rfl ?_) | (refine isLidx ?_; first | (refine LW_indexRd (hs.rd 4 rfl) TOK rfl rfl rfl rfl rfl (by omega) (by omega) ?_; intro _ _ _)) | (refine isLbin ?_; first | (refine LW_cmp rfl (fun _ => ?_) (fun _ => ?_) <;> try (exfalso; omega))) | refine LW_pure TOK rfl ?_) | (with_reducible first | refine then_n ?_ | refine CW_seq ?_ | refine CW_region ?_ | refine CW_block ?_ | refine CW_skip ?_) | refine CW_true rfl ?_))
    refine CW_loop (γ := Nat × Option Addr × Nat × List Nm × List HProp) (fun g => [(0, .pointer (some ⟨bb, 0, none⟩)), (8, .int .i64 (i : Int)), (9, .slice g.2.1 g.2.2.2.1.length g.2.2.1), (10, .int .i64 (g.1 : Int))])
      (fun g w' => Sat W w' (b'.Lx bb pool' (ownL OwnB b'.ls b'.ms b'.hh.length) (ownL OwnF b'.fs b'.ss b'.ii.length) (ownL OwnN b'.ns b'.ts (i + 1)) ++ (RowOf eN 9 1 g.2.1 g.2.2.1 g.2.2.2.1 :: Big g.2.2.2.2 :: L)) ∧ g.1 ≤ n + 20 ∧ g.2.2.2.1.length = n + g.1 ∧ (∀ z ∈ g.2.2.2.1, (fun z => z = rd b'.ts (i : Int)) z) ∧ HdK eN 9 1 (fun z => z = rd b'.ts (i : Int)) g.2.2.2.2 A n g.2.1) (fun g => n + 20 - g.1) (0, A, c, y0, []) ⟨rfl, rfl, by show some _ = some _; rw [hy0], rfl, trivial⟩ ⟨hs, Nat.zero_le _, hy0, hyp, .inr (.inl rfl)⟩ ?_
    clear hs hy0 hyp
    rintro ⟨j, Ag, cg, ys, K⟩ τ w ⟨hs, hj, hyl, hyp, hdk⟩
    dsimp only at hs hj hyl hyp hdk ⊢
    by_cases hjl : j < n + 20
    · (repeat' (first | (refine isLW ?_; first | refine LW_nil ?_ | (refine isLload ?_; first | refine LW_loadRd0 (v := .slice A n c) (hs.rd 4 rfl) (fun _ => rfl) TOK rfl (by assumption) rfl rfl (by omega) (by omega) (by rw [hh]; rfl) ?_ | refine LW_loadC 0 TOK hs rfl rfl rfl rfl rfl ?_ | refine LW_loadRd0 (hs.rd 6 rfl) (fun _ => rfl) TOK rfl (by assumption) rfl rfl (by omega) (by omega) rfl ?_) | (refine isLcall ?_; first | (refine LW_appendK eN_ok (z := rd b'.ts (i : Int)) (hs.picks [0, 14]) TOK rfl rfl rfl rfl rfl rfl rfl rfl rfl (by unfold maxLen; omega) (by simp only []; omega) ?_; clear hs; intro A' c' K' w hk hs; replace hs : Sat W w (RowOf eN 9 1 A' c' (ys ++ [rd b'.ts (i : Int)]) :: Big K' :: (b'.Lx bb pool' (ownL OwnB b'.ls b'.ms b'.hh.length) (ownL OwnF b'.fs b'.ss b'.ii.length) (ownL OwnN b'.ns b'.ts (i + 1)) ++ (Big K :: L))) := hs) | refine LW_pure TOK rfl ?_) | (refine isLidx ?_; first | (refine LW_indexRd (hs.rd 4 rfl) TOK rfl rfl rfl rfl rfl (by omega) (by omega) ?_; intro _ _ _) | (refine LW_indexRd (hs.rd 6 rfl) TOK rfl rfl rfl rfl rfl (by omega) (by omega) ?_; intro _ _ _)) | (refine isLbin ?_; first | refine LW_i64 rfl (by omega) (by omega) ?_ | (refine LW_cmp rfl (fun _ => ?_) (fun _ => ?_) <;> try (exfalso; omega))) | refine LW_pure TOK rfl ?_ | (refine LW_buildSlice TOK hs rfl rfl rfl rfl rfl rfl rfl ?_; clear hs; intro _ w hs)) | (with_reducible first | refine then_n ?_ | refine CW_seq ?_ | refine CW_region ?_ | refine CW_block ?_ | refine CW_skip ?_ | refine blk_n ?_) | refine CW_true rfl ?_))
      have h4 : Sat W w (Big (K' ++ K) :: RowOf eN 9 1 A' c' (ys ++ [rd b'.ts (i : Int)]) :: (b'.Lx bb pool' (ownL OwnB b'.ls b'.ms b'.hh.length) (ownL OwnF b'.fs b'.ss b'.ii.length) (ownL OwnN b'.ns b'.ts (i + 1)) ++ L)) := Sat.big2 (hs.picks [1, 15])
      exact ⟨(j + 1, A', c', ys ++ [rd b'.ts (i : Int)], K' ++ K), _, FR_forget _ ⟨rfl, rfl, rfl, (by push_cast; rfl), trivial⟩, ⟨h4.picks [2, 2, 2, 2, 2, 2, 2, 2, 2, 2, 2, 2, 2, 2, 1, 0], hjl, by dsimp only; rw [List.length_append, hyl]; rfl, all_snoc hyp rfl, hdk.next hk (by omega) hyp⟩, by dsimp only; omega⟩
    · (repeat' (first | (refine isLW ?_; first | refine LW_nil ?_ | (refine isLload ?_; first | refine LW_loadRd0 (v := .slice A n c) (hs.rd 4 rfl) (fun _ => rfl) TOK rfl (by assumption) rfl rfl (by omega) (by omega) (by rw [hh]; rfl) ?_ | refine LW_loadC 0 TOK hs rfl rfl rfl rfl rfl ?_) | (refine isLstore ?_; first | (refine LW_storeC 0 TOK hs rfl rfl rfl rfl rfl rfl rfl ?_; clear hs; intro w hs)) | (refine isLcall ?_; first | (refine LW_append1 9 (z := ((Ag, ys.length, cg) : Hd)) eH_ok hs TOK rfl rfl rfl rfl rfl rfl rfl rfl rfl rfl (by unfold maxLen; omega) (by simp only []; omega) ?_; clear hs; intro A' c' w hs) | refine LW_pure TOK rfl ?_) | (refine isLidx ?_; first | (refine LW_indexRd (hs.rd 4 rfl) TOK rfl rfl rfl rfl rfl (by omega) (by omega) ?_; intro _ _ _)) | (refine isLbin ?_; first | refine LW_i64 rfl (by omega) (by omega) ?_ | (refine LW_cmp rfl (fun _ => ?_) (fun _ => ?_) <;> try (exfalso; omega))) | refine LW_pure TOK rfl ?_ | (refine LW_buildSlice TOK hs rfl rfl rfl rfl rfl rfl rfl ?_; clear hs; intro _ w hs)) | (with_reducible first | refine then_n ?_ | refine CW_seq ?_ | refine CW_region ?_ | refine CW_exit ?_ | refine then_e ?_ | refine blk_n ?_ | refine blk_same ?_) | refine CW_false rfl ?_))
      have h5 : Sat W w ((b'.grownN A' c' (Ag, ys.length, cg)).Lx bb pool' (ownL OwnB b'.ls b'.ms b'.hh.length) (ownL OwnF b'.fs b'.ss b'.ii.length) (ownL OwnN b'.ns b'.ts (i + 1)) ++ (RowOf eN 9 1 Ag cg ys :: Big K :: L)) := hs
      clear hs
      have h6 : Sat W w (Big (K ++ pool') :: RowOf eN 9 1 Ag cg ys :: _) := Sat.big2 (h5.picks [15, 13, 13])
      have h7 : Sat W w (Big ([RowOf eN 9 1 Ag cg ys] ++ (K ++ pool')) :: _) := Sat.big2 (Sat.mkBig (l := [_]) (h6.picks [1]))
      rw [← List.append_assoc] at h7
      have hn1 : n ≤ ys.length := by omega
      have k1 : InN (([RowOf eN 9 1 Ag cg ys] ++ K) ++ pool') (rd b'.ns (b'.jj.length : Int)) (rd b'.ts (b'.jj.length : Int)) := by
        rw [hi, hh]; exact hdk.fin hn1 hyp
      have k2 : InN (([RowOf eN 9 1 Ag cg ys] ++ K) ++ pool') ((Ag, ys.length, cg) : Hd) (rd b'.ts (b'.jj.length : Int)) := by
        rw [hi]; exact .inr ⟨ys, cg, List.mem_append_left _ (List.mem_append_left _ (List.mem_singleton.2 rfl)), Nat.le_refl _, hyp⟩
      have ok2 := ok.grownN A' c' (g := (Ag, ys.length, cg)) (by dsimp only; omega) (by omega) k1 k2
      have hl2 : (b'.grownN A' c' (Ag, ys.length, cg)).jj.length = i + 1 := by show (b'.jj ++ [_]).length = _; rw [List.length_append, hi]; rfl
      refine ⟨(b'.grownN A' c' (Ag, ys.length, cg), ([RowOf eN 9 1 Ag cg ys] ++ K) ++ pool'), _, FR_forget _ ⟨rfl, by show some _ = some _; rw [hl2]; push_cast; rfl, trivial⟩, ⟨?_, ok2, ⟨gr.ls, gr.fs, gr.ns⟩, hd0, hd1⟩, by dsimp only; rw [hl2]; show b'.ns.length - (i + 1) < b'.ns.length - i; omega⟩
      have h8 : Sat W w ((b'.grownN A' c' (Ag, ys.length, cg)).Lx bb (([RowOf eN 9 1 Ag cg ys] ++ K) ++ pool') (ownL OwnB b'.ls b'.ms b'.hh.length) (ownL OwnF b'.fs b'.ss b'.ii.length) (ownL OwnN b'.ns b'.ts (i + 1)) ++ L) := h7.picks [1, 1, 1, 1, 1, 1, 1, 1, 1, 1, 1, 1, 1, 0]
      rw [← hl2] at h8
      exact h8
  have hd2 : b'.jj.length = b.ns.length := by rw [← gr.ns]; omega
  clear hml hlen
  (repeat' (first | (refine isLW ?_; first | refine LW_nil ?_ | (refine isLload ?_; first | refine LW_loadC 0 TOK hs rfl rfl rfl rfl rfl ?_) | (refine isLcall ?_; first | refine LW_pure TOK rfl ?_) | (refine isLbin ?_; first | (refine LW_cmp rfl (fun _ => ?_) (fun _ => ?_) <;> try (exfalso; omega))) | refine LW_pure TOK rfl ?_) | (with_reducible first | refine then_n ?_ | refine CW_seq ?_ | refine CW_region ?_ | refine CW_exit ?_ | refine then_e ?_ | refine blk_same ?_) | refine CW_false rfl ?_ | refine RET0 Try.results43 ?_))
  exact ⟨rfl, b', pool', ok, gr, hd0, hd1, hd2, hs⟩
end Go.Proofs.Ytoodgenbcfdloaa
