/- Walks: IndexPlays: the state of the play. -/
import Derived.Test.YtaofhbjlbdpjhaaF38
import Derived.Test.YtaofhbjlbdpjhaaF37
import Derived.Test.YtaofhbjlbdpjhaaSlIter4
set_option linter.unusedVariables false
set_option linter.unusedSimpArgs false
namespace Go.Proofs.Ytaofhbjlbdpjhaa
open Go Go.Sl Go.RowKit
set_option maxRecDepth 100000

structure PS where
  mu0 : Mu Int
  mu1 : Mu Int
  l0 : List (Int × Int)
  l1 : List (Int × Int)
  A0 : Option Addr
  A1 : Option Addr
  c0 : Nat
  c1 : Nat
  of : Nat
  pm : Nat
  plo : Nat
  phi : Nat
  LA : Option Addr
  MA : Option Addr
  lc : Nat
  mc : Nat
  ls : List (Option Addr × Nat × Nat)
  ms : List Int
  Y : List HProp
  Ds : List Nat
abbrev heldOf (of m0 m1 : Nat) : Nat := if of = 0 then m0 else m1
abbrev PS.R (g : PS) (m0 m1 bm bl bb : Nat) : List HProp :=
  muL g.mu0 ++ (muL g.mu1 ++ ([Cl bm [.pointer (some ⟨m0, 0, none⟩), .pointer (some ⟨m1, 0, none⟩)] 24, Cl bl [.slice g.A0 g.l0.length g.c0, .slice g.A1 g.l1.length g.c1] 22, RowOf eP 32 2 g.A0 g.c0 g.l0, RowOf eP 32 2 g.A1 g.c1 g.l1, Big (g.Ds.map dBk)] ++ (boxes g.pm g.plo g.phi (heldOf g.of m0 m1) (-9223372036854775808) 9223372036854775807 ++ (bookI bb g.LA g.lc g.ls g.MA g.mc g.ms ++ g.Y))))
abbrev PS.S (g : PS) (S0 : Option Addr) (n c bm bl bb i : Nat) : List (Nat × Value) :=
  [(0, .slice S0 n c), (3, .slice (some ⟨bm, 0, none⟩) 2 2), (4, .slice (some ⟨bl, 0, none⟩) 2 2), (5, .func (.func 58) #[] #[.pointer (some ⟨g.pm, 0, none⟩), .pointer (some ⟨g.plo, 0, none⟩), .pointer (some ⟨g.phi, 0, none⟩)]), (6, .int .i64 (g.of : Int)), (7, .pointer (some ⟨bb, 0, none⟩)), (8, .int .i64 (i : Int))]
structure PS.Ok (g : PS) (W : World) (m0 m1 i : Nat) : Prop where
  o0 : g.mu0.Of g.l0
  o1 : g.mu1.Of g.l1
  e0 : g.mu0.m = m0
  e1 : g.mu1.m = m1
  n0 : g.l0.length ≤ i + 1
  n1 : g.l1.length ≤ i + 1
  k0 : ∀ p ∈ g.l0, okI p.1
  k1 : ∀ p ∈ g.l1, okI p.1
  hof : g.of = 0 ∨ g.of = 1
  B : BookOK eI W g.Y g.ls g.ms
  nb : g.ls.length ≤ 4 * i
theorem PS.Ok.later {g : PS} {W : World} {m0 m1 i : Nat} (h : g.Ok W m0 m1 i) : g.Ok W m0 m1 (i + 1) :=
  ⟨h.o0, h.o1, h.e0, h.e1, by have := h.n0; omega, by have := h.n1; omega, h.k0, h.k1, h.hof, h.B, by have := h.nb; omega⟩
theorem okI_snoc {l : List (Int × Int)} {k v : Int} (h : ∀ p ∈ l, okI p.1) (hk : okI k) : ∀ p ∈ l ++ [(k, v)], okI p.1 := by
  intro p hp
  rcases List.mem_append.1 hp with hp | hp
  · exact h p hp
  · rw [List.mem_singleton] at hp; subst hp; exact hk
theorem okI_drop {l : List (Int × Int)} {k : Int} (h : ∀ p ∈ l, okI p.1) : ∀ p ∈ dropKey l k, okI p.1 := fun p hp => h p (List.mem_filter.1 hp).1
theorem numNext_okI {l : List (Int × Int)} {n : Nat} {s : S6} (h : ∀ p ∈ l, okI p.1) (hk : okI s.key) : ∀ p ∈ numNext l n s, okI p.1 := by
  unfold numNext
  split
  · exact okI_drop (okI_snoc h hk)
  · exact h
theorem numNext_len {l : List (Int × Int)} {n : Nat} {s : S6} : (numNext l n s).length ≤ l.length + 1 := by
  unfold numNext
  split
  · refine Nat.le_trans (List.length_filter_le _ _) ?_
    rw [List.length_append, List.length_singleton]; exact Nat.le_refl _
  · omega
theorem numOut_rd {w : World} {A : Option Addr} {g : List (Int × Int)} {s : S6} (h : Rd eP w A g) : Rd eP w A (numOut g s) := by
  unfold numOut
  split
  · exact h.take _
  · exact h
theorem numOut_len (g : List (Int × Int)) (s : S6) : (numOut g s).length ≤ g.length := by
  unfold numOut
  split
  · rw [List.length_take]; omega
  · exact Nat.le_refl _
theorem gOf_len (l : List (Int × Int)) (s : S6) : (gOf l s).length ≤ l.length := by
  unfold gOf
  split <;> exact srt_len _ _ _
end Go.Proofs.Ytaofhbjlbdpjhaa
