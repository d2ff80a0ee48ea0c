/- Marks: lists that are written full. -/
import Derived.Test.YtaofhbjlbdpjhaaTy
import Derived.Test.YtaofhbjlbdpjhaaSlB
import Derived.Test.YtaofhbjlbdpjhaaSlKeep3
set_option linter.unusedVariables false
set_option linter.unusedSimpArgs false
namespace Go.Proofs.Ytaofhbjlbdpjhaa
open Go Go.Sl Go.RowKit
set_option maxRecDepth 100000

theorem rd_mem' {β : Type} [Inhabited β] {s : List β} {k : Nat} (hk : k < s.length) : rd s (k : Int) ∈ s := by
  rw [rdN hk]; exact List.getElem_mem hk
theorem set_full {α : Type} {x : List α} {m : α} {i : Nat} (h : x.take i = List.replicate i m) (hi : i < x.length) : (x.set i m).take (i + 1) = List.replicate (i + 1) m := by
  rw [List.take_set, takeNext hi, h]
  have hl : (List.replicate i m).length = i := List.length_replicate
  rw [List.set_append_right _ _ (by omega), hl, Nat.sub_self]
  simp [List.replicate_succ']
theorem marks4_len (A A1 A2 A3 : Option Addr) (c c1 c2 c3 n : Nat) : ∀ x ∈ [(A, n, c), (A1, n + 1, c1), (A2, n + 2, c2), (A3, n + 3, c3)], x.2.1 ≤ n + 3 := by
  intro x hx
  simp only [List.mem_cons, List.not_mem_nil, or_false] at hx
  rcases hx with rfl | rfl | rfl | rfl <;> dsimp only <;> omega
theorem MkOK.up {α : Type} {enc : α → List Value} {e : TypeId} {A A' : Option Addr} {k k' n' c' : Nat} {m : α} {Z : List HProp} (h : MkOK enc e A k m A' n' c' Z) (hk : k ≤ k') : MkOK enc e A k' m A' n' c' Z := h.imp (fun h => ⟨h.1, by omega⟩) id
theorem marks4 {α : Type} {enc : α → List Value} {e : TypeId} {W : World} {m : α} {A A1 A2 A3 : Option Addr} {c c1 c2 c3 n k1 k2 k3 : Nat} {Z1 Z2 Z3 : List HProp} (hn : n ≤ k3) (z1 : MkOK enc e A k1 m A1 (n + 1) c1 Z1) (z2 : MkOK enc e A k2 m A2 (n + 2) c2 Z2) (z3 : MkOK enc e A k3 m A3 (n + 3) c3 Z3) (h1 : k1 ≤ k3) (h2 : k2 ≤ k3) (h3 : k3 ≤ n + 3) :
    ∀ w'', Sat W w'' [RowOf enc e 1 A c (List.replicate k3 m), Big Z1, Big Z2, Big Z3] → ∀ x ∈ [(A, n, c), (A1, n + 1, c1), (A2, n + 2, c2), (A3, n + 3, c3)], Rd enc w'' x.1 (List.replicate x.2.1 m) := by
  intro w hs x hx
  simp only [List.mem_cons, List.not_mem_nil, or_false] at hx
  rcases hx with rfl | rfl | rfl | rfl
  · exact (hs.rd 0 rfl).ahead (rep_take hn m)
  · exact MkOK.rd (MkOK.up z1 h1) (hs.picks [0, 0])
  · exact MkOK.rd (MkOK.up z2 h2) (hs.picks [0, 1])
  · exact MkOK.rd z3 (hs.picks [0, 2])
/-- A number under a mask that ends in ones. -/
theorem and_mask (x : Int) (k : Nat) (m : Int) (hk : m = 2 ^ k - 1) (hk1 : k ≤ 62) : ∃ z : Nat, IntKind.i64.wrap ((BitVec.ofInt 64 x &&& BitVec.ofInt 64 m).toNat : Int) = (z : Int) ∧ z < 2 ^ k := by
  have hp : (2 : Nat) ^ k ≤ 2 ^ 62 := Nat.pow_le_pow_right (by omega) hk1
  have hp0 : 0 < (2 : Nat) ^ k := Nat.pow_pos (by omega)
  have hpi : ((2 ^ k : Nat) : Int) = (2 : Int) ^ k := by push_cast; rfl
  have hm : m = ((2 ^ k - 1 : Nat) : Int) := by rw [hk]; omega
  have hb : (BitVec.ofInt 64 m).toNat = 2 ^ k - 1 := by rw [hm]; exact ofInt_toNat 64 _ (by omega)
  have hle : (BitVec.ofInt 64 x &&& BitVec.ofInt 64 m).toNat ≤ 2 ^ k - 1 := by
    rw [BitVec.toNat_and, hb]; exact Nat.and_le_right
  exact ⟨_, wrap_i64 (by omega) (by omega), by omega⟩
end Go.Proofs.Ytaofhbjlbdpjhaa
