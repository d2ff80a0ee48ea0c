/- Plain laws: a container of texts beside one of numbers. -/
import Derived.Test.YtaofhbjlbdpjhaaT2
import Derived.Test.YtaofhbjlbdpjhaaF23
import Derived.Test.YtaofhbjlbdpjhaaF8
set_option linter.unusedVariables false
set_option linter.unusedSimpArgs false
namespace Go.Proofs.Ytaofhbjlbdpjhaa
open Go Go.Sl Go.RowKit
set_option maxRecDepth 100000

def tx (l : List (Int × Int)) : List (Int × ByteArray) := l.map fun p => (p.1, textOf p.2)
theorem tx_len (l : List (Int × Int)) : (tx l).length = l.length := by simp [tx]
theorem tx_snoc (l : List (Int × Int)) (k v : Int) : tx (l ++ [(k, v)]) = tx l ++ [(k, textOf v)] := by simp [tx]
theorem getK_tx (l : List (Int × Int)) (k : Int) : getK (tx l) k = (getK l k).map textOf := by
  unfold getK tx
  rw [List.filter_map, List.map_map, List.map_map]
  rfl
theorem dropKey_tx (l : List (Int × Int)) (k : Int) : dropKey (tx l) k = tx (dropKey l k) := by
  unfold dropKey tx
  rw [List.filter_map]
  rfl
theorem keyMem {α : Type} {mu : Mu α} {l : List (Int × α)} (ho : mu.Of l) (k : Int) : k ∈ mu.E.map (·.key) ↔ ∃ p ∈ l, p.1 = k := by
  constructor
  · intro h
    obtain ⟨e, he, rfl⟩ := List.mem_map.1 h
    have h1 := ho.ne e he
    rw [ho.vals e he] at h1
    obtain ⟨v, hv⟩ := List.exists_mem_of_ne_nil _ h1
    unfold getK at hv
    obtain ⟨p, hp, _⟩ := List.mem_map.1 hv
    rw [List.mem_filter, decide_eq_true_eq] at hp
    exact ⟨p, hp.1, hp.2⟩
  · rintro ⟨p, hp, rfl⟩
    obtain ⟨e, he, h⟩ := ho.all p hp
    exact List.mem_map.2 ⟨e, he, h⟩
theorem keys_tx {mu : Mu Int} {ms : Mu ByteArray} {l : List (Int × Int)} (ho : mu.Of l) (hs : ms.Of (tx l)) : sortI (ms.E.map (·.key)) = sortI (mu.E.map (·.key)) := by
  refine sortI_perm ((List.perm_ext_iff_of_nodup hs.keys ho.keys).2 fun k => ?_)
  rw [keyMem ho, keyMem hs]
  unfold tx
  constructor
  · rintro ⟨p, hp, rfl⟩
    obtain ⟨q, hq, rfl⟩ := List.mem_map.1 hp
    exact ⟨q, hq, rfl⟩
  · rintro ⟨q, hq, rfl⟩
    exact ⟨_, List.mem_map.2 ⟨q, hq, rfl⟩, rfl⟩
theorem seqP_tx (l : List (Int × Int)) (ks : List Int) : seqP (tx l) ks = (seqP l ks).map fun p => (p.1, textOf p.2) := by
  induction ks with
  | nil => rfl
  | cons k ks ih => rw [seqP_cons, seqP_cons, List.map_append, ih, getK_tx, List.map_map, List.map_map]; rfl
theorem given_tx {mu : Mu Int} {ms : Mu ByteArray} {l : List (Int × Int)} (ho : mu.Of l) (hs : ms.Of (tx l)) (lo hi : Int) : Tx.given ms (tx l) lo hi = (given mu l lo hi).map fun p => (p.1, textOf p.2) := by
  unfold Tx.given given
  rw [keys_tx ho hs, seqP_tx]
theorem Tx.Range1_at (W w : World) (mu : Mu ByteArray) (l : List (Int × ByteArray)) (lo hi : Int) (pm plo phi yl : Nat) (R1 : List HProp) (ho : mu.Of l) (hl : l.length ≤ 100000000)
    (J Jx : List (Int × ByteArray) → Mu ByteArray → List HProp → Prop) (hJ0 : J [] mu (Tx.boxes pm plo phi mu.m lo hi ++ R1)) (hs : Sat W w (Tx.muL mu ++ (Tx.boxes pm plo phi mu.m lo hi ++ R1)))
    (hy : ∀ pre x rest own mu' R w, Tx.given mu l lo hi = pre ++ x :: rest → J pre mu' R → mu.grows mu' → Sat W w (Tx.muL mu' ++ (R ++ own)) →
      Yld Try.prog yl #[.int .i64 x.1, .string x.2] w (fun v w' => ∃ mu'' R', mu'.grows mu'' ∧ Sat W w' (Tx.muL mu'' ++ (R' ++ own)) ∧ ((v = .bool true ∧ J (pre ++ [x]) mu'' R') ∨ (v = .bool false ∧ Jx (pre ++ [x]) mu'' R')))) :
    Calls Try.prog 76 [.func (.yield yl) #[] #[], .pointer (some ⟨pm, 0, none⟩), .pointer (some ⟨plo, 0, none⟩), .pointer (some ⟨phi, 0, none⟩)].toArray w
      (Ret fun v w' => v = .tuple #[] ∧ ∃ mu' R', mu.grows mu' ∧ Sat W w' (Tx.muL mu' ++ R') ∧ (J (Tx.given mu l lo hi) mu' R' ∨ ∃ pre x rest, Tx.given mu l lo hi = pre ++ x :: rest ∧ Jx (pre ++ [x]) mu' R')) := by
  refine Tx.Range1_call W w mu l lo hi pm plo phi yl R1 ho hl J Jx hJ0 hs fun pre x rest own mu' R w he hJ hg hs => ?_
  refine (hy pre x rest own mu' R w he hJ hg hs.rot3).post ?_
  rintro v w' ⟨mu2, R2, hg2, hs2, h⟩
  exact ⟨mu2, R2, hg2, hs2.rot3.rot3, h⟩
/-- The n-th of what a range gives: the values of one key behind another. -/
theorem seqP_at {l : List (Int × Int)} {ks : List Int} {i j : Nat} (hi : i < ks.length) (hj : j < (getK l ks[i]).length) :
    (seqP l (ks.take i)).length + j < (seqP l ks).length ∧ rd (seqP l ks) (((seqP l (ks.take i)).length + j : Nat) : Int) = (ks[i], (getK l ks[i])[j]) := by
  have h := seqP_split l hi hj
  have hl : (seqP l (ks.take i) ++ ((getK l ks[i]).take j).map fun v => (ks[i], v)).length = (seqP l (ks.take i)).length + j := by
    rw [List.length_append, List.length_map, List.length_take]; omega
  have hlt : (seqP l (ks.take i)).length + j < (seqP l ks).length := by
    rw [h, List.length_append, hl, List.length_cons]; omega
  refine ⟨hlt, ?_⟩
  rw [rdN hlt]
  simp only [h]
  rw [List.getElem_append_right (by omega)]
  simp only [hl, Nat.sub_self, List.getElem_cons_zero]
theorem rd_mapG {α β : Type} [Inhabited α] [Inhabited β] (f : α → β) {Q : List α} {i : Nat} (h : i < Q.length) : rd (Q.map f) (i : Int) = f (rd Q (i : Int)) := by
  rw [rdN (by simpa using h), rdN h, List.getElem_map]
end Go.Proofs.Ytaofhbjlbdpjhaa
