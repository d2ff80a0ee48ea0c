/- Plain laws: keys that rise, each with values that rise: what a container of them tells, and how it is written. -/
import Derived.Test.YtaofhbjlbdpjhaaF27
import Derived.Test.YtaofhbjlbdpjhaaF42
set_option linter.unusedVariables false
set_option linter.unusedSimpArgs false
namespace Go.Proofs.Ytaofhbjlbdpjhaa
open Go Go.Sl Go.RowKit

def flatP (P : List (Int × List Int)) : List (Int × Int) := P.flatMap fun p => p.2.map fun v => (p.1, v)
structure Good (P : List (Int × List Int)) : Prop where
  asc : P.Pairwise fun a b => a.1 < b.1
  one : ∀ p ∈ P, 1 ≤ p.1 ∧ p.1 ≤ 9223372036854775807 ∧ p.2 ≠ [] ∧ p.2.Pairwise (fun a b => a < b) ∧ ∀ v ∈ p.2, 0 ≤ v ∧ v ≤ 9223372036854775807
theorem Good.tail {p : Int × List Int} {P : List (Int × List Int)} (h : Good (p :: P)) : Good P := ⟨(List.pairwise_cons.1 h.asc).2, fun q hq => h.one q (List.mem_cons_of_mem _ hq)⟩
theorem flatP_mem {P : List (Int × List Int)} {x : Int × Int} (h : x ∈ flatP P) : ∃ p ∈ P, x.1 = p.1 ∧ x.2 ∈ p.2 := by
  unfold flatP at h
  obtain ⟨p, hp, h⟩ := List.mem_flatMap.1 h
  obtain ⟨v, hv, rfl⟩ := List.mem_map.1 h
  exact ⟨p, hp, rfl, hv⟩
theorem flatP_cons (p : Int × List Int) (P : List (Int × List Int)) : flatP (p :: P) = p.2.map (fun v => (p.1, v)) ++ flatP P := by simp [flatP]
theorem flatP_app (P Q : List (Int × List Int)) : flatP (P ++ Q) = flatP P ++ flatP Q := by simp [flatP]
theorem flatP_one (p : Int × List Int) : flatP [p] = p.2.map (fun v => (p.1, v)) := by simp [flatP]
theorem getK_flatP : ∀ {P : List (Int × List Int)}, P.Pairwise (fun a b => a.1 < b.1) → ∀ p ∈ P, getK (flatP P) p.1 = p.2
  | [], _, p, hp => by cases hp
  | q :: P, ha, p, hp => by
    rw [List.pairwise_cons] at ha
    rw [flatP_cons, getK_app, getK_map]
    rcases List.mem_cons.1 hp with rfl | hp
    · rw [if_pos rfl, getK_nil_of, List.append_nil]
      intro x hx
      obtain ⟨r, hr, he, _⟩ := flatP_mem hx
      have := ha.1 r hr
      omega
    · have := ha.1 p hp
      rw [if_neg (by omega), List.nil_append]
      exact getK_flatP ha.2 p hp
theorem flatP_ok1 {P : List (Int × List Int)} (h : Good P) : ∀ x ∈ flatP P, okI x.1 := by
  intro x hx
  obtain ⟨p, hp, he, _⟩ := flatP_mem hx
  have := h.one p hp
  unfold okI; rw [he]; omega
theorem flatP_ok2 {P : List (Int × List Int)} (h : Good P) : ∀ x ∈ flatP P, okI x.2 := by
  intro x hx
  obtain ⟨p, hp, _, hv⟩ := flatP_mem hx
  have := (h.one p hp).2.2.2.2 _ hv
  unfold okI; omega
theorem flatP_len {k : Nat} : ∀ {P : List (Int × List Int)}, (∀ p ∈ P, p.2.length ≤ k) → (flatP P).length ≤ P.length * k
  | [], _ => by simp [flatP]
  | p :: P, h => by
    have h1 := flatP_len (P := P) fun q hq => h q (List.mem_cons_of_mem _ hq)
    have h2 := h p List.mem_cons_self
    rw [flatP_cons, List.length_append, List.length_map, List.length_cons, Nat.succ_mul]
    omega
theorem sortI_asc {ks : List Int} (h : ks.Pairwise (fun a b => a < b)) : sortI ks = ks := by
  unfold sortI
  exact List.mergeSort_of_pairwise (h.imp fun h => by simp; omega)
theorem keysR_flatP {P : List (Int × List Int)} (h : Good P) : keysR (flatP P) = P.map (·.1) := by
  have ha : (P.map (·.1)).Pairwise (fun a b : Int => a < b) := List.pairwise_map.2 h.asc
  have hnd : (P.map (·.1)).Nodup := ha.imp fun {a b} h => by omega
  rw [← keysR_eq (flatP_ok1 h) (ks := P.map (·.1)) hnd ?_, sortI_asc ha]
  intro x
  constructor
  · intro hx
    obtain ⟨p, hp, rfl⟩ := List.mem_map.1 hx
    obtain ⟨v, hv⟩ := List.exists_mem_of_ne_nil _ (h.one p hp).2.2.1
    exact ⟨(p.1, v), List.mem_flatMap.2 ⟨p, hp, List.mem_map.2 ⟨v, hv, rfl⟩⟩, rfl⟩
  · rintro ⟨y, hy, rfl⟩
    obtain ⟨p, hp, he, _⟩ := flatP_mem hy
    exact List.mem_map.2 ⟨p, hp, he.symm⟩
theorem encVs_good : ∀ (vs : List Int) (prev : Option Int) (out : List UInt8), vs.Pairwise (fun a b => a < b) → (∀ v ∈ vs, 0 ≤ v) → (∀ q, prev = some q → ∀ v ∈ vs, q < v) → ∃ seg, encVs vs prev out = some (out ++ seg)
  | [], prev, out, _, _, _ => ⟨[], by cases prev <;> simp [encVs]⟩
  | x :: xs, none, out, hp, h0, _ => by
    rw [List.pairwise_cons] at hp
    have hx := h0 x List.mem_cons_self
    obtain ⟨seg, hs⟩ := encVs_good xs (some x) (out ++ ub x.toNat) hp.2 (fun v hv => h0 v (List.mem_cons_of_mem _ hv)) (fun q hq v hv => by cases hq; exact hp.1 v hv)
    exact ⟨ub x.toNat ++ seg, by rw [encVs, if_neg (by omega), hs, List.append_assoc]⟩
  | x :: xs, some p, out, hp, h0, hq => by
    rw [List.pairwise_cons] at hp
    have hx := hq p rfl x List.mem_cons_self
    obtain ⟨seg, hs⟩ := encVs_good xs (some x) (out ++ ub (x - p).toNat) hp.2 (fun v hv => h0 v (List.mem_cons_of_mem _ hv)) (fun q hq v hv => by cases hq; exact hp.1 v hv)
    exact ⟨ub (x - p).toNat ++ seg, by rw [encVs, if_neg (by omega), hs, List.append_assoc]⟩
theorem encK_good {l : List (Int × Int)} : ∀ (P : List (Int × List Int)) (prev : Int) (out : List UInt8), Good P → (∀ p ∈ P, getK l p.1 = p.2) → ∃ seg, encK l (P.map (·.1)) prev out = (0, out ++ seg)
  | [], prev, out, _, _ => ⟨[], by simp [encK]⟩
  | p :: P, prev, out, h, hg => by
    obtain ⟨h1, _, _, h2, h3⟩ := h.one p List.mem_cons_self
    have hgp := hg p List.mem_cons_self
    obtain ⟨s1, hs1⟩ := encVs_good p.2 none (out ++ ub (p.1 - prev).toNat ++ ub p.2.length) h2 (fun v hv => (h3 v hv).1) (fun q hq => by cases hq)
    obtain ⟨s2, hs2⟩ := encK_good P p.1 (out ++ ub (p.1 - prev).toNat ++ ub p.2.length ++ s1) h.tail (fun q hq => hg q (List.mem_cons_of_mem _ hq))
    refine ⟨ub (p.1 - prev).toNat ++ ub p.2.length ++ s1 ++ s2, ?_⟩
    rw [List.map_cons, encK, if_neg (by omega), hgp, hs1]
    simp only []
    rw [hs2]
    simp only [List.append_assoc]
theorem enc_flatP {P : List (Int × List Int)} (h : Good P) : ∃ bs, encR (flatP P) = (0, bs) ∧ 0 < bs.length := by
  unfold encR
  rw [keysR_flatP h]
  obtain ⟨seg, hs⟩ := encK_good P 0 (ub (P.map (·.1)).length) h (getK_flatP h.asc)
  refine ⟨_, hs, ?_⟩
  have := List.length_pos_iff.2 (ub_ne 10 (P.map (·.1)).length (by omega))
  rw [List.length_append]
  unfold ub
  omega
/-- A key more, above all. -/
theorem Good.snoc {P : List (Int × List Int)} (h : Good P) {k : Int} {vs : List Int} (hk : ∀ p ∈ P, p.1 < k) (h1 : 1 ≤ k) (h2 : k ≤ 9223372036854775807) (hn : vs ≠ []) (ha : vs.Pairwise (fun a b => a < b)) (hv : ∀ v ∈ vs, 0 ≤ v ∧ v ≤ 9223372036854775807) : Good (P ++ [(k, vs)]) := by
  refine ⟨List.pairwise_append.2 ⟨h.asc, List.pairwise_singleton _ _, fun a hA b hb => by rw [List.mem_singleton] at hb; subst hb; exact hk a hA⟩, fun p hp => ?_⟩
  rcases List.mem_append.1 hp with hp | hp
  · exact h.one p hp
  · rw [List.mem_singleton] at hp; subst hp; exact ⟨h1, h2, hn, ha, hv⟩
theorem asc_snoc {vs : List Int} {v : Int} (h : vs.Pairwise (fun a b => a < b)) (hv : ∀ u ∈ vs, u < v) : (vs ++ [v]).Pairwise (fun a b => a < b) :=
  List.pairwise_append.2 ⟨h, List.pairwise_singleton _ _, fun a hA b hb => by rw [List.mem_singleton] at hb; subst hb; exact hv a hA⟩
end Go.Proofs.Ytaofhbjlbdpjhaa
