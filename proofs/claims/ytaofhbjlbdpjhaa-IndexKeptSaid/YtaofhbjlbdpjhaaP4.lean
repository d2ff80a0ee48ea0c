/- Plain laws: a container's bytes, pair by pair. -/
import Derived.Test.YtaofhbjlbdpjhaaF24
import Derived.Test.YtaofhbjlbdpjhaaP3
set_option linter.unusedVariables false
set_option linter.unusedSimpArgs false
namespace Go.Proofs.Ytaofhbjlbdpjhaa
open Go Go.Sl Go.RowKit

def encP (l : List (Int × Int)) : List (Int × Int) → Int → Int → List UInt8 → Int × List UInt8
  | [], _, _, out => (0, out)
  | x :: ps, key, at', out => if x.1 < 1 then (50, []) else if ¬ x.1 = key then (if x.2 < 0 then (52, []) else encP l ps x.1 x.2 (out ++ ub (x.1 - key).toNat ++ ub (getK l x.1).length ++ ub (x.2 - 0).toNat)) else
    if x.2 ≤ at' then (52, []) else encP l ps key x.2 (out ++ ub (x.2 - at').toNat)
theorem encP_rest {l ps : List (Int × Int)} {k : Int} (hk : ¬ k < 1) {R : List UInt8 → Int × List UInt8} (hR : ∀ at' o, encP l ps k at' o = R o) : ∀ (vs : List Int) (p : Int) (out : List UInt8),
    encP l ((vs.map fun v => (k, v)) ++ ps) k p out = match encVs vs (some p) out with
      | none => (52, [])
      | some o => R o
  | [], p, out => by simpa [encVs] using hR p out
  | v :: vs, p, out => by
    simp only [List.map_cons, List.cons_append, encP, encVs, if_neg hk, not_true_eq_false, if_false]
    by_cases h : v ≤ p
    · rw [if_pos h, if_pos h]
    · rw [if_neg h, if_neg h]
      exact encP_rest hk hR vs v _
theorem encP_eq {l : List (Int × Int)} : ∀ (ks : List Int) (prev at' : Int) (out : List UInt8), ks.Pairwise (fun a b => a < b) → (∀ k ∈ ks, 1 ≤ k → prev < k) → (∀ k ∈ ks, getK l k ≠ []) → encP l (seqP l ks) prev at' out = encK l ks prev out
  | [], _, _, _, _, _, _ => rfl
  | k :: ks, prev, at', out, hp, hlt, hne => by
    rw [List.pairwise_cons] at hp
    rw [seqP_cons]
    obtain ⟨v, vs, hv⟩ := List.exists_cons_of_ne_nil (hne k List.mem_cons_self)
    by_cases hk : k < 1
    · rw [hv]
      simp only [List.map_cons, List.cons_append, encP, encK, if_pos hk]
    · have h0 := hlt k List.mem_cons_self (by omega)
      have ih : ∀ at' o, encP l (seqP l ks) k at' o = encK l ks k o := fun at' o => encP_eq ks k at' o hp.2 (fun j hj _ => hp.1 j hj) (fun j hj => hne j (List.mem_cons_of_mem _ hj))
      have hne2 : ¬ k = prev := by omega
      have e : encP l (((getK l k).map fun v => (k, v)) ++ seqP l ks) prev at' out = if v < 0 then (52, []) else encP l ((vs.map fun v => (k, v)) ++ seqP l ks) k v (out ++ ub (k - prev).toNat ++ ub (getK l k).length ++ ub (v - 0).toNat) := by
        rw [hv]
        simp only [List.map_cons, List.cons_append, encP, if_neg hk, hne2, not_false_eq_true, if_true, hv]
      rw [e]
      unfold encK
      rw [if_neg hk]
      conv => rhs; rw [hv]
      unfold encVs
      by_cases hv0 : v < 0
      · rw [if_pos hv0, if_pos hv0]
      · rw [if_neg hv0, if_neg hv0, encP_rest hk ih, hv, Int.sub_zero]
        cases encVs vs (some v) (out ++ ub (k - prev).toNat ++ ub (v :: vs).length ++ ub v.toNat) <;> rfl
theorem encP_given {mu : Mu Int} {l : List (Int × Int)} (ho : mu.Of l) (hok : ∀ p ∈ l, okI p.1) : encP l (given mu l (-9223372036854775808) 9223372036854775807) 0 0 (ub (keysR l).length) = encR l := by
  have hasc : (keysR l).Pairwise (fun a b => a < b) := keysW_asc (srt_ok (-9223372036854775808) 9223372036854775807 l).1 (allP l).length (Nat.le_refl _)
  have hg : given mu l (-9223372036854775808) 9223372036854775807 = seqP l (keysR l) := by
    unfold given
    rw [Mu_keys ho hok]
    unfold rangeK
    rw [List.filter_eq_self.2]
    intro k hk
    rw [← Mu_keys ho hok, keys_mem ho] at hk
    obtain ⟨v, hv⟩ := List.exists_mem_of_ne_nil _ hk
    unfold getK at hv
    obtain ⟨p, hp, _⟩ := List.mem_map.1 hv
    rw [List.mem_filter, decide_eq_true_eq] at hp
    have := hok p hp.1
    unfold okI at this
    rw [decide_eq_true_eq, ← hp.2]; exact this
  rw [hg]
  refine encP_eq _ _ _ _ hasc (fun k _ h => by omega) fun k hk => ?_
  rw [← Mu_keys ho hok, keys_mem ho] at hk
  exact hk
end Go.Proofs.Ytaofhbjlbdpjhaa
