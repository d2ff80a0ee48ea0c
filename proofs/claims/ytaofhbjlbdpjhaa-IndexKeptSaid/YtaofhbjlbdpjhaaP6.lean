/- Plain laws: what is written is read as it was. -/
import Derived.Test.YtaofhbjlbdpjhaaP4
import Derived.Test.YtaofhbjlbdpjhaaSlB
set_option linter.unusedVariables false
set_option linter.unusedSimpArgs false
namespace Go.Proofs.Ytaofhbjlbdpjhaa
open Go Go.Sl Go.RowKit

theorem encVs_forth (key : Int) : ∀ (vs : List Int) (prev : Option Int) (out o : List UInt8), encVs vs prev out = some o → (∀ p, prev = some p → 0 ≤ p) → (∀ v ∈ vs, v ≤ 9223372036854775807) →
    ∃ seg, o = out ++ seg ∧ ∀ (b pfx q : List UInt8), b = pfx ++ (seg ++ q) → decV b key vs.length prev pfx.length = .ok (vs.map (fun v => (key, v)), ((pfx.length + seg.length : Nat) : Int))
  | [], prev, out, o, h, _, _ => by
    have : o = out := by cases prev <;> (simp only [encVs, Option.some.injEq] at h; exact h.symm)
    subst this
    exact ⟨[], by simp, fun b pfx q _ => by simp [decV]⟩
  | v :: vs, none, out, o, h, _, hv => by
    rw [encVs] at h
    split at h
    · cases h
    rename_i h0
    have hvm := hv v List.mem_cons_self
    obtain ⟨seg, rfl, hs⟩ := encVs_forth key vs (some v) _ _ h (fun p hp => by cases hp; omega) fun x hx => hv x (List.mem_cons_of_mem _ hx)
    refine ⟨ub v.toNat ++ seg, by rw [List.append_assoc], fun b pfx q hb => ?_⟩
    have hr := ru_forth (b := b) (p := pfx) (q := seg ++ q) (n := v.toNat) (by rw [hb]; simp only [List.append_assoc]) (by omega)
    have hrec := hs b (pfx ++ ub v.toNat) q (by rw [hb]; simp only [List.append_assoc])
    rw [List.length_append] at hrec
    have hcast : ((v.toNat : Nat) : Int) = v := by omega
    rw [List.length_cons, decV]
    simp only [hr, not_true_eq_false, if_false]
    rw [if_neg (by omega), hcast, hrec]
    simp only [List.map_cons, List.length_append]
    rw [Nat.add_assoc]
  | v :: vs, some p, out, o, h, hp, hv => by
    rw [encVs] at h
    split at h
    · cases h
    rename_i h0
    have hp0 := hp p rfl
    have hvm := hv v List.mem_cons_self
    obtain ⟨seg, rfl, hs⟩ := encVs_forth key vs (some v) _ _ h (fun p hp => by cases hp; omega) fun x hx => hv x (List.mem_cons_of_mem _ hx)
    refine ⟨ub (v - p).toNat ++ seg, by rw [List.append_assoc], fun b pfx q hb => ?_⟩
    have hr := ru_forth (b := b) (p := pfx) (q := seg ++ q) (n := (v - p).toNat) (by rw [hb]; simp only [List.append_assoc]) (by omega)
    have hrec := hs b (pfx ++ ub (v - p).toNat) q (by rw [hb]; simp only [List.append_assoc])
    rw [List.length_append] at hrec
    have hcast : (((v - p).toNat : Nat) : Int) = v - p := by omega
    rw [List.length_cons, decV]
    simp only [hr, not_true_eq_false, if_false]
    rw [if_neg (by omega), hcast, show p + (v - p) = v by omega, hrec]
    simp only [List.map_cons, List.length_append]
    rw [Nat.add_assoc]
theorem encK_forth {L : List (Int × Int)} : ∀ (ks : List Int) (prev : Int) (out o : List UInt8), encK L ks prev out = (0, o) → 0 ≤ prev → ks.Pairwise (fun u v => u < v) → (∀ k ∈ ks, 1 ≤ k → prev < k) → (∀ k ∈ ks, k ≤ 9223372036854775807 ∧ getK L k ≠ [] ∧ (getK L k).length < 18446744073709551616 ∧ ∀ v ∈ getK L k, v ≤ 9223372036854775807) →
    ∃ seg, o = out ++ seg ∧ ∀ (b pfx q : List UInt8), b = pfx ++ (seg ++ q) → decK b ks.length prev pfx.length = .ok (seqP L ks, ((pfx.length + seg.length : Nat) : Int))
  | [], prev, out, o, h, _, _, _, _ => by
    simp only [encK, Prod.mk.injEq, true_and] at h
    subst h
    exact ⟨[], by simp, fun b pfx q _ => by simp [decK, seqP]⟩
  | k :: ks, prev, out, o, h, h0, hp, hlt, hk => by
    rw [List.pairwise_cons] at hp
    obtain ⟨a1, a2, a3, a4⟩ := hk k List.mem_cons_self
    rw [encK] at h
    split at h
    · cases h
    rename_i hk1
    have hkp := hlt k List.mem_cons_self (by omega)
    split at h
    · cases h
    rename_i out' he
    obtain ⟨seg1, rfl, hs1⟩ := encVs_forth k _ _ _ _ he (fun p hp => by cases hp) a4
    obtain ⟨seg2, rfl, hs2⟩ := encK_forth ks k _ _ h (by omega) hp.2 (fun j hj _ => hp.1 j hj) fun j hj => hk j (List.mem_cons_of_mem _ hj)
    refine ⟨ub (k - prev).toNat ++ (ub (getK L k).length ++ (seg1 ++ seg2)), by simp only [List.append_assoc], fun b pfx q hb => ?_⟩
    have hr1 := ru_forth (b := b) (p := pfx) (q := ub (getK L k).length ++ (seg1 ++ (seg2 ++ q))) (n := (k - prev).toNat) (by rw [hb]; simp only [List.append_assoc]) (by omega)
    have hr2 := ru_forth (b := b) (p := pfx ++ ub (k - prev).toNat) (q := seg1 ++ (seg2 ++ q)) (n := (getK L k).length) (by rw [hb]; simp only [List.append_assoc]) a3
    have hv := hs1 b (pfx ++ ub (k - prev).toNat ++ ub (getK L k).length) (seg2 ++ q) (by rw [hb]; simp only [List.append_assoc])
    have hd := hs2 b (pfx ++ ub (k - prev).toNat ++ ub (getK L k).length ++ seg1) q (by rw [hb]; simp only [List.append_assoc])
    simp only [List.length_append] at hr2 hv hd
    have hcast : (((k - prev).toNat : Nat) : Int) = k - prev := by omega
    have hpos := List.length_pos_iff.2 a2
    rw [List.length_cons, decK]
    simp only [hr1, not_true_eq_false, if_false]
    rw [if_neg (by omega)]
    simp only [hr2, not_true_eq_false, if_false]
    rw [if_neg (by omega), hcast, show prev + (k - prev) = k by omega, Int.toNat_natCast, hv]
    simp only []
    rw [hd, seqP_cons]
    simp only [List.length_append]
    congr 2
    push_cast; omega
theorem dec_forth {l : List (Int × Int)} {bs : List UInt8} (hok1 : ∀ p ∈ l, okI p.1) (hok2 : ∀ p ∈ l, okI p.2) (hl : l.length ≤ 100000) (h : encR l = (0, bs)) : dec bs = .ok (seqP l (keysR l)) := by
  have hasc : (keysR l).Pairwise (fun a b => a < b) := keysW_asc (srt_ok (-9223372036854775808) 9223372036854775807 l).1 (allP l).length (Nat.le_refl _)
  have hmem : ∀ k ∈ keysR l, ∃ p ∈ l, p.1 = k := by
    intro k hk
    rw [keysW_mem] at hk
    obtain ⟨j, hj, he⟩ := hk
    exact ⟨_, (allP_perm hok1).mem_iff.1 (rd_mem hj), he⟩
  have hkl : (keysR l).length ≤ 100000 := Nat.le_trans (Nat.le_trans (keysW_len (allP l) (allP l).length) (srt_len _ _ l)) hl
  obtain ⟨seg, rfl, hs⟩ := encK_forth (keysR l) 0 _ _ h (by omega) hasc (fun k _ h => by omega) fun k hk => by
    obtain ⟨p, hp, rfl⟩ := hmem k hk
    have h1 := hok1 p hp
    unfold okI at h1
    have hn := getK_len l p.1
    refine ⟨h1.2, ?_, by omega, fun v hv => (getK_okI hok2 p.1 v hv).2⟩
    intro he
    have : p.2 ∈ getK l p.1 := by
      unfold getK
      exact List.mem_map.2 ⟨p, List.mem_filter.2 ⟨hp, by simp⟩, rfl⟩
    rw [he] at this; cases this
  have hr := ru_forth (b := ub (keysR l).length ++ seg) (p := []) (q := seg) (n := (keysR l).length) rfl (by omega)
  have hd := hs (ub (keysR l).length ++ seg) (ub (keysR l).length) [] (by simp)
  simp only [List.length_nil, Nat.zero_add] at hr
  have e0 : ((0 : Nat) : Int) = 0 := rfl
  rw [e0] at hr
  unfold dec
  simp only [hr, not_true_eq_false, if_false]
  rw [Int.toNat_natCast, hd]
  simp only [fin, List.length_append, if_true]
end Go.Proofs.Ytaofhbjlbdpjhaa
