/- Plain laws: what is read is written as just these bytes. -/
import Derived.Test.YtaofhbjlbdpjhaaF24
import Derived.Test.YtaofhbjlbdpjhaaP3
import Derived.Test.YtaofhbjlbdpjhaaP2
import Derived.Test.YtaofhbjlbdpjhaaSlB
set_option linter.unusedVariables false
set_option linter.unusedSimpArgs false
namespace Go.Proofs.Ytaofhbjlbdpjhaa
open Go Go.Sl Go.RowKit

theorem decV_back (b : List UInt8) (key : Int) : ∀ (k : Nat) (prev : Option Int) (at' : Int) (l : List (Int × Int)) (a : Int), decV b key k prev at' = .ok (l, a) → 0 ≤ at' →
    0 ≤ a ∧ ∃ vs seg, l = vs.map (fun v => (key, v)) ∧ vs.length = k ∧ b.drop at'.toNat = seg ++ b.drop a.toNat ∧ ∀ out, encVs vs prev out = some (out ++ seg)
  | 0, prev, at', l, a, h, h0 => by
    simp only [decV, Except.ok.injEq, Prod.mk.injEq] at h
    obtain ⟨rfl, rfl⟩ := h
    exact ⟨h0, [], [], rfl, rfl, rfl, fun out => by cases prev <;> simp [encVs]⟩
  | k + 1, prev, at', l, a, h, h0 => by
    obtain ⟨x, y, z, hr⟩ : ∃ x y z, ru b at' = (x, y, z) := ⟨_, _, _, rfl⟩
    cases prev with
    | none =>
      rw [decV] at h
      simp only [hr] at h
      split at h
      · cases h
      rename_i hz
      have hz : z = 0 := by simpa using hz
      subst hz
      obtain ⟨_, b2, b3, b4, b5, b6⟩ := ru_back hr
      split at h
      · cases h
      split at h
      · cases h
      rename_i l2 a2 he
      cases h
      obtain ⟨c0, vs, seg, rfl, c1, c2, c3⟩ := decV_back b key k _ _ _ _ he (by omega)
      refine ⟨c0, x :: vs, ub x.toNat ++ seg, rfl, by simp [c1], by rw [b6, c2, List.append_assoc], fun out => ?_⟩
      rw [encVs, if_neg (by omega), c3, List.append_assoc]
    | some p =>
      rw [decV] at h
      simp only [hr] at h
      split at h
      · cases h
      rename_i hz
      have hz : z = 0 := by simpa using hz
      subst hz
      obtain ⟨_, b2, b3, b4, b5, b6⟩ := ru_back hr
      split at h
      · cases h
      rename_i hc
      split at h
      · cases h
      rename_i l2 a2 he
      cases h
      obtain ⟨c0, vs, seg, rfl, c1, c2, c3⟩ := decV_back b key k _ _ _ _ he (by omega)
      refine ⟨c0, (p + x) :: vs, ub x.toNat ++ seg, rfl, by simp [c1], by rw [b6, c2, List.append_assoc], fun out => ?_⟩
      rw [encVs, if_neg (by omega), c3, show p + x - p = x by omega, List.append_assoc]
/-- Blocks: a key, and its values. -/
abbrev flatB (bl : List (Int × List Int)) : List (Int × Int) := bl.flatMap fun x => x.2.map fun v => (x.1, v)
theorem decK_back (b : List UInt8) : ∀ (n : Nat) (key at' : Int) (l : List (Int × Int)) (a : Int), decK b n key at' = .ok (l, a) → 0 ≤ at' → 0 ≤ key →
    ∃ bl seg, l = flatB bl ∧ bl.length = n ∧ b.drop at'.toNat = seg ++ b.drop a.toNat ∧ (∀ x ∈ bl, key < x.1 ∧ x.2 ≠ []) ∧ (bl.map (·.1)).Pairwise (fun u v => u < v) ∧
      ∀ (L : List (Int × Int)), (∀ x ∈ bl, getK L x.1 = x.2) → ∀ out, encK L (bl.map (·.1)) key out = (0, out ++ seg)
  | 0, key, at', l, a, h, h0, hk => by
    simp only [decK, Except.ok.injEq, Prod.mk.injEq] at h
    obtain ⟨rfl, rfl⟩ := h
    exact ⟨[], [], rfl, rfl, rfl, fun x hx => (by cases hx), List.Pairwise.nil, fun L _ out => by simp [encK]⟩
  | n + 1, key, at', l, a, h, h0, hk => by
    obtain ⟨x, y, z, hr⟩ : ∃ x y z, ru b at' = (x, y, z) := ⟨_, _, _, rfl⟩
    obtain ⟨x2, y2, z2, hr2⟩ : ∃ x2 y2 z2, ru b y = (x2, y2, z2) := ⟨_, _, _, rfl⟩
    rw [decK] at h
    simp only [hr, hr2] at h
    split at h
    · cases h
    rename_i hz
    have hz : z = 0 := by simpa using hz
    subst hz
    obtain ⟨_, b2, b3, b4, b5, b6⟩ := ru_back hr
    split at h
    · cases h
    rename_i hc
    split at h
    · cases h
    rename_i hz2
    have hz2 : z2 = 0 := by simpa using hz2
    subst hz2
    obtain ⟨_, d2, d3, d4, d5, d6⟩ := ru_back hr2
    split at h
    · cases h
    rename_i hc2
    split at h
    · cases h
    rename_i l1 a1 he
    split at h
    · cases h
    rename_i l2 a2 he2
    cases h
    obtain ⟨c0, vs, seg, rfl, c1, c2, c3⟩ := decV_back b _ _ _ _ _ _ he (by omega)
    obtain ⟨bl, seg2, rfl, e1, e2, e3, e4, e5⟩ := decK_back b n _ _ _ _ he2 c0 (by omega)
    have hvs : vs ≠ [] := by intro hv; subst hv; simp at c1; omega
    refine ⟨(key + x, vs) :: bl, ub x.toNat ++ (ub x2.toNat ++ (seg ++ seg2)), by simp [flatB], by simp [e1], by rw [b6, d6, c2, e2]; simp only [List.append_assoc], ?_, ?_, ?_⟩
    · intro q hq
      rcases List.mem_cons.1 hq with rfl | hq
      · exact ⟨by dsimp only; omega, hvs⟩
      · have := e3 q hq; exact ⟨by omega, this.2⟩
    · rw [List.map_cons, List.pairwise_cons]
      refine ⟨fun q hq => ?_, e4⟩
      obtain ⟨w, hw, rfl⟩ := List.mem_map.1 hq
      exact (e3 w hw).1
    · intro L hL out
      rw [List.map_cons, encK, if_neg (by dsimp only; omega)]
      have hg := hL _ List.mem_cons_self
      dsimp only at hg ⊢
      have hlen : vs.length = x2.toNat := c1
      rw [hg, show key + x - key = x by omega, hlen, c3]
      simp only []
      rw [e5 L (fun q hq => hL q (List.mem_cons_of_mem _ hq))]
      simp only [List.append_assoc]
theorem getK_flatB : ∀ {bl : List (Int × List Int)}, (bl.map (·.1)).Pairwise (fun u v => u < v) → ∀ x ∈ bl, getK (flatB bl) x.1 = x.2
  | y :: bl, h, x, hx => by
    rw [List.map_cons, List.pairwise_cons] at h
    have e : flatB (y :: bl) = (y.2.map fun v => (y.1, v)) ++ flatB bl := by simp [flatB]
    rw [e, getK_app, getK_map]
    rcases List.mem_cons.1 hx with rfl | hx
    · rw [if_pos rfl, getK_nil_of, List.append_nil]
      intro p hp hk
      unfold flatB at hp
      rw [List.mem_flatMap] at hp
      obtain ⟨w, hw, hp⟩ := hp
      obtain ⟨v, _, rfl⟩ := List.mem_map.1 hp
      have := h.1 w.1 (List.mem_map_of_mem hw)
      dsimp only at hk; omega
    · have := h.1 x.1 (List.mem_map_of_mem hx)
      rw [if_neg (by omega), List.nil_append]
      exact getK_flatB h.2 x hx
theorem dec_back {b : List UInt8} {l : List (Int × Int)} (h : dec b = .ok l) : encR l = (0, b) := by
  have hok := dec_okI h
  obtain ⟨x, y, z, hr⟩ : ∃ x y z, ru b 0 = (x, y, z) := ⟨_, _, _, rfl⟩
  unfold dec at h
  simp only [hr] at h
  split at h
  · cases h
  rename_i hz
  have hz : z = 0 := by simpa using hz
  subst hz
  obtain ⟨_, b2, b3, b4, b5, b6⟩ := ru_back hr
  cases hd : decK b x.toNat 0 y with
  | error e => rw [hd] at h; cases h
  | ok p =>
    obtain ⟨l', a⟩ := p
    rw [hd] at h
    simp only [fin] at h
    split at h
    · rename_i ha
      cases h
      obtain ⟨bl, seg, rfl, e1, e2, e3, e4, e5⟩ := decK_back b _ _ _ _ _ hd (by omega) (by omega)
      have hmem : ∀ k, k ∈ bl.map (·.1) ↔ ∃ p ∈ flatB bl, p.1 = k := by
        intro k
        constructor
        · intro hk
          obtain ⟨w, hw, rfl⟩ := List.mem_map.1 hk
          obtain ⟨v, hv⟩ := List.exists_mem_of_ne_nil _ (e3 w hw).2
          exact ⟨(w.1, v), List.mem_flatMap.2 ⟨w, hw, List.mem_map_of_mem hv⟩, rfl⟩
        · rintro ⟨p, hp, rfl⟩
          unfold flatB at hp
          rw [List.mem_flatMap] at hp
          obtain ⟨w, hw, hp⟩ := hp
          obtain ⟨v, _, rfl⟩ := List.mem_map.1 hp
          exact List.mem_map_of_mem hw
      have hnd : (bl.map (·.1)).Nodup := e4.imp fun h => by omega
      have hks : keysR (flatB bl) = bl.map (·.1) := by
        rw [← keysR_eq hok hnd hmem]
        exact List.Perm.eq_of_pairwise (fun a b _ _ h1 h2 => Int.le_antisymm h1 h2) (sortI_le _) (e4.imp fun h => by omega) (List.mergeSort_perm _ _)
      unfold encR
      rw [hks, e5 _ (getK_flatB e4), List.length_map, e1]
      rw [show (0 : Int).toNat = 0 from rfl, List.drop_zero] at b6
      have ha2 : a.toNat = b.length := by omega
      rw [ha2, List.drop_length, List.append_nil] at e2
      rw [b6, e2]
    · cases h
end Go.Proofs.Ytaofhbjlbdpjhaa
