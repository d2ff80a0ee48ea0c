/- Plain laws: the keys that are read are integers. -/
import Derived.Test.YtaofhbjlbdpjhaaP1
import Derived.Test.YtaofhbjlbdpjhaaSlB
set_option linter.unusedVariables false
set_option linter.unusedSimpArgs false
namespace Go.Proofs.Ytaofhbjlbdpjhaa
open Go Go.Sl

theorem decV_key (b : List UInt8) (key : Int) : ∀ (k : Nat) (prev : Option Int) (at' : Int) (l : List (Int × Int)) (a : Int), decV b key k prev at' = .ok (l, a) → ∀ p ∈ l, p.1 = key
  | 0, prev, at', l, a, h => by
    simp [decV] at h
    obtain ⟨rfl, rfl⟩ := h
    intro p hp; cases hp
  | k + 1, none, at', l, a, h => by
    simp only [decV] at h
    split at h
    · cases h
    split at h
    · cases h
    split at h
    · cases h
    · rename_i l' a' hr
      cases h
      intro p hp
      rcases List.mem_cons.1 hp with rfl | hp
      · rfl
      · exact decV_key b key k _ _ _ _ hr p hp
  | k + 1, some q, at', l, a, h => by
    simp only [decV] at h
    split at h
    · cases h
    split at h
    · cases h
    split at h
    · cases h
    · rename_i l' a' hr
      cases h
      intro p hp
      rcases List.mem_cons.1 hp with rfl | hp
      · rfl
      · exact decV_key b key k _ _ _ _ hr p hp
theorem decK_key (b : List UInt8) : ∀ (n : Nat) (key at' : Int) (l : List (Int × Int)) (a : Int), 0 ≤ key → key ≤ 9223372036854775807 → decK b n key at' = .ok (l, a) → ∀ p ∈ l, 0 ≤ p.1 ∧ p.1 ≤ 9223372036854775807
  | 0, key, at', l, a, _, _, h => by
    simp [decK] at h
    obtain ⟨rfl, rfl⟩ := h
    intro p hp; cases hp
  | n + 1, key, at', l, a, h0, h1, h => by
    rw [decK] at h
    simp only [] at h
    have hr := (ru_ok b at').1
    split at h
    · cases h
    split at h
    · cases h
    split at h
    · cases h
    split at h
    · cases h
    split at h
    · cases h
    · rename_i l1 a1 hv
      split at h
      · cases h
      · rename_i l2 a2 hk
        cases h
        intro p hp
        rcases List.mem_append.1 hp with hp | hp
        · have := decV_key b _ _ _ _ _ _ hv p hp
          omega
        · exact decK_key b n _ _ _ _ (by omega) (by omega) hk p hp
theorem dec_okI {b : List UInt8} {l : List (Int × Int)} (h : dec b = .ok l) : ∀ p ∈ l, okI p.1 := by
  unfold dec at h
  simp only [] at h
  split at h
  · cases h
  · cases hk : decK b (ru b 0).1.toNat 0 (ru b 0).2.1 with
    | error e => rw [hk] at h; cases h
    | ok q =>
      obtain ⟨l', a⟩ := q
      rw [hk] at h
      simp only [fin] at h
      split at h
      · cases h
        intro p hp
        have := decK_key b _ _ _ _ _ (by omega) (by omega) hk p hp
        unfold okI; omega
      · cases h
end Go.Proofs.Ytaofhbjlbdpjhaa
