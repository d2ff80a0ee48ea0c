/- Walks of the reader: four hexadecimal digits. -/
import Derived.Test.YtbmeafeojcgndaaDoorV1
set_option linter.unusedVariables false
set_option linter.unusedSimpArgs false
namespace Go.Proofs.YtbmeafeojcgndaaDoor
open Go Go.Sl Go.RowKit
set_option maxRecDepth 100000
attribute [local irreducible] CW LW DW FR DP Calls Res Ret
theorem wrap_u8 {n : Int} (h0 : 0 ≤ n) (h1 : n < 256) : IntKind.u8.wrap n = n := by
  unfold IntKind.wrap
  have e : n % (2 ^ IntKind.u8.bits : Int) = n := by
    have : (2 ^ IntKind.u8.bits : Int) = 256 := rfl
    rw [this]; omega
  simp only [e]
  simp [IntKind.signed]
def hexV (c : UInt8) : Option Nat :=
  if 48 ≤ c.toNat ∧ c.toNat ≤ 57 then some (c.toNat - 48)
  else if 97 ≤ c.toNat ∧ c.toNat ≤ 102 then some (c.toNat - 87)
  else if 65 ≤ c.toNat ∧ c.toNat ≤ 70 then some (c.toNat - 55) else none
def unitL (b : List UInt8) (fr : Nat) : Nat → Nat → Nat → Mo (Nat × Nat)
  | 0, u, p => .ok (u, p)
  | k + 1, u, p => match peekM b p with
    | .error e => .error e
    | .ok c => match hexV c with
      | some h => unitL b fr k (16 * u + h) (p + 1)
      | none => .error (135, fr)
theorem unitL_succ (b : List UInt8) (fr k u p : Nat) : unitL b fr (k + 1) u p = match peekM b p with
    | .error e => .error e
    | .ok c => match hexV c with
      | some h => unitL b fr k (16 * u + h) (p + 1)
      | none => .error (135, fr) := rfl
def unitM (b : List UInt8) (fr p : Nat) : Mo (Nat × Nat) := unitL b fr 4 0 p
section
variable {W : World} {b : List UInt8} {B : Option Addr} {c br p d : Nat} {L : List HProp}
set_option maxHeartbeats 1000000 in
theorem unit_call (w : World) (fr : Nat) (hs : Sat W w (Cl br (eR B b.length c p d) 57 :: L)) (rb : Rd eB W B b) (hp : p ≤ b.length) (hb : b.length ≤ 140737488355328) :
    Calls Tryd.prog 89 [Value.pointer (some ⟨br, 0, none⟩), .int .i64 (fr : Int)].toArray w (Gives W L (unitM b fr p) fun q v w' => v = .int .i32 (q.1 : Int) ∧ q.1 < 65536 ∧ q.2 = p + 4 ∧ q.2 ≤ b.length ∧ Sat W w' (Cl br (eR B b.length c q.2 d) 57 :: L)) := by
  unfold Gives
  refine Calls_of Tryd.func89 rfl 64 Tryd.ntmps89 rfl ?_
  (repeat' (first | (refine isLW ?_; first | refine LW_nil ?_ | refine LW_pure TOK rfl ?_) | (with_reducible first | refine then_n ?_ | refine CW_seq ?_ | refine CW_region ?_ | refine CW_block ?_)))
  refine CW_loop (γ := Nat × Nat) (fun g => [(0, .pointer (some ⟨br, 0, none⟩)), (1, .int .i64 (fr : Int)), (5, .int .i32 (g.2 : Int)), (7, .int .i64 (g.1 : Int))]) (fun g w' => Sat W w' (Cl br (eR B b.length c (p + g.1) d) 57 :: L) ∧ g.1 ≤ 4 ∧ p + g.1 ≤ b.length ∧ g.2 < 16 ^ g.1 ∧ unitL b fr (4 - g.1) g.2 (p + g.1) = unitM b fr p) (fun g => 4 - g.1) (0, 0) ⟨rfl, rfl, rfl, rfl, trivial⟩ ⟨hs, by omega, by dsimp only; omega, by decide, rfl⟩ ?_
  clear hs
  rintro ⟨g, u⟩ τ w' ⟨hs, h1, h2, h3, h4⟩
  dsimp only at hs h1 h2 h3 h4 ⊢
  by_cases hlt : g < 4
  · have e4 : 4 - g = (4 - (g + 1)) + 1 := by omega
    rw [e4, unitL_succ] at h4
    have hp3 : 16 ^ g ≤ 16 ^ 3 := Nat.pow_le_pow_right (by omega) (by omega)
    have hps : 16 ^ (g + 1) = 16 ^ g * 16 := Nat.pow_succ ..
    have hu : u < 4096 := by omega
    have hsh : IntKind.i32.wrap ((u : Int) * 2 ^ (min (4 : Int).toNat IntKind.i32.bits)) = ((16 * u : Nat) : Int) := by
      have : (2 : Int) ^ (min (4 : Int).toNat IntKind.i32.bits) = 16 := rfl
      rw [this, wrap_in32 (by omega) (by omega)]; omega
    rcases hk : peekM b (p + g) with er | x
    · rw [hk] at h4
      (repeat' (first | (refine isLW ?_; first | refine LW_nil ?_ | (refine isLcall ?_; first | (refine LW_callX (cap := []) rfl rfl ent35 (peek_call _ hs rb h2 hb) ?_ ?_; (rintro _ w2 ⟨x, hx, _⟩; rw [hk] at hx; cases hx); rintro _ w2 ⟨er2, hx, rfl, hs2⟩; rw [hk] at hx; cases hx)) | (refine isLbin ?_; first | (refine LW_cmp rfl (fun _ => ?_) (fun _ => ?_) <;> try (exfalso; omega))) | refine LW_pure TOK rfl ?_) | (with_reducible first | refine then_n ?_ | refine CW_seq ?_ | refine CW_region ?_ | refine CW_block ?_ | refine CW_skip ?_ | refine then_p ?_ | refine blk_p ?_) | refine CW_true rfl ?_ | refine RXP ?_))
      exact ⟨_, h4.symm, rfl, hs2⟩
    obtain ⟨hx1, hx2⟩ := peek_some hk
    rw [hk] at h4
    dsimp only at h4
    have fin : ∀ (h : Nat), h < 16 → hexV x = some h → ∀ (w : World) (s : List (Nat × Value)) (τ : Nat → Value), Sat W w (Cl br [.slice B b.length c, .int .i64 ((p + g : Nat) + 1 : Int), .int .i64 d] 57 :: L) → Agr s [(0, .pointer (some ⟨br, 0, none⟩)), (1, .int .i64 (fr : Int)), (5, .int .i32 ((16 * u + h : Nat) : Int)), (7, .int .i64 ((g : Int) + 1))] →
        ∃ (g' : Nat × Nat) (τ' : Nat → Value), FR 64 s τ [] = FR 64 [(0, .pointer (some ⟨br, 0, none⟩)), (1, .int .i64 (fr : Int)), (5, .int .i32 (g'.2 : Int)), (7, .int .i64 (g'.1 : Int))] τ' [] ∧ (Sat W w (Cl br (eR B b.length c (p + g'.1) d) 57 :: L) ∧ g'.1 ≤ 4 ∧ p + g'.1 ≤ b.length ∧ g'.2 < 16 ^ g'.1 ∧ unitL b fr (4 - g'.1) g'.2 (p + g'.1) = unitM b fr p) ∧ 4 - g'.1 < 4 - g := fun h hh he w s τ hs ha => by
      rw [he] at h4
      exact ⟨((g + 1, 16 * u + h) : Nat × Nat), _, FR_forget _ ha, ⟨hs, by dsimp only; omega, by dsimp only; omega, by dsimp only; omega, h4⟩, by dsimp only; omega⟩
    by_cases r1 : 48 ≤ x.toNat ∧ x.toNat ≤ 57
    · obtain ⟨h, hh⟩ : ∃ h : Nat, x.toNat = h + 48 := ⟨x.toNat - 48, by omega⟩
      have he : hexV x = some h := by unfold hexV; rw [if_pos r1]; congr 1; omega
      have hR : ((x.toNat : Int) ≥ 48) ∧ ((x.toNat : Int) ≤ 57) := by omega
      (repeat' (first | (refine isLW ?_; first | refine LW_nil ?_ | (refine isLg ?_; first | refine LW_take rfl ?_) | (refine isLload ?_; first | refine LW_loadC 0 TOK hs rfl rfl rfl rfl rfl ?_) | (refine isLstore ?_; first | (refine LW_storeC 0 TOK hs rfl rfl rfl rfl rfl rfl rfl ?_; clear hs; intro w hs)) | (refine isLcall ?_; first | (refine LW_callX (cap := []) rfl rfl ent35 (peek_call _ hs rb h2 hb) ?_ ?_; rotate_left; (rintro _ w2 ⟨x, hx, _⟩; rw [hk] at hx; cases hx); clear hs; rintro _ w2 ⟨er2, hx, rfl, hs⟩; rw [hk] at hx; cases hx; unfold eR at hs)) | (refine isLbin ?_; first | refine LW_shiftE _ rfl rfl (by omega) rfl hsh ?_ | refine LW_arithE (h : Int) rfl ((wrap_u8 (by omega) (by omega)).trans (by omega)) ?_ | refine LW_arithE ((16 * u + h : Nat) : Int) rfl ((wrap_in32 (by omega) (by omega)).trans (by omega)) ?_ | refine LW_i64 rfl (by omega) (by omega) ?_ | (refine LW_cmp rfl (fun _ => ?_) (fun _ => ?_) <;> try (exfalso; omega))) | refine LW_convE (h : Int) TOK rfl rfl rfl rfl (wrap_in32 (by omega) (by omega)) ?_ | refine LW_pure TOK rfl ?_) | (with_reducible first | refine then_n ?_ | refine CW_seq ?_ | refine CW_region ?_ | refine CW_block ?_ | refine CW_skip ?_ | refine blk_n ?_) | refine CW_true rfl ?_))
      exact fin h (by omega) he _ _ _ hs ⟨rfl, rfl, rfl, rfl, trivial⟩
    by_cases r2 : 97 ≤ x.toNat ∧ x.toNat ≤ 102
    · obtain ⟨h, hh⟩ : ∃ h : Nat, x.toNat = h + 87 := ⟨x.toNat - 87, by omega⟩
      have he : hexV x = some h := by unfold hexV; rw [if_neg r1, if_pos r2]; congr 1; omega
      (repeat' (first | (refine isLW ?_; first | refine LW_nil ?_ | (refine isLg ?_; first | refine LW_take rfl ?_) | (refine isLload ?_; first | refine LW_loadC 0 TOK hs rfl rfl rfl rfl rfl ?_) | (refine isLstore ?_; first | (refine LW_storeC 0 TOK hs rfl rfl rfl rfl rfl rfl rfl ?_; clear hs; intro w hs)) | (refine isLcall ?_; first | (refine LW_callX (cap := []) rfl rfl ent35 (peek_call _ hs rb h2 hb) ?_ ?_; rotate_left; (rintro _ w2 ⟨x, hx, _⟩; rw [hk] at hx; cases hx); clear hs; rintro _ w2 ⟨er2, hx, rfl, hs⟩; rw [hk] at hx; cases hx; unfold eR at hs)) | (refine isLbin ?_; first | refine LW_shiftE _ rfl rfl (by omega) rfl hsh ?_ | refine LW_arithE ((x.toNat : Int) - 97) rfl (wrap_u8 (by omega) (by omega)) ?_ | refine LW_arithE (h : Int) rfl ((wrap_u8 (by omega) (by omega)).trans (by omega)) ?_ | refine LW_arithE ((16 * u + h : Nat) : Int) rfl ((wrap_in32 (by omega) (by omega)).trans (by omega)) ?_ | refine LW_i64 rfl (by omega) (by omega) ?_ | (refine LW_cmp rfl (fun _ => ?_) (fun _ => ?_) <;> try (exfalso; omega))) | refine LW_convE (h : Int) TOK rfl rfl rfl rfl (wrap_in32 (by omega) (by omega)) ?_ | refine LW_pure TOK rfl ?_) | (with_reducible first | refine then_n ?_ | refine CW_seq ?_ | refine CW_region ?_ | refine CW_block ?_ | refine CW_skip ?_ | refine blk_n ?_) | refine CW_true rfl ?_ | refine CW_false rfl ?_))
      exact fin h (by omega) he _ _ _ hs ⟨rfl, rfl, rfl, rfl, trivial⟩
    by_cases r3 : 65 ≤ x.toNat ∧ x.toNat ≤ 70
    · obtain ⟨h, hh⟩ : ∃ h : Nat, x.toNat = h + 55 := ⟨x.toNat - 55, by omega⟩
      have he : hexV x = some h := by unfold hexV; rw [if_neg r1, if_neg r2, if_pos r3]; congr 1; omega
      (repeat' (first | (refine isLW ?_; first | refine LW_nil ?_ | (refine isLg ?_; first | refine LW_take rfl ?_ | refine LW_pass rfl rfl ?_) | (refine isLload ?_; first | refine LW_loadC 0 TOK hs rfl rfl rfl rfl rfl ?_) | (refine isLstore ?_; first | (refine LW_storeC 0 TOK hs rfl rfl rfl rfl rfl rfl rfl ?_; clear hs; intro w hs)) | (refine isLcall ?_; first | (refine LW_callX (cap := []) rfl rfl ent35 (peek_call _ hs rb h2 hb) ?_ ?_; rotate_left; (rintro _ w2 ⟨x, hx, _⟩; rw [hk] at hx; cases hx); clear hs; rintro _ w2 ⟨er2, hx, rfl, hs⟩; rw [hk] at hx; cases hx; unfold eR at hs)) | (refine isLbin ?_; first | refine LW_shiftE _ rfl rfl (by omega) rfl hsh ?_ | refine LW_arithE ((x.toNat : Int) - 65) rfl (wrap_u8 (by omega) (by omega)) ?_ | refine LW_arithE (h : Int) rfl ((wrap_u8 (by omega) (by omega)).trans (by omega)) ?_ | refine LW_arithE ((16 * u + h : Nat) : Int) rfl ((wrap_in32 (by omega) (by omega)).trans (by omega)) ?_ | refine LW_i64 rfl (by omega) (by omega) ?_ | (refine LW_cmp rfl (fun _ => ?_) (fun _ => ?_) <;> try (exfalso; omega))) | refine LW_convE (h : Int) TOK rfl rfl rfl rfl (wrap_in32 (by omega) (by omega)) ?_ | refine LW_pure TOK rfl ?_) | (with_reducible first | refine then_n ?_ | refine CW_seq ?_ | refine CW_region ?_ | refine CW_block ?_ | refine CW_skip ?_ | refine blk_n ?_) | refine CW_true rfl ?_ | refine CW_false rfl ?_))
      exact fin h (by omega) he _ _ _ hs ⟨rfl, rfl, rfl, rfl, trivial⟩
    · have he : hexV x = none := by unfold hexV; rw [if_neg r1, if_neg r2, if_neg r3]
      rw [he] at h4
      (repeat' (first | (refine isLW ?_; first | refine LW_nil ?_ | (refine isLg ?_; first | refine LW_take rfl ?_ | refine LW_pass rfl rfl ?_) | (refine isLcall ?_; first | (refine LW_callX (cap := []) rfl rfl ent35 (peek_call _ hs rb h2 hb) ?_ ?_; rotate_left; (rintro _ w2 ⟨x, hx, _⟩; rw [hk] at hx; cases hx); clear hs; rintro _ w2 ⟨er2, hx, rfl, hs⟩; rw [hk] at hx; cases hx; unfold eR at hs) | (refine LW_callX (cap := []) rfl rfl ent27 (fail_call _ _ _ fr) (fun _ _ h => h.elim) ?_; rintro _ w2 ⟨rfl, rfl⟩)) | (refine isLbin ?_; first | (refine LW_cmp rfl (fun _ => ?_) (fun _ => ?_) <;> try (exfalso; omega))) | refine LW_pure TOK rfl ?_) | (with_reducible first | refine then_n ?_ | refine CW_seq ?_ | refine CW_region ?_ | refine CW_block ?_ | refine CW_skip ?_ | refine then_p ?_ | refine blk_p ?_) | refine CW_true rfl ?_ | refine CW_false rfl ?_ | refine RXP ?_))
      all_goals exact ⟨_, h4.symm, rfl, hs.drop1⟩
  · (repeat' (first | (refine isLW ?_; first | refine LW_nil ?_ | (refine isLbin ?_; first | (refine LW_cmp rfl (fun _ => ?_) (fun _ => ?_) <;> try (exfalso; omega))) | refine LW_pure TOK rfl ?_) | (with_reducible first | refine then_n ?_ | refine CW_seq ?_ | refine CW_region ?_ | refine CW_exit ?_ | refine CW_ret ?_ | refine then_e ?_ | refine blk_same ?_) | refine CW_false rfl ?_ | refine RX1 Tryd.results89 rfl ?_))
    have e : g = 4 := by omega
    subst e
    exact ⟨_, h4.symm, rfl, by simpa using h3, rfl, h2, hs⟩
end
end Go.Proofs.YtbmeafeojcgndaaDoor
