/- Walks of the reader: escapes. -/
import Derived.Test.YtbmeafeojcgndaaDoorV2
set_option linter.unusedVariables false
set_option linter.unusedSimpArgs false
namespace Go.Proofs.YtbmeafeojcgndaaDoor
open Go Go.Sl Go.RowKit
set_option maxRecDepth 100000
attribute [local irreducible] CW LW DW FR DP Calls Res Ret
/-- Just these bytes; else the escape is none. -/
def litM (b : List UInt8) (fr : Nat) : List UInt8 → Nat → Mo Nat
  | [], p => .ok p
  | c :: l, p => match peekM b p with
    | .error e => .error e
    | .ok x => if x = c then litM b fr l (p + 1) else .error (135, fr)
theorem litM_cons (b : List UInt8) (fr : Nat) (c : UInt8) (l : List UInt8) (p : Nat) : litM b fr (c :: l) p = match peekM b p with
    | .error e => .error e
    | .ok x => if x = c then litM b fr l (p + 1) else .error (135, fr) := rfl
def lowM (b : List UInt8) (fr u p : Nat) : Mo (Nat × Nat) := match unitM b fr p with
  | .error e => .error e
  | .ok q => if q.1 < 56320 ∨ 57343 < q.1 then .error (135, fr) else .ok (65536 + (u - 55296) * 1024 + (q.1 - 56320), q.2)
def unitsM (b : List UInt8) (fr p : Nat) : Mo (Nat × Nat) := match unitM b fr p with
  | .error e => .error e
  | .ok q => if q.1 < 55296 ∨ 57343 < q.1 then .ok q else if 56320 ≤ q.1 then .error (135, fr) else
    match litM b fr [92, 117] q.2 with
    | .error e => .error e
    | .ok p2 => lowM b fr q.1 p2
def escC (b : List UInt8) (p : Nat) (x : Nat) : Mo (Nat × Nat) :=
  if x = 34 ∨ x = 92 ∨ x = 47 then .ok (x, p + 2) else if x = 98 then .ok (8, p + 2) else if x = 102 then .ok (12, p + 2) else if x = 110 then .ok (10, p + 2)
  else if x = 114 then .ok (13, p + 2) else if x = 116 then .ok (9, p + 2) else if x = 117 then unitsM b p (p + 2) else .error (135, p)
/-- An escape: the code point that it says, and where it ends. -/
def escM (b : List UInt8) (p : Nat) : Mo (Nat × Nat) := match peekM b (p + 1) with
  | .error e => .error e
  | .ok x => escC b p x.toNat
section
variable {W : World} {b : List UInt8} {B : Option Addr} {c br p d : Nat} {L : List HProp}
set_option maxHeartbeats 1000000 in
theorem units_call (w : World) (fr : Nat) (hs : Sat W w (Cl br (eR B b.length c p d) 57 :: L)) (rb : Rd eB W B b) (hp : p ≤ b.length) (hb : b.length ≤ 140737488355328) :
    Calls Tryd.prog 74 [Value.pointer (some ⟨br, 0, none⟩), .int .i64 (fr : Int)].toArray w (Gives W L (unitsM b fr p) fun q v w' => v = .int .i32 (q.1 : Int) ∧ q.1 ≤ 1114111 ∧ p ≤ q.2 ∧ q.2 ≤ b.length ∧ Sat W w' (Cl br (eR B b.length c q.2 d) 57 :: L)) := by
  unfold Gives
  refine Calls_of Tryd.func74 rfl 62 Tryd.ntmps74 rfl ?_
  unfold unitsM
  rcases hk : unitM b fr p with er | ⟨u, p1⟩
  · (repeat' (first | (refine isLW ?_; first | refine LW_nil ?_ | (refine isLcall ?_; first | (refine LW_callX (cap := []) rfl rfl ent89 (unit_call _ fr hs rb hp hb) ?_ ?_; (rintro _ w2 ⟨x, hx, _⟩; rw [hk] at hx; cases hx); rintro _ w2 ⟨er2, hx, rfl, hs2⟩; rw [hk] at hx; cases hx)) | refine LW_pure TOK rfl ?_) | (with_reducible first | refine then_n ?_ | refine CW_seq ?_ | refine CW_region ?_ | refine then_p ?_) | refine RXP ?_))
    exact ⟨_, rfl, rfl, hs2⟩
  dsimp only
  by_cases h1 : u < 55296 ∨ 57343 < u
  · rw [if_pos h1]
    (repeat' (first | (refine isLW ?_; first | refine LW_nil ?_ | (refine isLg ?_; first | refine LW_take rfl ?_ | refine LW_pass rfl rfl ?_) | (refine isLcall ?_; first | (refine LW_callX (cap := []) rfl rfl ent89 (unit_call _ fr hs rb hp hb) ?_ ?_; rotate_left; (rintro _ w2 ⟨x, hx, _⟩; rw [hk] at hx; cases hx); clear hs; rintro _ w2 ⟨⟨u2, p2⟩, hx, rfl, k1, k2, k3, hs⟩; rw [hk] at hx; cases hx)) | (refine isLbin ?_; first | (refine LW_cmp rfl (fun _ => ?_) (fun _ => ?_) <;> try (exfalso; omega))) | refine LW_pure TOK rfl ?_) | (with_reducible first | refine then_n ?_ | refine CW_seq ?_ | refine CW_region ?_ | refine CW_ret ?_ | refine then_r ?_) | refine CW_true rfl ?_ | refine RX1 Tryd.results74 rfl ?_))
    all_goals exact ⟨_, rfl, rfl, by dsimp only at k1 ⊢; omega, by dsimp only at k2 ⊢; omega, k3, hs⟩
  rw [if_neg h1]
  by_cases h2 : 56320 ≤ u
  · rw [if_pos h2]
    (repeat' (first | (refine isLW ?_; first | refine LW_nil ?_ | (refine isLg ?_; first | refine LW_take rfl ?_) | (refine isLcall ?_; first | (refine LW_callX (cap := []) rfl rfl ent89 (unit_call _ fr hs rb hp hb) ?_ ?_; rotate_left; (rintro _ w2 ⟨x, hx, _⟩; rw [hk] at hx; cases hx); clear hs; rintro _ w2 ⟨⟨u2, p2⟩, hx, rfl, k1, k2, k3, hs⟩; rw [hk] at hx; cases hx) | (refine LW_callX (cap := []) rfl rfl ent27 (fail_call _ _ _ fr) (fun _ _ h => h.elim) ?_; rintro _ w2 ⟨rfl, rfl⟩)) | (refine isLbin ?_; first | (refine LW_cmp rfl (fun _ => ?_) (fun _ => ?_) <;> try (exfalso; omega))) | refine LW_pure TOK rfl ?_) | (with_reducible first | refine then_n ?_ | refine CW_seq ?_ | refine CW_region ?_ | refine CW_skip ?_ | refine then_p ?_) | refine CW_true rfl ?_ | refine CW_false rfl ?_ | refine RXP ?_))
    all_goals exact ⟨_, rfl, rfl, hs.drop1⟩
  rw [if_neg h2]
  (repeat' (first | (refine isLW ?_; first | refine LW_nil ?_ | (refine isLg ?_; first | refine LW_take rfl ?_) | (refine isLcall ?_; first | (refine LW_callX (cap := []) rfl rfl ent89 (unit_call (p := p) _ fr hs rb hp hb) ?_ ?_; rotate_left; (rintro _ w2 ⟨x, hx, _⟩; rw [hk] at hx; cases hx); clear hs; rintro _ w2 ⟨⟨u2, p2⟩, hx, rfl, k1, k2, k3, hs⟩; rw [hk] at hx; cases hx; dsimp only at k1 k2 k3 hs ⊢)) | (refine isLbin ?_; first | (refine LW_cmp rfl (fun _ => ?_) (fun _ => ?_) <;> try (exfalso; omega))) | (refine LW_rangeS (p := ⟨([92, 117] : List UInt8).toArray⟩) hs TOK rfl rfl rfl ?_; clear hs; intro q w hs) | refine LW_pure TOK rfl ?_) | (with_reducible first | refine then_n ?_ | refine CW_seq ?_ | refine CW_region ?_ | refine CW_block ?_ | refine CW_skip ?_) | refine CW_false rfl ?_))
  refine CW_loop (γ := Nat) (fun g => [(0, .pointer (some ⟨br, 0, none⟩)), (1, .int .i64 (fr : Int)), (5, .int .i32 (u : Int)), (24, .pointer (some ⟨q, 0, none⟩))]) (fun g w' => Sat W w' (Bk q (.stringIter ⟨([92, 117] : List UInt8).toArray⟩ g) :: Cl br (eR B b.length c (p1 + g) d) 57 :: L) ∧ g ≤ 2 ∧ p1 + g ≤ b.length ∧ litM b fr (([92, 117] : List UInt8).drop g) (p1 + g) = litM b fr [92, 117] p1) (fun g => 2 - g) 0 ⟨rfl, rfl, rfl, rfl, trivial⟩ ⟨hs, by omega, by omega, rfl⟩ ?_
  clear hs
  rintro g τ w' ⟨hs, g1, g2, g3⟩
  try dsimp only
  obtain ⟨t, ht⟩ : ∃ t : List UInt8, t = [92, 117] := ⟨_, rfl⟩
  rw [← ht] at hs g3 ⊢
  have htl : t.length = 2 := by rw [ht]; rfl
  have hta : ∀ x ∈ t, x.toNat < 128 := by rw [ht]; decide
  have hsz : (ByteArray.mk t.toArray).size = t.length := rfl
  by_cases hlt : g < t.length
  · have hdc := decode_low hlt (hta _ (List.getElem_mem hlt))
    rw [List.drop_eq_getElem_cons hlt, litM_cons] at g3
    rcases hk : peekM b (p1 + g) with er | x
    · rw [hk] at g3
      (repeat' (first | (refine isLW ?_; first | refine LW_nil ?_ | (refine isLcall ?_; first | (refine LW_callX (cap := []) rfl rfl ent35 (peek_call _ (hs.picks [1, 0]) rb g2 hb) ?_ ?_; (rintro _ w2 ⟨x, hx, _⟩; rw [hk] at hx; cases hx); rintro _ w2 ⟨er2, hx, rfl, hs2⟩; rw [hk] at hx; cases hx)) | (refine LW_nextS 0 hs rfl rfl (by rw [hsz]; exact hlt) ?_; clear hs; intro w hs; rw [hdc] at hs ⊢) | refine LW_pure TOK rfl ?_) | (with_reducible first | refine then_n ?_ | refine CW_seq ?_ | refine CW_region ?_ | refine CW_block ?_ | refine CW_skip ?_ | refine then_p ?_ | refine blk_p ?_) | refine CW_true rfl ?_ | refine RXP ?_))
      rw [← g3]
      exact ⟨_, rfl, rfl, hs2.drop1⟩
    · rw [hk] at g3
      dsimp only at g3
      obtain ⟨hx1, hx2⟩ := peek_some hk
      by_cases hxe : ((t[g]).toNat : Int) = (x.toNat : Int)
      · have hxe2 : x = t[g] := UInt8.toNat_inj.1 (by omega)
        rw [if_pos hxe2] at g3
        (repeat' (first | (refine isLW ?_; first | refine LW_nil ?_ | (refine isLload ?_; first | refine LW_loadC 0 TOK hs rfl rfl rfl rfl rfl ?_) | (refine isLstore ?_; first | (refine LW_storeC 0 TOK hs rfl rfl rfl rfl rfl rfl rfl ?_; clear hs; intro w hs)) | (refine isLcall ?_; first | (refine LW_callX (cap := []) rfl rfl ent35 (peek_call _ (hs.picks [1, 0]) rb g2 hb) ?_ ?_; rotate_left; (rintro _ w2 ⟨x, hx, _⟩; rw [hk] at hx; cases hx); clear hs; rintro _ w2 ⟨er2, hx, rfl, hs⟩; rw [hk] at hx; cases hx; unfold eR at hs)) | (refine isLbin ?_; first | refine LW_i64 rfl (by omega) (by omega) ?_ | (refine LW_cmp rfl (fun _ => ?_) (fun _ => ?_) <;> try (exfalso; omega))) | (refine LW_nextS 0 hs rfl rfl (by rw [hsz]; exact hlt) ?_; clear hs; intro w hs; rw [hdc] at hs ⊢) | refine LW_convE (x.toNat : Int) TOK rfl rfl rfl rfl (wrap32b x) ?_ | refine LW_pure TOK rfl ?_) | (with_reducible first | refine then_n ?_ | refine CW_seq ?_ | refine CW_region ?_ | refine CW_block ?_ | refine CW_skip ?_ | refine blk_n ?_) | refine CW_true rfl ?_ | refine CW_false rfl ?_))
        exact ⟨g + 1, _, FR_forget _ ⟨rfl, rfl, rfl, rfl, trivial⟩, ⟨hs.picks [1, 0], by omega, by omega, g3⟩, by omega⟩
      · have hxe2 : ¬ x = t[g] := fun h => hxe (by rw [h])
        rw [if_neg hxe2] at g3
        (repeat' (first | (refine isLW ?_; first | refine LW_nil ?_ | (refine isLcall ?_; first | (refine LW_callX (cap := []) rfl rfl ent35 (peek_call _ (hs.picks [1, 0]) rb g2 hb) ?_ ?_; rotate_left; (rintro _ w2 ⟨x, hx, _⟩; rw [hk] at hx; cases hx); clear hs; rintro _ w2 ⟨er2, hx, rfl, hs⟩; rw [hk] at hx; cases hx; unfold eR at hs) | (refine LW_callX (cap := []) rfl rfl ent27 (fail_call _ _ _ fr) (fun _ _ h => h.elim) ?_; rintro _ w2 ⟨rfl, rfl⟩)) | (refine isLbin ?_; first | (refine LW_cmp rfl (fun _ => ?_) (fun _ => ?_) <;> try (exfalso; omega))) | (refine LW_nextS 0 hs rfl rfl (by rw [hsz]; exact hlt) ?_; clear hs; intro w hs; rw [hdc] at hs ⊢) | refine LW_convE (x.toNat : Int) TOK rfl rfl rfl rfl (wrap32b x) ?_ | refine LW_pure TOK rfl ?_) | (with_reducible first | refine then_n ?_ | refine CW_seq ?_ | refine CW_region ?_ | refine CW_block ?_ | refine CW_skip ?_ | refine then_p ?_ | refine blk_p ?_) | refine CW_true rfl ?_ | refine RXP ?_))
        rw [← g3]
        exact ⟨_, rfl, rfl, hs.drop1.drop1⟩
  · rw [List.drop_of_length_le (by omega)] at g3
    rw [← g3]
    have e2 : g = 2 := by omega
    subst e2
    have hsh : ∀ u : Nat, 55296 ≤ u → u < 56320 → IntKind.i32.wrap (((u : Int) - 55296) * 2 ^ (min (10 : Int).toNat IntKind.i32.bits)) = (((u - 55296) * 1024 : Nat) : Int) := fun u h0 h1 => by
      have : (2 : Int) ^ (min (10 : Int).toNat IntKind.i32.bits) = 1024 := rfl
      rw [this, wrap_in32 (by omega) (by omega)]; omega
    have hsh := hsh u (by omega) (by omega)
    unfold litM lowM
    dsimp only
    rcases hk : unitM b fr (p1 + 2) with er | ⟨u2, p3⟩
    · (repeat' (first | (refine isLW ?_; first | refine LW_nil ?_ | (refine isLcall ?_; first | (refine LW_callX (cap := []) rfl rfl ent89 (unit_call _ fr (hs.picks [1, 0]) rb g2 hb) ?_ ?_; (rintro _ w2 ⟨x, hx, _⟩; rw [hk] at hx; cases hx); rintro _ w2 ⟨er2, hx, rfl, hs2⟩; rw [hk] at hx; cases hx)) | refine LW_nextE 0 hs rfl rfl (by rw [hsz]; exact hlt) ?_ | refine LW_pure TOK rfl ?_) | (with_reducible first | refine then_n ?_ | refine CW_seq ?_ | refine CW_region ?_ | refine CW_exit ?_ | refine then_e ?_ | refine blk_same ?_ | refine then_p ?_) | refine CW_false rfl ?_ | refine RXP ?_))
      exact ⟨_, rfl, rfl, hs2.drop1⟩
    dsimp only
    by_cases h5 : u2 < 56320 ∨ 57343 < u2
    · rw [if_pos h5]
      (repeat' (first | (refine isLW ?_; first | refine LW_nil ?_ | (refine isLg ?_; first | refine LW_take rfl ?_ | refine LW_pass rfl rfl ?_) | (refine isLcall ?_; first | (refine LW_callX (cap := []) rfl rfl ent89 (unit_call _ fr (hs.picks [1, 0]) rb g2 hb) ?_ ?_; rotate_left; (rintro _ w2 ⟨x, hx, _⟩; rw [hk] at hx; cases hx); clear hs; rintro _ w2 ⟨⟨u3, p4⟩, hx, rfl, l1, l2, l3, hs⟩; rw [hk] at hx; cases hx; dsimp only at l1 l2 l3 hs ⊢) | (refine LW_callX (cap := []) rfl rfl ent27 (fail_call _ _ _ fr) (fun _ _ h => h.elim) ?_; rintro _ w2 ⟨rfl, rfl⟩)) | (refine isLbin ?_; first | (refine LW_cmp rfl (fun _ => ?_) (fun _ => ?_) <;> try (exfalso; omega))) | refine LW_nextE 0 hs rfl rfl (by rw [hsz]; exact hlt) ?_ | refine LW_pure TOK rfl ?_) | (with_reducible first | refine then_n ?_ | refine CW_seq ?_ | refine CW_region ?_ | refine CW_exit ?_ | refine then_e ?_ | refine blk_same ?_ | refine then_p ?_) | refine CW_true rfl ?_ | refine CW_false rfl ?_ | refine RXP ?_))
      all_goals exact ⟨_, rfl, rfl, hs.drop1.drop1⟩
    · rw [if_neg h5]
      (repeat' (first | (refine isLW ?_; first | refine LW_nil ?_ | (refine isLg ?_; first | refine LW_take rfl ?_) | (refine isLcall ?_; first | (refine LW_callX (cap := []) rfl rfl ent89 (unit_call _ fr (hs.picks [1, 0]) rb g2 hb) ?_ ?_; rotate_left; (rintro _ w2 ⟨x, hx, _⟩; rw [hk] at hx; cases hx); clear hs; rintro _ w2 ⟨⟨u3, p4⟩, hx, rfl, l1, l2, l3, hs⟩; rw [hk] at hx; cases hx; dsimp only at l1 l2 l3 hs ⊢)) | (refine isLbin ?_; first | refine LW_arithE ((u : Int) - 55296) rfl ((wrap_in32 (by omega) (by omega)).trans (by omega)) ?_ | refine LW_shiftE _ rfl rfl (by omega) rfl hsh ?_ | refine LW_arithE ((65536 + (u - 55296) * 1024 : Nat) : Int) rfl ((wrap_in32 (by omega) (by omega)).trans (by omega)) ?_ | refine LW_arithE ((65536 + (u - 55296) * 1024 + u2 : Nat) : Int) rfl ((wrap_in32 (by omega) (by omega)).trans (by omega)) ?_ | refine LW_arithE ((65536 + (u - 55296) * 1024 + (u2 - 56320) : Nat) : Int) rfl ((wrap_in32 (by omega) (by omega)).trans (by omega)) ?_ | (refine LW_cmp rfl (fun _ => ?_) (fun _ => ?_) <;> try (exfalso; omega))) | refine LW_nextE 0 hs rfl rfl (by rw [hsz]; exact hlt) ?_ | refine LW_pure TOK rfl ?_) | (with_reducible first | refine then_n ?_ | refine CW_seq ?_ | refine CW_region ?_ | refine CW_skip ?_ | refine CW_exit ?_ | refine CW_ret ?_ | refine then_e ?_ | refine blk_same ?_) | refine CW_false rfl ?_ | refine RX1 Tryd.results74 rfl ?_))
      exact ⟨_, rfl, rfl, by dsimp only; omega, by dsimp only; omega, l3, (hs.picks [1, 0]).drop1⟩
set_option maxHeartbeats 1000000 in
theorem esc_call (w : World) (hs : Sat W w (Cl br (eR B b.length c p d) 57 :: L)) (rb : Rd eB W B b) (hp : p < b.length) (hb : b.length ≤ 140737488355328) :
    Calls Tryd.prog 54 [Value.pointer (some ⟨br, 0, none⟩)].toArray w (Gives W L (escM b p) fun q v w' => v = .int .i32 (q.1 : Int) ∧ q.1 ≤ 1114111 ∧ p < q.2 ∧ q.2 ≤ b.length ∧ Sat W w' (Cl br (eR B b.length c q.2 d) 57 :: L)) := by
  unfold Gives
  refine Calls_of Tryd.func54 rfl 50 Tryd.ntmps54 rfl ?_
  unfold escM
  have hs0 := hs
  unfold eR at hs0
  replace hs := hs0
  rcases hk : peekM b (p + 1) with er | x
  · (repeat' (first | (refine isLW ?_; first | refine LW_nil ?_ | (refine isLload ?_; first | refine LW_loadC 0 TOK hs rfl rfl rfl rfl rfl ?_) | (refine isLstore ?_; first | (refine LW_storeC 0 TOK hs rfl rfl rfl rfl rfl rfl rfl ?_; clear hs; intro w hs)) | (refine isLcall ?_; first | (refine LW_callX (cap := []) rfl rfl ent35 (peek_call (p := p + 1) (d := d) (c := c) _ (by unfold eR; exact hs) rb (by omega) hb) ?_ ?_; (rintro _ w2 ⟨x, hx, _⟩; rw [hk] at hx; cases hx); rintro _ w2 ⟨er2, hx, rfl, hs2⟩; rw [hk] at hx; cases hx)) | (refine isLbin ?_; first | refine LW_i64 rfl (by omega) (by omega) ?_) | refine LW_pure TOK rfl ?_) | (with_reducible first | refine then_n ?_ | refine CW_seq ?_ | refine CW_region ?_ | refine then_p ?_) | refine RXP ?_))
    exact ⟨_, rfl, rfl, hs2⟩
  dsimp only
  obtain ⟨hx1, hx2⟩ := peek_some hk
  have hx256 := x.toNat_lt
  unfold escC
  by_cases c0 : x.toNat = 34 ∨ x.toNat = 92 ∨ x.toNat = 47
  · rw [if_pos c0]
    (repeat' (first | (refine isLW ?_; first | refine LW_nil ?_ | (refine isLload ?_; first | refine LW_loadC 0 TOK hs rfl rfl rfl rfl rfl ?_) | (refine isLstore ?_; first | (refine LW_storeC 0 TOK hs rfl rfl rfl rfl rfl rfl rfl ?_; clear hs; intro w hs)) | (refine isLcall ?_; first | (refine LW_callX (cap := []) rfl rfl ent35 (peek_call (p := p + 1) (d := d) (c := c) _ (by unfold eR; exact hs) rb (by omega) hb) ?_ ?_; rotate_left; (rintro _ w2 ⟨x, hx, _⟩; rw [hk] at hx; cases hx); clear hs; rintro _ w2 ⟨er2, hx, rfl, hs⟩; rw [hk] at hx; cases hx; unfold eR at hs)) | (refine isLbin ?_; first | refine LW_i64 rfl (by omega) (by omega) ?_ | (refine LW_cmp rfl (fun _ => ?_) (fun _ => ?_) <;> try (exfalso; omega))) | refine LW_convE (x.toNat : Int) TOK rfl rfl rfl rfl (wrap32b x) ?_ | refine LW_pure TOK rfl ?_) | (with_reducible first | refine then_n ?_ | refine CW_seq ?_ | refine CW_region ?_ | refine CW_block ?_ | refine CW_skip ?_ | refine CW_ret ?_ | refine then_r ?_ | refine blk_r ?_) | refine CW_true rfl ?_ | refine CW_false rfl ?_ | refine RX1 Tryd.results54 rfl ?_))
    all_goals exact ⟨_, rfl, rfl, by dsimp only; omega, by dsimp only; omega, by dsimp only; omega, hs⟩
  rw [if_neg c0]
  by_cases c98 : x.toNat = 98
  · rw [if_pos c98]
    (repeat' (first | (refine isLW ?_; first | refine LW_nil ?_ | (refine isLload ?_; first | refine LW_loadC 0 TOK hs rfl rfl rfl rfl rfl ?_) | (refine isLstore ?_; first | (refine LW_storeC 0 TOK hs rfl rfl rfl rfl rfl rfl rfl ?_; clear hs; intro w hs)) | (refine isLcall ?_; first | (refine LW_callX (cap := []) rfl rfl ent35 (peek_call (p := p + 1) (d := d) (c := c) _ (by unfold eR; exact hs) rb (by omega) hb) ?_ ?_; rotate_left; (rintro _ w2 ⟨x, hx, _⟩; rw [hk] at hx; cases hx); clear hs; rintro _ w2 ⟨er2, hx, rfl, hs⟩; rw [hk] at hx; cases hx; unfold eR at hs)) | (refine isLbin ?_; first | refine LW_i64 rfl (by omega) (by omega) ?_ | (refine LW_cmp rfl (fun _ => ?_) (fun _ => ?_) <;> try (exfalso; omega))) | refine LW_pure TOK rfl ?_) | (with_reducible first | refine then_n ?_ | refine CW_seq ?_ | refine CW_region ?_ | refine CW_block ?_ | refine CW_ret ?_ | refine then_r ?_ | refine blk_r ?_) | refine CW_true rfl ?_ | refine CW_false rfl ?_ | refine RX1 Tryd.results54 rfl ?_))
    all_goals exact ⟨_, rfl, rfl, by dsimp only; omega, by dsimp only; omega, by dsimp only; omega, hs⟩
  rw [if_neg c98]
  by_cases c102 : x.toNat = 102
  · rw [if_pos c102]
    (repeat' (first | (refine isLW ?_; first | refine LW_nil ?_ | (refine isLload ?_; first | refine LW_loadC 0 TOK hs rfl rfl rfl rfl rfl ?_) | (refine isLstore ?_; first | (refine LW_storeC 0 TOK hs rfl rfl rfl rfl rfl rfl rfl ?_; clear hs; intro w hs)) | (refine isLcall ?_; first | (refine LW_callX (cap := []) rfl rfl ent35 (peek_call (p := p + 1) (d := d) (c := c) _ (by unfold eR; exact hs) rb (by omega) hb) ?_ ?_; rotate_left; (rintro _ w2 ⟨x, hx, _⟩; rw [hk] at hx; cases hx); clear hs; rintro _ w2 ⟨er2, hx, rfl, hs⟩; rw [hk] at hx; cases hx; unfold eR at hs)) | (refine isLbin ?_; first | refine LW_i64 rfl (by omega) (by omega) ?_ | (refine LW_cmp rfl (fun _ => ?_) (fun _ => ?_) <;> try (exfalso; omega))) | refine LW_pure TOK rfl ?_) | (with_reducible first | refine then_n ?_ | refine CW_seq ?_ | refine CW_region ?_ | refine CW_block ?_ | refine CW_ret ?_ | refine then_r ?_ | refine blk_r ?_) | refine CW_true rfl ?_ | refine CW_false rfl ?_ | refine RX1 Tryd.results54 rfl ?_))
    all_goals exact ⟨_, rfl, rfl, by dsimp only; omega, by dsimp only; omega, by dsimp only; omega, hs⟩
  rw [if_neg c102]
  by_cases c110 : x.toNat = 110
  · rw [if_pos c110]
    (repeat' (first | (refine isLW ?_; first | refine LW_nil ?_ | (refine isLload ?_; first | refine LW_loadC 0 TOK hs rfl rfl rfl rfl rfl ?_) | (refine isLstore ?_; first | (refine LW_storeC 0 TOK hs rfl rfl rfl rfl rfl rfl rfl ?_; clear hs; intro w hs)) | (refine isLcall ?_; first | (refine LW_callX (cap := []) rfl rfl ent35 (peek_call (p := p + 1) (d := d) (c := c) _ (by unfold eR; exact hs) rb (by omega) hb) ?_ ?_; rotate_left; (rintro _ w2 ⟨x, hx, _⟩; rw [hk] at hx; cases hx); clear hs; rintro _ w2 ⟨er2, hx, rfl, hs⟩; rw [hk] at hx; cases hx; unfold eR at hs)) | (refine isLbin ?_; first | refine LW_i64 rfl (by omega) (by omega) ?_ | (refine LW_cmp rfl (fun _ => ?_) (fun _ => ?_) <;> try (exfalso; omega))) | refine LW_pure TOK rfl ?_) | (with_reducible first | refine then_n ?_ | refine CW_seq ?_ | refine CW_region ?_ | refine CW_block ?_ | refine CW_ret ?_ | refine then_r ?_ | refine blk_r ?_) | refine CW_true rfl ?_ | refine CW_false rfl ?_ | refine RX1 Tryd.results54 rfl ?_))
    all_goals exact ⟨_, rfl, rfl, by dsimp only; omega, by dsimp only; omega, by dsimp only; omega, hs⟩
  rw [if_neg c110]
  by_cases c114 : x.toNat = 114
  · rw [if_pos c114]
    (repeat' (first | (refine isLW ?_; first | refine LW_nil ?_ | (refine isLload ?_; first | refine LW_loadC 0 TOK hs rfl rfl rfl rfl rfl ?_) | (refine isLstore ?_; first | (refine LW_storeC 0 TOK hs rfl rfl rfl rfl rfl rfl rfl ?_; clear hs; intro w hs)) | (refine isLcall ?_; first | (refine LW_callX (cap := []) rfl rfl ent35 (peek_call (p := p + 1) (d := d) (c := c) _ (by unfold eR; exact hs) rb (by omega) hb) ?_ ?_; rotate_left; (rintro _ w2 ⟨x, hx, _⟩; rw [hk] at hx; cases hx); clear hs; rintro _ w2 ⟨er2, hx, rfl, hs⟩; rw [hk] at hx; cases hx; unfold eR at hs)) | (refine isLbin ?_; first | refine LW_i64 rfl (by omega) (by omega) ?_ | (refine LW_cmp rfl (fun _ => ?_) (fun _ => ?_) <;> try (exfalso; omega))) | refine LW_pure TOK rfl ?_) | (with_reducible first | refine then_n ?_ | refine CW_seq ?_ | refine CW_region ?_ | refine CW_block ?_ | refine CW_ret ?_ | refine then_r ?_ | refine blk_r ?_) | refine CW_true rfl ?_ | refine CW_false rfl ?_ | refine RX1 Tryd.results54 rfl ?_))
    all_goals exact ⟨_, rfl, rfl, by dsimp only; omega, by dsimp only; omega, by dsimp only; omega, hs⟩
  rw [if_neg c114]
  by_cases c116 : x.toNat = 116
  · rw [if_pos c116]
    (repeat' (first | (refine isLW ?_; first | refine LW_nil ?_ | (refine isLload ?_; first | refine LW_loadC 0 TOK hs rfl rfl rfl rfl rfl ?_) | (refine isLstore ?_; first | (refine LW_storeC 0 TOK hs rfl rfl rfl rfl rfl rfl rfl ?_; clear hs; intro w hs)) | (refine isLcall ?_; first | (refine LW_callX (cap := []) rfl rfl ent35 (peek_call (p := p + 1) (d := d) (c := c) _ (by unfold eR; exact hs) rb (by omega) hb) ?_ ?_; rotate_left; (rintro _ w2 ⟨x, hx, _⟩; rw [hk] at hx; cases hx); clear hs; rintro _ w2 ⟨er2, hx, rfl, hs⟩; rw [hk] at hx; cases hx; unfold eR at hs)) | (refine isLbin ?_; first | refine LW_i64 rfl (by omega) (by omega) ?_ | (refine LW_cmp rfl (fun _ => ?_) (fun _ => ?_) <;> try (exfalso; omega))) | refine LW_pure TOK rfl ?_) | (with_reducible first | refine then_n ?_ | refine CW_seq ?_ | refine CW_region ?_ | refine CW_block ?_ | refine CW_ret ?_ | refine then_r ?_ | refine blk_r ?_) | refine CW_true rfl ?_ | refine CW_false rfl ?_ | refine RX1 Tryd.results54 rfl ?_))
    all_goals exact ⟨_, rfl, rfl, by dsimp only; omega, by dsimp only; omega, by dsimp only; omega, hs⟩
  rw [if_neg c116]
  by_cases c117 : x.toNat = 117
  · rw [if_pos c117]
    rcases hu : unitsM b p (p + 2) with er | ⟨q, p2⟩
    · (repeat' (first | (refine isLW ?_; first | refine LW_nil ?_ | (refine isLload ?_; first | refine LW_loadC 0 TOK hs rfl rfl rfl rfl rfl ?_) | (refine isLstore ?_; first | (refine LW_storeC 0 TOK hs rfl rfl rfl rfl rfl rfl rfl ?_; clear hs; intro w hs)) | (refine isLcall ?_; first | (refine LW_callX (cap := []) rfl rfl ent35 (peek_call (p := p + 1) (d := d) (c := c) _ (by unfold eR; exact hs) rb (by omega) hb) ?_ ?_; rotate_left; (rintro _ w2 ⟨x, hx, _⟩; rw [hk] at hx; cases hx); clear hs; rintro _ w2 ⟨er2, hx, rfl, hs⟩; rw [hk] at hx; cases hx; unfold eR at hs) | (refine LW_callX (cap := []) rfl rfl ent74 (units_call (p := p + 2) (d := d) (c := c) _ p (by unfold eR; exact hs) rb (by omega) hb) ?_ ?_; (rintro _ w2 ⟨x, hx, _⟩; rw [hu] at hx; cases hx); rintro _ w2 ⟨er2, hx, rfl, hs2⟩; rw [hu] at hx; cases hx)) | (refine isLbin ?_; first | refine LW_i64 rfl (by omega) (by omega) ?_ | (refine LW_cmp rfl (fun _ => ?_) (fun _ => ?_) <;> try (exfalso; omega))) | refine LW_pure TOK rfl ?_) | (with_reducible first | refine then_n ?_ | refine CW_seq ?_ | refine CW_region ?_ | refine CW_block ?_ | refine then_p ?_ | refine blk_p ?_) | refine CW_true rfl ?_ | refine CW_false rfl ?_ | refine RXP ?_))
      exact ⟨_, rfl, rfl, hs2⟩
    · (repeat' (first | (refine isLW ?_; first | refine LW_nil ?_ | (refine isLload ?_; first | refine LW_loadC 0 TOK hs rfl rfl rfl rfl rfl ?_) | (refine isLstore ?_; first | (refine LW_storeC 0 TOK hs rfl rfl rfl rfl rfl rfl rfl ?_; clear hs; intro w hs)) | (refine isLcall ?_; first | (refine LW_callX (cap := []) rfl rfl ent35 (peek_call (p := p + 1) (d := d) (c := c) _ (by unfold eR; exact hs) rb (by omega) hb) ?_ ?_; rotate_left; (rintro _ w2 ⟨x, hx, _⟩; rw [hk] at hx; cases hx); clear hs; rintro _ w2 ⟨er2, hx, rfl, hs⟩; rw [hk] at hx; cases hx; unfold eR at hs) | (refine LW_callX (cap := []) rfl rfl ent74 (units_call (p := p + 2) (d := d) (c := c) _ p (by unfold eR; exact hs) rb (by omega) hb) ?_ ?_; rotate_left; (rintro _ w2 ⟨x, hx, _⟩; rw [hu] at hx; cases hx); clear hs; rintro _ w2 ⟨⟨q2, p3⟩, hx, rfl, l1, l2, l3, hs⟩; rw [hu] at hx; cases hx; dsimp only at l1 l2 l3 hs ⊢)) | (refine isLbin ?_; first | refine LW_i64 rfl (by omega) (by omega) ?_ | (refine LW_cmp rfl (fun _ => ?_) (fun _ => ?_) <;> try (exfalso; omega))) | refine LW_pure TOK rfl ?_) | (with_reducible first | refine then_n ?_ | refine CW_seq ?_ | refine CW_region ?_ | refine CW_block ?_ | refine CW_ret ?_ | refine then_r ?_ | refine blk_r ?_) | refine CW_true rfl ?_ | refine CW_false rfl ?_ | refine RX1 Tryd.results54 rfl ?_))
      exact ⟨_, rfl, rfl, l1, by dsimp only; omega, l3, hs⟩
  rw [if_neg c117]
  (repeat' (first | (refine isLW ?_; first | refine LW_nil ?_ | (refine isLload ?_; first | refine LW_loadC 0 TOK hs rfl rfl rfl rfl rfl ?_) | (refine isLstore ?_; first | (refine LW_storeC 0 TOK hs rfl rfl rfl rfl rfl rfl rfl ?_; clear hs; intro w hs)) | (refine isLcall ?_; first | (refine LW_callX (cap := []) rfl rfl ent35 (peek_call (p := p + 1) (d := d) (c := c) _ (by unfold eR; exact hs) rb (by omega) hb) ?_ ?_; rotate_left; (rintro _ w2 ⟨x, hx, _⟩; rw [hk] at hx; cases hx); clear hs; rintro _ w2 ⟨er2, hx, rfl, hs⟩; rw [hk] at hx; cases hx; unfold eR at hs) | (refine LW_callX (cap := []) rfl rfl ent27 (fail_call _ _ _ p) (fun _ _ h => h.elim) ?_; rintro _ w2 ⟨rfl, rfl⟩)) | (refine isLbin ?_; first | refine LW_i64 rfl (by omega) (by omega) ?_ | (refine LW_cmp rfl (fun _ => ?_) (fun _ => ?_) <;> try (exfalso; omega))) | refine LW_pure TOK rfl ?_) | (with_reducible first | refine then_n ?_ | refine CW_seq ?_ | refine CW_region ?_ | refine CW_block ?_ | refine CW_skip ?_ | refine blk_n ?_ | refine then_p ?_) | refine CW_false rfl ?_ | refine RXP ?_))
  all_goals exact ⟨_, rfl, rfl, hs.drop1⟩
end
end Go.Proofs.YtbmeafeojcgndaaDoor
