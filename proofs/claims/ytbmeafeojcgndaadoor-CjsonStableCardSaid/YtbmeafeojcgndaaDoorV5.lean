/- Walks of the reader: a string. -/
import Derived.Test.YtbmeafeojcgndaaDoorV3
import Derived.Test.YtbmeafeojcgndaaDoorV4
import Derived.Test.YtbmeafeojcgndaaDoorLb
import Derived.Test.YtbmeafeojcgndaaDoorV6
import Derived.Test.YtbmeafeojcgndaaDoorSlApS
set_option linter.unusedVariables false
set_option linter.unusedSimpArgs false
namespace Go.Proofs.YtbmeafeojcgndaaDoor
open Go Go.Sl Go.RowKit
set_option maxRecDepth 100000
theorem ret_mk {Post : Value → World → Prop} {v : Value} {w : World} (h : Post v w) : Ret Post (.returned v) w := h
attribute [local irreducible] CW LW DW FR DP Calls Res Ret
/-- The sequence of UTF-8 at the head: its code point (65533, 1: there is none), its length. -/
def decN (xs : List UInt8) : Nat × Nat := Lib.decodeGo ⟨xs.toArray⟩
theorem dec_width {xs : List UInt8} (h : xs ≠ []) : 1 ≤ (decN xs).2 ∧ (decN xs).2 ≤ xs.length := by
  have hl : 0 < xs.length := List.length_pos_iff.2 h
  have hsz : (ByteArray.mk xs.toArray).size = xs.length := rfl
  unfold decN Lib.decodeGo
  rw [if_neg (by rw [hsz]; omega)]
  unfold Utf8.decode
  dsimp only
  rw [hsz]
  repeat' split
  all_goals (simp_all <;> omega)
def textL (b : List UInt8) : Nat → List UInt8 → Nat → Mo (List UInt8 × Nat)
  | 0, _, _ => .error (0, 0)
  | f + 1, out, p => match peekM b p with
    | .error e => .error e
    | .ok x => if x.toNat = 34 then .ok (out, p + 1)
      else if x.toNat = 92 then match escM b p with
        | .error e => .error e
        | .ok q => textL b f (out ++ utf8 q.1) q.2
      else if x.toNat < 32 then .error (131, p)
      else if (decN (b.drop p)).1 = 65533 ∧ (decN (b.drop p)).2 = 1 then .error (134, p)
      else textL b f (out ++ (b.drop p).take (decN (b.drop p)).2) (p + (decN (b.drop p)).2)
theorem textL_succ (b : List UInt8) (f : Nat) (out : List UInt8) (p : Nat) : textL b (f + 1) out p = match peekM b p with
    | .error e => .error e
    | .ok x => if x.toNat = 34 then .ok (out, p + 1)
      else if x.toNat = 92 then match escM b p with
        | .error e => .error e
        | .ok q => textL b f (out ++ utf8 q.1) q.2
      else if x.toNat < 32 then .error (131, p)
      else if (decN (b.drop p)).1 = 65533 ∧ (decN (b.drop p)).2 = 1 then .error (134, p)
      else textL b f (out ++ (b.drop p).take (decN (b.drop p)).2) (p + (decN (b.drop p)).2) := rfl
/-- A string, p its first quote. -/
def textM (b : List UInt8) (p : Nat) : Mo (List UInt8 × Nat) := textL b (b.length + 1) [] (p + 1)
theorem utf8_len4 (r : Nat) : (utf8 r).length ≤ 4 := by
  unfold utf8
  split
  · simp
  split
  · simp
  split <;> simp
theorem lowM_ok {b : List UInt8} {fr u p : Nat} {q : Nat × Nat} (h : lowM b fr u p = .ok q) : 65536 ≤ q.1 := by
  unfold lowM at h
  split at h
  · cases h
  split at h
  · cases h
  injection h with h
  rw [← h]
  exact Nat.le_trans (Nat.le_add_right _ _) (Nat.le_add_right _ _)
theorem unitsM_ok {b : List UInt8} {fr p : Nat} {q : Nat × Nat} (h : unitsM b fr p = .ok q) : q.1 < 55296 ∨ 57343 < q.1 := by
  unfold unitsM at h
  split at h
  · cases h
  split at h
  · cases h; assumption
  split at h
  · cases h
  split at h
  · cases h
  have := lowM_ok h
  omega
theorem escM_ok {b : List UInt8} {p : Nat} {q : Nat × Nat} (h : escM b p = .ok q) : q.1 < 55296 ∨ 57343 < q.1 := by
  unfold escM at h
  split at h
  · cases h
  rename_i x _
  have := x.toNat_lt
  unfold escC at h
  repeat' split at h
  all_goals first | (exact unitsM_ok h) | (cases h; dsimp only; omega) | (cases h)
theorem cutA {bb oo p c : Nat} (h : p < c) : slicedA (some ⟨bb, oo, none⟩) p c (p * 1) = some ⟨bb, oo + p, none⟩ := by
  unfold slicedA
  rw [if_neg (by omega), movedA_some, Nat.mul_one]
theorem tabs_of {W w : World} {L : List HProp} (h : Lib.Utf8Tabs 1 2 W) (hs : Sat W w L) : Lib.Utf8Tabs 1 2 w := by
  have key : ∀ {a : Addr} {v : Value}, W.cell? a = some v → w.cell? a = some v := fun h1 => (hs.below.cell (World.block_lt_of_cell? W _ h1)).trans h1
  exact ⟨fun c hc => key (h.1 c hc), fun i hi => ⟨key (h.2 i hi).1, key (h.2 i hi).2⟩⟩
section
variable {W : World} {b : List UInt8} {B : Option Addr} {c br p d : Nat} {L : List HProp}
theorem decode_call (w : World) (xs : List UInt8) (bb o cap : Nat) (hU : Lib.Utf8Tabs 1 2 W) (hs : Sat W w L) (rb : Rd eB w (some ⟨bb, o, none⟩) xs) :
    Calls Tryd.prog 55 [Value.slice (some ⟨bb, o, none⟩) xs.length cap].toArray w (Ret fun v w' => v = .tuple #[.int .i32 ((decN xs).1 : Int), .int .i64 ((decN xs).2 : Int)] ∧ Sat W w' L) := by
  have hsz : (ByteArray.mk xs.toArray).size = xs.length := rfl
  refine (Tryd.utf8_DecodeRune ⟨xs.toArray⟩ bb o cap w (tabs_of hU hs) (fun j hj => ?_)).mono fun e w' h => ?_
  · rw [hsz] at hj
    have hg : (ByteArray.mk xs.toArray).get! j = xs[j] := by
      show (xs.toArray)[j]! = _
      simp [getElem!_pos, hj]
    rw [hg]
    rcases rb with rb | ⟨b', o', hA, rb⟩
    · subst rb; cases hj
    · cases hA
      have := rb (j * 1 + 0) _ (flat_get (enc := eB) (sz := 1) (fun _ => rfl) (List.getElem?_eq_getElem hj) rfl)
      simpa using this
  · obtain ⟨rfl, hb⟩ := h
    exact ret_mk ⟨rfl, hs.and0 (Sat.of_below hb)⟩
set_option maxHeartbeats 2000000 in
theorem text_call (w : World) (hU : Lib.Utf8Tabs 1 2 W) (hs : Sat W w (Cl br (eR B b.length c p d) 57 :: L)) (rb : Rd eB W B b) (hp : p < b.length) (hcb : b.length ≤ c) (hb : b.length ≤ 1099511627776) :
    Calls Tryd.prog 37 [Value.pointer (some ⟨br, 0, none⟩)].toArray w (Gives W L (textM b p) fun q v w' => v = sv q.1 ∧ p < q.2 ∧ q.2 ≤ b.length ∧ q.1.length ≤ 4 * q.2 ∧ Sat W w' (Cl br (eR B b.length c q.2 d) 57 :: L)) := by
  unfold Gives
  refine Calls_of Tryd.func37 rfl 94 Tryd.ntmps37 rfl ?_
  have hb2 : b.length ≤ 140737488355328 := by omega
  have hs0 := hs
  unfold eR at hs0
  replace hs := hs0
  clear hs0
  (repeat' (first | (refine isLW ?_; first | refine LW_nil ?_ | (refine isLload ?_; first | refine LW_loadC 0 TOK hs rfl rfl rfl rfl rfl ?_) | (refine isLstore ?_; first | (refine LW_storeC 0 TOK hs rfl rfl rfl rfl rfl rfl rfl ?_; clear hs; intro w hs)) | (refine isLbin ?_; first | refine LW_i64 rfl (by omega) (by omega) ?_) | refine LW_pure TOK rfl ?_) | (with_reducible first | refine then_n ?_ | refine CW_seq ?_ | refine CW_region ?_ | refine CW_block ?_)))
  refine CW_loop (γ := Nat × Nat × List UInt8 × Option Addr × Nat) (fun g => [(0, .pointer (some ⟨br, 0, none⟩)), (3, .slice g.2.2.2.1 g.2.2.1.length g.2.2.2.2)]) (fun g w' => Sat W w' (RowOf eB 5 1 g.2.2.2.1 g.2.2.2.2 g.2.2.1 :: Cl br (eR B b.length c g.1 d) 57 :: L) ∧ p < g.1 ∧ g.1 ≤ b.length ∧ b.length < g.1 + g.2.1 ∧ g.2.2.1.length ≤ 4 * g.1 ∧ textL b g.2.1 g.2.2.1 g.1 = textM b p) (fun g => b.length - g.1) (p + 1, b.length + 1, [], none, 0) ⟨rfl, rfl, trivial⟩ ⟨hs.nilRow 5 1, by dsimp only; omega, by dsimp only; omega, by dsimp only; omega, by simp, rfl⟩ ?_
  clear hs
  rintro ⟨g, f, out, A, k⟩ τ w' ⟨hs, h1, h2, h3, h4, h5⟩
  dsimp only at hs h1 h2 h3 h4 h5 ⊢
  obtain ⟨f, rfl⟩ : ∃ f', f = f' + 1 := ⟨f - 1, by omega⟩
  rw [textL_succ] at h5
  rcases hk : peekM b g with er | x
  · rw [hk] at h5
    (repeat' (first | (refine isLW ?_; first | (refine isLcall ?_; first | (refine LW_callX (cap := []) rfl rfl ent35 (peek_call _ (hs.picks [1, 0]) rb h2 hb2) ?_ ?_; (rintro _ w2 ⟨x, hx, _⟩; rw [hk] at hx; cases hx); rintro _ w2 ⟨er2, hx, rfl, hs2⟩; rw [hk] at hx; cases hx)) | refine LW_pure TOK rfl ?_) | (with_reducible first | refine CW_seq ?_ | refine CW_region ?_ | refine CW_block ?_ | refine then_p ?_ | refine blk_p ?_) | refine RXP ?_))
    exact ⟨_, h5.symm, rfl, hs2.drop1⟩
  obtain ⟨hx1, hx2⟩ := peek_some hk
  rw [hk] at h5
  dsimp only at h5
  obtain ⟨bb, oo, hB⟩ := rb.some (i := (g : Int)) (by omega) (by omega)
  subst hB
  by_cases c1 : x.toNat = 34
  · rw [if_pos c1] at h5
    (repeat' (first | (refine isLW ?_; first | refine LW_nil ?_ | (refine isLload ?_; first | refine LW_loadC 1 TOK hs rfl rfl rfl rfl rfl ?_) | (refine isLstore ?_; first | (refine LW_storeC 1 TOK hs rfl rfl rfl rfl rfl rfl rfl ?_; clear hs; intro w hs)) | (refine isLcall ?_; first | (refine LW_callX (cap := []) rfl rfl ent35 (peek_call _ (hs.picks [1, 0]) rb h2 hb2) ?_ ?_; rotate_left; (rintro _ w2 ⟨x, hx, _⟩; rw [hk] at hx; cases hx); clear hs; rintro _ w2 ⟨er2, hx, rfl, hs⟩; rw [hk] at hx; cases hx; replace hs := hs.picks [1, 0]; unfold eR at hs)) | (refine isLbin ?_; first | refine LW_i64 rfl (by omega) (by omega) ?_ | (refine LW_cmp rfl (fun _ => ?_) (fun _ => ?_) <;> try (exfalso; omega))) | refine LW_strRd TOK (hs.rd 0 rfl) rfl rfl rfl rfl rfl rfl rfl rfl ?_ | refine LW_pure TOK rfl ?_) | (with_reducible first | refine then_n ?_ | refine CW_seq ?_ | refine CW_region ?_ | refine CW_block ?_ | refine CW_ret ?_ | refine then_r ?_ | refine blk_r ?_) | refine CW_true rfl ?_ | refine RX1 Tryd.results37 rfl ?_))
    exact ⟨_, h5.symm, rfl, by dsimp only; omega, by dsimp only; omega, by dsimp only; omega, hs.drop1⟩
  rw [if_neg c1] at h5
  by_cases c2 : x.toNat = 92
  · rw [if_pos c2] at h5
    rcases he : escM b g with er | ⟨q, p2⟩
    · rw [he] at h5
      (repeat' (first | (refine isLW ?_; first | refine LW_nil ?_ | (refine isLcall ?_; first | (refine LW_callX (cap := []) rfl rfl ent35 (peek_call _ (hs.picks [1, 0]) rb h2 hb2) ?_ ?_; rotate_left; (rintro _ w2 ⟨x, hx, _⟩; rw [hk] at hx; cases hx); clear hs; rintro _ w2 ⟨er2, hx, rfl, hs⟩; rw [hk] at hx; cases hx; replace hs := hs.picks [1, 0]) | (refine LW_callX (cap := []) rfl rfl ent54 (esc_call _ (hs.picks [1, 0]) rb hx2 hb2) ?_ ?_; (rintro _ w2 ⟨x, hx, _⟩; rw [he] at hx; cases hx); rintro _ w2 ⟨er2, hx, rfl, hs2⟩; rw [he] at hx; cases hx)) | (refine isLbin ?_; first | (refine LW_cmp rfl (fun _ => ?_) (fun _ => ?_) <;> try (exfalso; omega))) | refine LW_pure TOK rfl ?_) | (with_reducible first | refine then_n ?_ | refine CW_seq ?_ | refine CW_region ?_ | refine CW_block ?_ | refine then_p ?_ | refine blk_p ?_) | refine CW_true rfl ?_ | refine CW_false rfl ?_ | refine RXP ?_))
      exact ⟨_, h5.symm, rfl, hs2.drop1⟩
    · rw [he] at h5
      have ho := escM_ok he
      have hul := utf8_len4 q
      (repeat' (first | (refine isLW ?_; first | refine LW_nil ?_ | (refine isLcall ?_; first | (refine LW_callX (cap := []) rfl rfl ent35 (peek_call _ (hs.picks [1, 0]) rb h2 hb2) ?_ ?_; rotate_left; (rintro _ w2 ⟨x, hx, _⟩; rw [hk] at hx; cases hx); clear hs; rintro _ w2 ⟨er2, hx, rfl, hs⟩; rw [hk] at hx; cases hx; replace hs := hs.picks [1, 0]) | (refine LW_callX (cap := []) rfl rfl ent54 (esc_call _ (hs.picks [1, 0]) rb hx2 hb2) ?_ ?_; rotate_left; (rintro _ w2 ⟨x, hx, _⟩; rw [he] at hx; cases hx); clear hs; rintro _ w2 ⟨⟨q2, p3⟩, hx, rfl, l1, l2, l3, hs⟩; rw [he] at hx; cases hx; dsimp only at l1 l2 l3 hs ⊢; replace hs := hs.picks [1, 0]) | (refine LW_call (cap := []) rfl rfl ent53 (appendRune_call _ out A k q hs ⟨l1, ho⟩ (by omega)) ?_; clear hs; rintro _ w2 ⟨A2, c3, rfl, hs⟩)) | (refine isLbin ?_; first | (refine LW_cmp rfl (fun _ => ?_) (fun _ => ?_) <;> try (exfalso; omega))) | refine LW_pure TOK rfl ?_) | (with_reducible first | refine then_n ?_ | refine CW_seq ?_ | refine CW_region ?_ | refine CW_block ?_ | refine blk_n ?_) | refine CW_true rfl ?_ | refine CW_false rfl ?_))
      exact ⟨((p2, f, out ++ utf8 q, A2, c3) : Nat × Nat × List UInt8 × Option Addr × Nat), _, FR_forget _ ⟨rfl, rfl, trivial⟩, ⟨hs, by dsimp only; omega, l3, by dsimp only; omega, by dsimp only; rw [List.length_append]; omega, h5⟩, by dsimp only; omega⟩
  rw [if_neg c2] at h5
  by_cases c3 : x.toNat < 32
  · rw [if_pos c3] at h5
    (repeat' (first | (refine isLW ?_; first | refine LW_nil ?_ | (refine isLload ?_; first | refine LW_loadC 1 TOK hs rfl rfl rfl rfl rfl ?_) | (refine isLcall ?_; first | (refine LW_callX (cap := []) rfl rfl ent35 (peek_call _ (hs.picks [1, 0]) rb h2 hb2) ?_ ?_; rotate_left; (rintro _ w2 ⟨x, hx, _⟩; rw [hk] at hx; cases hx); clear hs; rintro _ w2 ⟨er2, hx, rfl, hs⟩; rw [hk] at hx; cases hx; replace hs := hs.picks [1, 0]; unfold eR at hs) | (refine LW_callX (cap := []) rfl rfl ent27 (fail_call _ _ _ g) (fun _ _ h => h.elim) ?_; rintro _ w2 ⟨rfl, rfl⟩)) | (refine isLbin ?_; first | (refine LW_cmp rfl (fun _ => ?_) (fun _ => ?_) <;> try (exfalso; omega))) | refine LW_pure TOK rfl ?_) | (with_reducible first | refine then_n ?_ | refine CW_seq ?_ | refine CW_region ?_ | refine CW_block ?_ | refine then_p ?_ | refine blk_p ?_) | refine CW_true rfl ?_ | refine CW_false rfl ?_ | refine RXP ?_))
    exact ⟨_, h5.symm, rfl, hs.drop1.drop1⟩
  rw [if_neg c3] at h5
  have hdn : (b.drop g).length = b.length - g := List.length_drop
  obtain ⟨hw1, hw2⟩ := dec_width (xs := b.drop g) (fun h => by rw [h] at hdn; simp at hdn; omega)
  obtain ⟨⟨rr, nn⟩, hdec⟩ : ∃ z, decN (b.drop g) = z := ⟨_, rfl⟩
  rw [hdec] at h5 hw1 hw2
  dsimp only at h5 hw1 hw2
  have hcut := cutA (bb := bb) (oo := oo) (p := g) (c := c) (by omega)
  have hrd : Rd eB W (some ⟨bb, oo + g, none⟩) (b.drop g) := by
    have := rb.drop (sz := 1) (fun _ => rfl) g h2
    rw [movedA_some, Nat.mul_one] at this
    exact this
  have htk : ((b.drop g).take nn).length = nn := by rw [List.length_take]; omega
  by_cases c4 : rr = 65533 ∧ nn = 1
  · rw [if_pos c4] at h5
    obtain ⟨rfl, rfl⟩ := c4
    (repeat' (first | (refine isLW ?_; first | refine LW_nil ?_ | (refine isLg ?_; first | refine LW_take rfl ?_) | (refine isLload ?_; first | refine LW_loadC 1 TOK hs rfl rfl rfl rfl rfl ?_) | (refine isLcall ?_; first | (refine LW_callX (cap := []) rfl rfl ent35 (peek_call _ (hs.picks [1, 0]) rb h2 hb2) ?_ ?_; rotate_left; (rintro _ w2 ⟨x, hx, _⟩; rw [hk] at hx; cases hx); clear hs; rintro _ w2 ⟨er2, hx, rfl, hs⟩; rw [hk] at hx; cases hx; replace hs := hs.picks [1, 0]; unfold eR at hs) | (refine LW_callX (cap := []) rfl rfl ent27 (fail_call _ _ _ g) (fun _ _ h => h.elim) ?_; rintro _ w2 ⟨rfl, rfl⟩) | (refine LW_call (cap := []) rfl rfl ent55 (decode_call _ (b.drop g) bb (oo + g) (c - g) hU hs (hrd.of hs)) ?_; clear hs; rintro _ w2 ⟨rfl, hs⟩; rw [hdec])) | (refine isLbin ?_; first | (refine LW_cmp rfl (fun _ => ?_) (fun _ => ?_) <;> try (exfalso; omega))) | refine LW_pure TOK rfl ?_) | (refine isDP ?_; first | (refine isDnil ?_; first | refine DP_end ?_ ?_) | (refine isDe rfl ?_; first | refine DP_eff rfl rfl ?_ ?_) | (refine isDload rfl ?_; first | refine DP_loadC 1 hs TOK rfl rfl (by first | exact trivial | rfl) rfl rfl rfl rfl rfl ?_ ?_) | refine DP_sliceL (some ⟨bb, oo + g, none⟩) (b.drop g).length (c - g) TOK rfl rfl (by first | exact trivial | rfl) rfl rfl rfl rfl rfl (by omega) (by omega) hcut (by omega) rfl ?_ | refine DP_pure TOK rfl rfl (by first | exact trivial | rfl) rfl ?_) | (refine isI0 ?_; exact Inv.nil) | (refine isI1 ?_; first | refine Inv.keepC 1 hs rfl rfl ?_) | (with_reducible first | refine then_n ?_ | refine CW_seq ?_ | refine CW_region ?_ | refine CW_block ?_ | refine then_p ?_ | refine blk_p ?_) | refine CW_true rfl ?_ | refine CW_false rfl ?_ | (refine CW_drawP (id := 4) [9] [0, 1, 2, 3, 4, 5, 6, 7, 8, 9, 10, 11, 12, 13, 14] mixed (by kernel_rfl) hs ?_; clear hs; intro hs) | refine RXP ?_))
    all_goals exact ⟨_, h5.symm, rfl, hs.drop1.drop1⟩
  · rw [if_neg c4] at h5
    (repeat' (first | (refine isLW ?_; first | refine LW_nil ?_ | (refine isLg ?_; first | refine LW_take rfl ?_ | refine LW_pass rfl rfl ?_) | (refine isLload ?_; first | refine LW_loadC 1 TOK hs rfl rfl rfl rfl rfl ?_) | (refine isLstore ?_; first | (refine LW_storeC 1 TOK hs rfl rfl rfl rfl rfl rfl rfl ?_; clear hs; intro w hs)) | (refine isLcall ?_; first | (refine LW_callX (cap := []) rfl rfl ent35 (peek_call _ (hs.picks [1, 0]) rb h2 hb2) ?_ ?_; rotate_left; (rintro _ w2 ⟨x, hx, _⟩; rw [hk] at hx; cases hx); clear hs; rintro _ w2 ⟨er2, hx, rfl, hs⟩; rw [hk] at hx; cases hx; replace hs := hs.picks [1, 0]; unfold eR at hs) | (refine LW_call (cap := []) rfl rfl ent55 (decode_call _ (b.drop g) bb (oo + g) (c - g) hU hs (hrd.of hs)) ?_; clear hs; rintro _ w2 ⟨rfl, hs⟩; rw [hdec]) | (refine LW_append 0 (xs := out) (ys := (b.drop g).take nn) eB_ok.1 hs TOK rfl rfl ((hrd.take nn).of hs) eB_ok.2 rfl rfl rfl rfl rfl rfl rfl (by rw [htk]; unfold maxLen; omega) (by rw [htk]; simp only []; omega) ?_; clear hs; intro A2 c3 w hs)) | (refine isLbin ?_; first | refine LW_i64 rfl (by omega) (by omega) ?_ | (refine LW_cmp rfl (fun _ => ?_) (fun _ => ?_) <;> try (exfalso; omega))) | refine LW_pure TOK rfl ?_) | (refine isDP ?_; first | (refine isDnil ?_; first | refine DP_end ?_ ?_) | (refine isDe rfl ?_; first | refine DP_eff rfl rfl ?_ ?_) | (refine isDload rfl ?_; first | refine DP_loadC 1 hs TOK rfl rfl (by first | exact trivial | rfl) rfl rfl rfl rfl rfl ?_ ?_) | (refine isDbin rfl ?_; first | refine DP_i64 rfl rfl (by first | exact trivial | rfl) rfl (by omega) (by omega) ?_) | refine DP_sliceL (some ⟨bb, oo + g, none⟩) (b.drop g).length (c - g) TOK rfl rfl (by first | exact trivial | rfl) rfl rfl rfl rfl rfl (by omega) (by omega) hcut (by omega) rfl ?_ | refine DP_sliceLH (some ⟨bb, oo + g, none⟩) ((b.drop g).take nn).length (c - g) TOK rfl rfl (by first | exact trivial | rfl) rfl rfl rfl rfl rfl rfl (by omega) (by omega) (by omega) hcut (by omega) rfl ?_ | refine DP_pure TOK rfl rfl (by first | exact trivial | rfl) rfl ?_) | (refine isI0 ?_; exact Inv.nil) | (refine isI1 ?_; first | refine Inv.keepC 1 hs rfl rfl ?_) | (with_reducible first | refine then_n ?_ | refine CW_seq ?_ | refine CW_region ?_ | refine CW_block ?_ | refine CW_skip ?_ | refine blk_n ?_) | refine CW_false rfl ?_ | (refine CW_drawP (id := 4) [9] [0, 1, 2, 3, 4, 5, 6, 7, 8, 9, 10, 11, 12, 13, 14] mixed (by kernel_rfl) hs ?_; clear hs; intro hs) | (refine CW_drawP (id := 7) [16] [0, 1, 2, 3, 4, 5, 6, 7, 8, 9, 10, 11, 12, 13, 14, 15, 16, 17] mixed (by kernel_rfl) hs ?_; clear hs; intro hs)))
    all_goals exact ⟨((g + nn, f, out ++ (b.drop g).take nn, A2, c3) : Nat × Nat × List UInt8 × Option Addr × Nat), _, FR_forget _ ⟨rfl, rfl, trivial⟩, ⟨hs, by dsimp only; omega, by dsimp only; omega, by dsimp only; omega, by dsimp only; rw [List.length_append, htk]; omega, h5⟩, by dsimp only; omega⟩
end
end Go.Proofs.YtbmeafeojcgndaaDoor
