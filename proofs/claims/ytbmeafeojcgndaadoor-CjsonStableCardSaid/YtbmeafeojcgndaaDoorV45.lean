/- Walks of the reference's reader: numbers that it refuses, and nought. -/
import Derived.Test.YtbmeafeojcgndaaDoorV43
import Derived.Test.YtbmeafeojcgndaaDoorSlApS
set_option linter.unusedVariables false
set_option linter.unusedSimpArgs false
namespace Go.Proofs.YtbmeafeojcgndaaDoor
open Go Go.Sl Go.RowKit
set_option maxRecDepth 100000
attribute [local irreducible] CW LW DW FR DP Calls Res Ret
def leadZ : List UInt8 → Nat
  | [] => 0
  | c :: l => if c.toNat = 48 then leadZ l + 1 else 0
/-- Noughts at the end of the first n. -/
def tailZ (d : List UInt8) : Nat → Nat
  | 0 => 0
  | n + 1 => if (Go.Sl.rd d (n : Int)).toNat = 48 then tailZ d n + 1 else 0
def exS (d : List UInt8) (x : Int) : Option (Int × Int) :=
  let d1 := d.drop (leadZ d)
  if d1.length = 0 then some (0, 0)
  else if x + tailZ d1 d1.length < 0 then some (0, 132)
  else if d1.length + x > 19 then some (0, 133) else none
theorem leadZ_le : ∀ l : List UInt8, leadZ l ≤ l.length
  | [] => Nat.le_refl _
  | c :: l => by unfold leadZ; split <;> simp [leadZ_le l]
theorem leadZ_step {b : List UInt8} {g : Nat} (h : g < b.length) : leadZ (b.drop g) = if (Go.Sl.rd (b.drop g) 0).toNat = 48 then leadZ (b.drop (g + 1)) + 1 else 0 := by
  rw [List.drop_eq_getElem_cons h]
  rfl
theorem tailZ_le (d : List UInt8) : ∀ n, tailZ d n ≤ n
  | 0 => Nat.le_refl _
  | n + 1 => by unfold tailZ; split <;> have := tailZ_le d n <;> omega
theorem tailZ_lt {d : List UInt8} (h : (Go.Sl.rd d (0 : Int)).toNat ≠ 48) : ∀ n, 0 < n → tailZ d n < n
  | 0, h0 => by omega
  | 1, _ => by
    show (if (Go.Sl.rd d ((0 : Nat) : Int)).toNat = 48 then _ else 0) < 1
    rw [if_neg (by simpa using h)]; omega
  | n + 2, _ => by
    have := tailZ_lt h (n + 1) (by omega)
    show (if (Go.Sl.rd d ((n + 1 : Nat) : Int)).toNat = 48 then tailZ d (n + 1) + 1 else 0) < n + 2
    split <;> omega
theorem rd_take {d : List UInt8} {k : Nat} {i : Int} (h0 : 0 ≤ i) (h1 : i < k) : Go.Sl.rd (d.take k) i = Go.Sl.rd d i := by
  unfold Go.Sl.rd
  rw [List.getD, List.getD, List.getElem?_take, if_pos (by omega)]
set_option maxHeartbeats 2000000 in
theorem exact_call (w : World) (m : Bool) (d : List UInt8) (x n e : Int) (hd : d.length ≤ 140737488355328) (hx : -1000000000000000 ≤ x ∧ x ≤ 1000000000000000) (h : exS d x = some (n, e)) :
    Calls Tryd.prog 106 [.bool m, sv d, .int .i64 x].toArray w (Ret fun v w' => v = .tuple #[.int .i64 n, .int .i64 e] ∧ Sat w w' []) := by
  refine Calls_of Tryd.func106 rfl 80 Tryd.ntmps106 rfl ?_
  have hs := Sat.start w
  unfold exS at h
  dsimp only at h
  (repeat' (first | (refine isLW ?_; first | refine LW_nil ?_ | refine LW_pure TOK rfl ?_) | (with_reducible first | refine then_n ?_ | refine CW_seq ?_ | refine CW_region ?_ | refine CW_block ?_)))
  refine CW_loop (γ := Nat) (fun g => [(0, .bool m), (1, sv (d.drop g)), (2, .int .i64 x)]) (fun g w' => Sat w w' [] ∧ g ≤ d.length ∧ g + leadZ (d.drop g) = leadZ d) (fun g => d.length - g) 0 ⟨rfl, rfl, rfl, trivial⟩ ⟨hs, Nat.zero_le _, by simp⟩ ?_
  clear hs
  rintro g τ w' ⟨hs, h0, h1⟩
  try dsimp only
  have hlen : (d.drop g).length = d.length - g := List.length_drop
  by_cases hlt : g < d.length
  · have e1 := leadZ_step hlt
    by_cases hc : (Go.Sl.rd (d.drop g) 0).toNat = 48
    · rw [if_pos hc] at e1
      (repeat' (first | refine LW_lenN (a := d.drop g) TOK rfl rfl rfl rfl rfl ?_ | (refine isLW ?_; first | refine LW_nil ?_ | (refine isLg ?_; first | refine LW_take rfl ?_) | (refine isLbin ?_; first | (refine LW_cmp rfl (fun _ => ?_) (fun _ => ?_) <;> try (exfalso; omega))) | refine LW_strIdx (a := d.drop g) TOK rfl rfl rfl rfl rfl (by omega) (by omega) ?_ | refine LW_strL (d.drop (g + 1)) TOK rfl rfl rfl rfl (by omega) (by omega) (by rw [List.drop_drop]; rfl) ?_ | refine LW_pure TOK rfl ?_) | (with_reducible first | refine then_n ?_ | refine CW_seq ?_ | refine CW_region ?_ | refine CW_block ?_ | refine CW_skip ?_ | refine blk_n ?_) | refine CW_true rfl ?_))
      exact ⟨g + 1, _, FR_forget _ ⟨rfl, rfl, rfl, trivial⟩, ⟨hs, by omega, by omega⟩, by omega⟩
    · rw [if_neg hc] at e1
      have e2 : leadZ d = g := by omega
      rw [e2] at h
      obtain ⟨d1, hd1⟩ : ∃ d1, d.drop g = d1 := ⟨_, rfl⟩
      rw [hd1] at h hc hlen ⊢
      have hpos : 0 < d1.length := by omega
      rw [if_neg (by omega)] at h
      (repeat' (first | refine LW_lenN (a := d1) TOK rfl rfl rfl rfl rfl ?_ | refine LW_strEq (a := d1) (b := []) rfl rfl rfl rfl (fun hne => absurd hne (by intro h0; rw [h0] at hpos; simp at hpos)) (fun hne => ?_) | (refine isLW ?_; first | refine LW_nil ?_ | (refine isLg ?_; first | refine LW_take rfl ?_) | (refine isLbin ?_; first | (refine LW_cmp rfl (fun _ => ?_) (fun _ => ?_) <;> try (exfalso; omega))) | refine LW_strIdx (a := d1) TOK rfl rfl rfl rfl rfl (by omega) (by omega) ?_ | refine LW_pure TOK rfl ?_) | (with_reducible first | refine then_n ?_ | refine CW_seq ?_ | refine CW_region ?_ | refine CW_block ?_ | refine CW_skip ?_ | refine CW_exit ?_ | refine then_e ?_ | refine blk_same ?_) | refine CW_false rfl ?_))
      have htl := tailZ_lt hc d1.length hpos
      refine CW_loop (γ := Nat) (fun g => [(0, .bool m), (1, sv (d1.take (d1.length - g))), (2, .int .i64 (x + g))]) (fun g w' => Sat w w' [] ∧ g < d1.length ∧ g + tailZ d1 (d1.length - g) = tailZ d1 d1.length) (fun g => d1.length - g) 0 ⟨rfl, by rw [Nat.sub_zero, List.take_length]; rfl, by show some (Value.int .i64 x) = some (Value.int .i64 (x + ((0 : Nat) : Int))); congr 2; omega, trivial⟩ ⟨hs, hpos, by simp⟩ ?_
      clear hs
      rintro k τ w' ⟨hs, h3, h4⟩
      try dsimp only
      have hlen2 : (d1.take (d1.length - k)).length = d1.length - k := by rw [List.length_take]; omega
      obtain ⟨q, hq⟩ : ∃ q, d1.length - k = q + 1 := ⟨d1.length - k - 1, by omega⟩
      rw [hq] at h4 hlen2 ⊢
      have hi : ((q + 1 : Nat) : Int) - 1 = (q : Int) := by omega
      have hr : Go.Sl.rd (d1.take (q + 1)) (q : Int) = Go.Sl.rd d1 (q : Int) := rd_take (by omega) (by omega)
      by_cases hz : (Go.Sl.rd d1 (q : Int)).toNat = 48
      · rw [tailZ, if_pos hz] at h4
        have htq := tailZ_le d1 q
        have hq0 : 0 < q := by omega
        (repeat' (first | refine LW_lenN (a := d1.take (q + 1)) (m := ((q + 1 : Nat) : Int)) TOK rfl rfl rfl rfl (by rw [hlen2]) ?_ | (refine isLW ?_; first | refine LW_nil ?_ | (refine isLbin ?_; first | refine LW_arithE (q : Int) rfl ((wrap_i64 (by omega) (by omega)).trans hi) ?_ | refine LW_i64 rfl (by omega) (by omega) ?_ | (refine LW_cmp rfl (fun _ => ?_) (fun _ => ?_) <;> try (exfalso; omega))) | (refine LW_strIdx (a := d1.take (q + 1)) TOK rfl rfl rfl rfl rfl (by omega) (by omega) ?_; rw [hr]) | refine LW_strH (d1.take q) TOK rfl rfl rfl rfl (by omega) (by omega) (by rw [List.take_take]; congr 1; omega) ?_ | refine LW_pure TOK rfl ?_) | (with_reducible first | refine then_n ?_ | refine CW_seq ?_ | refine CW_region ?_ | refine CW_block ?_ | refine CW_skip ?_ | refine blk_n ?_) | refine CW_true rfl ?_))
        exact ⟨k + 1, _, FR_forget _ ⟨rfl, by rw [show d1.length - (k + 1) = q from by omega]; rfl, by show some (Value.int .i64 (x + (k : Int) + 1)) = some (Value.int .i64 (x + ((k + 1 : Nat) : Int))); congr 2; omega, trivial⟩, ⟨hs, by omega, by rw [show d1.length - (k + 1) = q from by omega]; omega⟩, by omega⟩
      · rw [tailZ, if_neg hz] at h4
        rw [← h4] at h
        by_cases hx1 : x + ((k + 0 : Nat) : Int) < 0
        · rw [if_pos hx1] at h
          injection h with h
          injection h with ha hb
          subst ha; subst hb
          (repeat' (first | refine LW_lenN (a := d1.take (q + 1)) (m := ((q + 1 : Nat) : Int)) TOK rfl rfl rfl rfl (by rw [hlen2]) ?_ | (refine isLW ?_; first | refine LW_nil ?_ | (refine isLbin ?_; first | refine LW_arithE (q : Int) rfl ((wrap_i64 (by omega) (by omega)).trans hi) ?_ | (refine LW_cmp rfl (fun _ => ?_) (fun _ => ?_) <;> try (exfalso; omega))) | (refine LW_strIdx (a := d1.take (q + 1)) TOK rfl rfl rfl rfl rfl (by omega) (by omega) ?_; rw [hr]) | refine LW_pure TOK rfl ?_) | (with_reducible first | refine then_n ?_ | refine CW_seq ?_ | refine CW_region ?_ | refine CW_exit ?_ | refine CW_ret ?_ | refine then_e ?_ | refine then_r ?_ | refine blk_same ?_) | refine CW_true rfl ?_ | refine CW_false rfl ?_ | refine RET2 Tryd.results106 rfl rfl ?_))
          exact ⟨rfl, hs⟩
        · rw [if_neg hx1] at h
          split at h
          · injection h with h
            injection h with ha hb
            subst ha; subst hb
            (repeat' (first | refine LW_lenN (a := d1.take (q + 1)) (m := ((q + 1 : Nat) : Int)) TOK rfl rfl rfl rfl (by rw [hlen2]) ?_ | (refine isLW ?_; first | refine LW_nil ?_ | (refine isLbin ?_; first | refine LW_arithE (q : Int) rfl ((wrap_i64 (by omega) (by omega)).trans hi) ?_ | refine LW_i64 rfl (by omega) (by omega) ?_ | (refine LW_cmp rfl (fun _ => ?_) (fun _ => ?_) <;> try (exfalso; omega))) | (refine LW_strIdx (a := d1.take (q + 1)) TOK rfl rfl rfl rfl rfl (by omega) (by omega) ?_; rw [hr]) | refine LW_pure TOK rfl ?_) | (with_reducible first | refine then_n ?_ | refine CW_seq ?_ | refine CW_region ?_ | refine CW_skip ?_ | refine CW_exit ?_ | refine CW_ret ?_ | refine then_e ?_ | refine then_r ?_ | refine blk_same ?_) | refine CW_true rfl ?_ | refine CW_false rfl ?_ | refine RET2 Tryd.results106 rfl rfl ?_))
            exact ⟨rfl, hs⟩
          · cases h
  · have e : g = d.length := by omega
    subst e
    rw [List.drop_length] at h1 hlen ⊢
    have e2 : leadZ d = d.length := by rw [← h1]; rfl
    rw [e2, List.drop_length, if_pos (show ([] : List UInt8).length = 0 from rfl)] at h
    injection h with h
    injection h with ha hb
    subst ha; subst hb
    (repeat' (first | refine LW_lenN (a := ([] : List UInt8)) TOK rfl rfl rfl rfl rfl ?_ | refine LW_strEq (a := ([] : List UInt8)) (b := []) rfl rfl rfl rfl (fun hne => ?_) (fun hne => absurd rfl hne) | (refine isLW ?_; first | refine LW_nil ?_ | (refine isLg ?_; first | refine LW_pass rfl rfl ?_) | (refine isLbin ?_; first | (refine LW_cmp rfl (fun _ => ?_) (fun _ => ?_) <;> try (exfalso; omega))) | refine LW_pure TOK rfl ?_) | (with_reducible first | refine then_n ?_ | refine CW_seq ?_ | refine CW_region ?_ | refine CW_exit ?_ | refine CW_ret ?_ | refine then_e ?_ | refine then_r ?_ | refine blk_same ?_) | refine CW_true rfl ?_ | refine CW_false rfl ?_ | refine RET2 Tryd.results106 rfl rfl ?_))
    exact ⟨rfl, hs⟩
end Go.Proofs.YtbmeafeojcgndaaDoor

/- Two texts joined. -/
set_option linter.unusedVariables false
set_option linter.unusedSimpArgs false
namespace Go.Sl
open Go.RowKit
section
variable {r : Option Nat} {P : Program} {T : List (Nat × TI)} {ops : Array Oper} {Q : Exit → Act → World → Prop} {rest : List Oper} {n : Nat} {s : List (Nat × Value)} {τ : Nat → Value} {ds : List Deferred} {w W : World} {L : List HProp}
  {ty : TypeId} {ps : String} {af : Array Edge} {d : Nat}
theorem LW_svCat {t yt : TypeId} {x y : Operand} {p q : ByteArray} {a b : List UInt8} (hx : EVO n s x = some (.string p)) (hy : EVO n s y = some (.string q)) (hp : p.data.toList = a) (hq : q.data.toList = b) (hb : a.length + b.length ≤ 9223372036854775807) (c : LW r P ops Q rest (FR n ((d, sv (a ++ b)) :: s) τ ds) w) :
    LW r P ops Q (⟨some d, .binOp .add t x y yt, ty, ps, af, none⟩ :: rest) (FR n s τ ds) w := by
  refine LW_strCat hx hy ?_ ?_
  · subst hp; subst hq; simpa using hb
  · have e : p ++ q = ⟨(a ++ b).toArray⟩ := by
      subst hp; subst hq
      apply ByteArray.ext
      simp
    rw [e]; exact c
end
end Go.Sl

/- Walks of the reference's reader: a number. -/
set_option linter.unusedVariables false
set_option linter.unusedSimpArgs false
namespace Go.Proofs.YtbmeafeojcgndaaDoor
open Go Go.Sl Go.RowKit
set_option maxRecDepth 100000
attribute [local irreducible] CW LW DW FR DP Calls Res Ret
def cutL (b : List UInt8) (p k : Nat) : List UInt8 := (b.take (p + k)).drop p
/-- What a number at p is made of, and what it comes to. -/
structure NumS (b : List UInt8) (p : Nat) (n e : Int) (q : Nat) where
  (m z dt ex dn : Bool) (p1 p2 kD p3 p4 kF p5 p6 p7 kE : Nat) (x : Int)
  hm : (b[p]? == some 45) = m
  h1 : p + m.toNat = p1
  hz : (b[p1]? == some 48) = z
  h2 : p1 + z.toNat = p2
  hD : z = true ∧ kD = 0 ∨ z = false ∧ digN (b.drop p2) = kD ∧ 0 < kD
  h3 : p2 + kD = p3
  hd : (b[p3]? == some 46) = dt
  h4 : p3 + dt.toNat = p4
  hF : dt = false ∧ kF = 0 ∨ dt = true ∧ digN (b.drop p4) = kF ∧ 0 < kF
  h5 : p4 + kF = p5
  he : (b[p5]? == some 101) = ex
  h6 : p5 + ex.toNat = p6
  hE0 : ex = false → (b[p6]? == some 69) = false
  hn : ex = true → (b[p6]? == some 45) = dn
  h7 : p6 + (ex && dn).toNat = p7
  hn2 : ex = true → dn = false → (b[p7]? == some 43) = false
  hE : ex = false ∧ kE = 0 ∨ ex = true ∧ digN (b.drop p7) = kE ∧ 0 < kE ∧ ∀ c ∈ cutL b p7 kE, 48 ≤ c.toNat ∧ c.toNat ≤ 57
  hx : x = (if ex then (if dn then -(greatL (cutL b p7 kE) 0 : Int) else (greatL (cutL b p7 kE) 0 : Int)) else 0) - kF
  hS : exS (cutL b p2 kD ++ cutL b p4 kF) x = some (n, e)
  hq : p7 + kE = q
  /-- The numbers wanted: nought; with a point alone; with an exponent alone. -/
  h1h : z = true ∧ dt = false ∧ ex = false ∧ e = 0 ∨ z = false ∧ dt = true ∧ ex = false ∧ e ≠ 0 ∨ z = false ∧ dt = false ∧ ex = true ∧ e ≠ 0
theorem cutL_len (b : List UInt8) (p k : Nat) (h : p + k ≤ b.length) : (cutL b p k).length = k := by
  unfold cutL; rw [List.length_drop, List.length_take]; omega
theorem greatL_le : ∀ (l : List UInt8) (a : Nat), a ≤ 1099511627776 → greatL l a ≤ 1099511627776
  | [], a, h => h
  | c :: l, a, h => by unfold greatL; exact greatL_le l _ (Nat.min_le_right _ _)
theorem bq_lt {b : List UInt8} {p : Nat} {c : UInt8} (h : (b[p]? == some c) = true) : p < b.length := by
  rcases Nat.lt_or_ge p b.length with h1 | h1
  · exact h1
  · rw [List.getElem?_eq_none h1] at h; cases h
theorem dig_lt {b : List UInt8} {p k : Nat} (h : digN (b.drop p) = k) (h0 : 0 < k) : p + k ≤ b.length := by
  have := digN_le (b.drop p)
  rw [List.length_drop] at this
  omega
section
variable {W : World} {L : List HProp} {b : List UInt8} {p st n c br pl : Nat} {S : Option Addr}
set_option maxHeartbeats 16000000 in
theorem rnumber_call (w : World) (v e : Int) (q : Nat) (hN : NumS b p v e q) (hs : Sat W w (Cl br (eQ b p st S n c 0 pl) 93 :: L)) (hp : p ≤ b.length) (hb : b.length ≤ 16777216) :
    Calls Tryd.prog 95 [Value.pointer (some ⟨br, 0, none⟩)].toArray w (Ret fun u w' => u = .int .i64 v ∧ Sat W w' (Cl br (eQ b q st S n c e (if e = 0 then pl else p)) 93 :: L)) := by
  obtain ⟨m, z, dt, ex, dn, p1, p2, kD, p3, p4, kF, p5, p6, p7, kE, x, hm, h1, hz, h2, hD, h3, hd, h4, hF, h5, he, h6, hE0, hn, h7, hn2, hE, hx, hS, hq, h1h⟩ := hN
  have hp1 : p1 ≤ b.length := by
    subst h1
    cases m
    · exact hp
    · have := bq_lt hm; show p + 1 ≤ _; omega
  have hp2 : p2 ≤ b.length := by
    subst h2
    cases z
    · exact hp1
    · have := bq_lt hz; show p1 + 1 ≤ _; omega
  have hp3 : p3 ≤ b.length := by
    subst h3
    rcases hD with ⟨-, rfl⟩ | ⟨-, h, h0⟩
    · exact hp2
    · exact dig_lt h h0
  have hp4 : p4 ≤ b.length := by
    subst h4
    cases dt
    · exact hp3
    · have := bq_lt hd; show p3 + 1 ≤ _; omega
  have hp5 : p5 ≤ b.length := by
    subst h5
    rcases hF with ⟨-, rfl⟩ | ⟨-, h, h0⟩
    · exact hp4
    · exact dig_lt h h0
  have hp6 : p6 ≤ b.length := by
    subst h6
    cases ex
    · exact hp5
    · have := bq_lt he; show p5 + 1 ≤ _; omega
  have hp7 : p7 ≤ b.length := by
    subst h7
    cases ex
    · exact hp6
    · cases dn
      · exact hp6
      · have := bq_lt (hn rfl); show p6 + 1 ≤ _; omega
  have hpq : q ≤ b.length := by
    subst hq
    rcases hE with ⟨-, rfl⟩ | ⟨-, h, h0, -⟩
    · exact hp7
    · exact dig_lt h h0
  have lD := cutL_len b p2 kD (by omega)
  have lF := cutL_len b p4 kF (by omega)
  have lE := cutL_len b p7 kE (by omega)
  have hg := greatL_le (cutL b p7 kE) 0 (by omega)
  have hb2 : b.length ≤ 140737488355328 := by omega
  have hxb : -1000000000000000 ≤ x ∧ x ≤ 1000000000000000 := by rw [hx]; split <;> (try split) <;> omega
  obtain ⟨G, hG⟩ : ∃ G, greatL (cutL b p7 kE) 0 = G := ⟨_, rfl⟩
  rw [hG] at hx hg
  obtain ⟨D, hDe⟩ : ∃ D, (b.take (p2 + kD)).drop p2 = D := ⟨_, rfl⟩
  rw [show cutL b p2 kD = D from hDe] at hS lD
  obtain ⟨F, hFe⟩ : ∃ F, (b.take (p4 + kF)).drop p4 = F := ⟨_, rfl⟩
  rw [show cutL b p4 kF = F from hFe] at hS lF
  obtain ⟨E, hEe⟩ : ∃ E, (b.take (p7 + kE)).drop p7 = E := ⟨_, rfl⟩
  rw [show cutL b p7 kE = E from hEe] at hG hE lE
  refine Calls_of Tryd.func95 rfl 88 Tryd.ntmps95 rfl ?_
  unfold eQ at hs
  have hlDF : (D ++ F).length ≤ 140737488355328 := by rw [List.length_append]; omega
  have hzz : (z = false ∧ digN (b.drop p2) = kD ∧ 0 < kD) ∨ (z = true ∧ D = [] ∧ p2 = p3) := by
    rcases hD with ⟨h, rfl⟩ | h
    · exact .inr ⟨h, List.length_eq_zero_iff.1 lD, by omega⟩
    · exact .inl h
  have hff : (dt = true ∧ digN (b.drop p4) = kF ∧ 0 < kF) ∨ (dt = false ∧ F = [] ∧ p4 = p5) := by
    rcases hF with ⟨h, rfl⟩ | h
    · exact .inr ⟨h, List.length_eq_zero_iff.1 lF, by omega⟩
    · exact .inl h
  have hee : (ex = false ∧ x = 0 - (kF : Int) ∧ p6 = q ∧ (b[p6]? == some 69) = false) ∨ (ex = true ∧ dn = true ∧ x = 0 - (G : Int) - kF ∧ (b[p6]? == some 45) = true ∧ p6 + true.toNat = p7 ∧ digN (b.drop p7) = kE ∧ 0 < kE ∧ ∀ c ∈ E, 48 ≤ c.toNat ∧ c.toNat ≤ 57) ∨ (ex = true ∧ dn = false ∧ x = (G : Int) - kF ∧ (b[p6]? == some 45) = false ∧ p6 + false.toNat = p7 ∧ (b[p7]? == some 43) = false ∧ digN (b.drop p7) = kE ∧ 0 < kE ∧ ∀ c ∈ E, 48 ≤ c.toNat ∧ c.toNat ≤ 57) := by
    rcases hE with ⟨h, rfl⟩ | ⟨h, hE1⟩
    · subst h
      exact .inl ⟨rfl, by simpa using hx, by rw [← hq, ← h7]; rfl, hE0 rfl⟩
    · subst h
      cases dn
      · exact .inr (.inr ⟨rfl, rfl, by simpa using hx, hn rfl, h7, hn2 rfl rfl, hE1⟩)
      · exact .inr (.inl ⟨rfl, rfl, by rw [hx, if_pos rfl, if_pos rfl]; omega, hn rfl, h7, hE1⟩)
  have hlE : E.length ≤ 140737488355328 := by omega
  clear hD hF hE hE0 hn hn2 hx h7
  rcases hzz with ⟨rfl, hD1, hD2⟩ | ⟨rfl, rfl, rfl⟩ <;> rcases hff with ⟨rfl, hF1, hF2⟩ | ⟨rfl, rfl, rfl⟩ <;> rcases hee with ⟨rfl, rfl, rfl, hE1⟩ | ⟨rfl, rfl, rfl, hn1, h71, hE1, hE2, hE3⟩ | ⟨rfl, rfl, rfl, hn1, h71, hn3, hE1, hE2, hE3⟩ <;> simp only [Bool.true_eq_false, Bool.false_eq_true, false_and, and_false, true_and, or_false, false_or, or_self] at h1h
  all_goals first | exact h1h.elim | skip
  all_goals
    (repeat' (first | refine LW_svCat (a := D) (b := F) rfl rfl rfl rfl (by omega) ?_ | refine LW_svCat (a := D) (b := ([] : List UInt8)) rfl rfl rfl rfl (by simp; omega) ?_ | refine LW_svCat (a := ([] : List UInt8)) (b := ([] : List UInt8)) rfl rfl rfl rfl (by decide) ?_ | refine LW_lenN (a := F) (m := (kF : Int)) TOK rfl rfl rfl rfl (by rw [lF]) ?_ | refine LW_lenN (a := ([] : List UInt8)) (m := (kF : Int)) TOK rfl rfl rfl rfl (by rw [lF]) ?_ | (refine isLW ?_; first | refine LW_nil ?_ | (refine isLg ?_; first | refine LW_take rfl ?_ | refine LW_pass rfl rfl ?_) | (refine isLload ?_; first | refine LW_loadC 0 TOK hs rfl rfl rfl rfl rfl ?_) | (refine isLcall ?_; first | (refine LW_call (cap := []) rfl rfl ent103 (rnext_call _ 45 hs (by assumption) hb2) ?_; clear hs; rintro _ w2 ⟨rfl, hs⟩; rw [hm] at hs ⊢; rw [h1] at hs; unfold eQ at hs) | (refine LW_call (cap := []) rfl rfl ent103 (rnext_call _ 48 hs (by assumption) hb2) ?_; clear hs; rintro _ w2 ⟨rfl, hs⟩; rw [hz] at hs ⊢; rw [h2] at hs; unfold eQ at hs) | (refine LW_call (cap := []) rfl rfl ent103 (rnext_call _ 46 hs (by assumption) hb2) ?_; clear hs; rintro _ w2 ⟨rfl, hs⟩; rw [hd] at hs ⊢; rw [h4] at hs; unfold eQ at hs) | (refine LW_call (cap := []) rfl rfl ent103 (rnext_call _ 101 hs (by assumption) hb2) ?_; clear hs; rintro _ w2 ⟨rfl, hs⟩; rw [he] at hs ⊢; rw [h6] at hs; unfold eQ at hs) | (refine LW_call (cap := []) rfl rfl ent103 (rnext_call _ 69 hs (by assumption) hb2) ?_; clear hs; rintro _ w2 ⟨rfl, hs⟩; rw [hE1] at hs ⊢; rw [Bool.toNat_false, Nat.add_zero] at hs; unfold eQ at hs) | (refine LW_call (cap := []) rfl rfl ent103 (rnext_call _ 45 hs (by assumption) hb2) ?_; clear hs; rintro _ w2 ⟨rfl, hs⟩; rw [hn1] at hs ⊢; rw [h71] at hs; unfold eQ at hs) | (refine LW_call (cap := []) rfl rfl ent103 (rnext_call _ 43 hs (by assumption) hb2) ?_; clear hs; rintro _ w2 ⟨rfl, hs⟩; rw [hn3] at hs ⊢; rw [Bool.toNat_false, Nat.add_zero] at hs; unfold eQ at hs) | (refine LW_call (cap := []) rfl rfl ent104 (digits_call _ kD hs (by assumption) hb2 hD1 hD2) ?_; clear hs; rintro _ w2 ⟨rfl, hs⟩; rw [hDe]; rw [h3] at hs; unfold eQ at hs) | (refine LW_call (cap := []) rfl rfl ent104 (digits_call _ kF hs (by assumption) hb2 hF1 hF2) ?_; clear hs; rintro _ w2 ⟨rfl, hs⟩; rw [hFe]; rw [h5] at hs; unfold eQ at hs) | (refine LW_call (cap := []) rfl rfl ent104 (digits_call _ kE hs (by assumption) hb2 hE1 hE2) ?_; clear hs; rintro _ w2 ⟨rfl, hs⟩; rw [hEe]; rw [hq] at hs; unfold eQ at hs) | (refine LW_call (cap := []) rfl rfl ent105 (great_call _ E (by omega) hE3) ?_; rintro _ w2 ⟨rfl, h9⟩; rw [hG]; replace hs := hs.and0 h9) | (refine LW_call (cap := []) rfl rfl ent106 (exact_call _ m _ _ v e hlDF hxb hS) ?_; rintro _ w2 ⟨rfl, h9⟩; replace hs := hs.and0 h9) | (refine LW_call (cap := []) rfl rfl ent76 (rfail_call _ e p hs) ?_; clear hs; rintro _ w2 hs)) | (refine isLbin ?_; first | refine LW_i64 rfl (by omega) (by omega) ?_ | (refine LW_cmp rfl (fun _ => ?_) (fun _ => ?_) <;> try (exfalso; omega))) | refine LW_pure TOK rfl ?_ | refine LW_i64 rfl (by omega) (by omega) ?_) | (with_reducible first | refine then_n ?_ | refine CW_seq ?_ | refine CW_region ?_ | refine CW_skip ?_ | refine CW_ret ?_) | refine CW_true rfl ?_ | refine CW_false rfl ?_ | refine RET1 Tryd.results95 rfl ?_))
    all_goals first
      | (rw [if_neg h1h]; exact ⟨rfl, hs⟩)
      | (subst h1h; rw [if_pos rfl]; exact ⟨rfl, hs⟩)
end
end Go.Proofs.YtbmeafeojcgndaaDoor
