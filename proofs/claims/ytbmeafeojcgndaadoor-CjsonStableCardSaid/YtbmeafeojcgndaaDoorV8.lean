/- Walks of the reader: a number. -/
import Derived.Test.YtbmeafeojcgndaaDoorV7
set_option linter.unusedVariables false
set_option linter.unusedSimpArgs false
namespace Go.Proofs.YtbmeafeojcgndaaDoor
open Go Go.Sl Go.RowKit
set_option maxRecDepth 100000
theorem Sat.cap {W w : World} {R : List HProp} {e : TypeId} {sz n c : Nat} {A : Option Addr} {cells : List Value} (hs : Sat W w (Row e sz A n c cells :: R)) : n ≤ c := by
  obtain ⟨h1, h2, hd, l1, l2, ⟨hl, h⟩, hR⟩ := hs.sep
  rcases h with ⟨rfl, rfl, rfl⟩ | ⟨b, spare, rfl, hnc, _⟩
  · exact Nat.le_refl _
  · exact hnc
attribute [local irreducible] CW LW DW FR DP Calls Res Ret
def intM (b : List UInt8) (p : Nat) : Mo (List UInt8 × Nat) := match peekM b p with
  | .error e => .error e
  | .ok c => if c.toNat = 48 then .ok ([], p + 1) else runM b p
def fracM (b : List UInt8) (p : Nat) : Mo (List UInt8 × Nat) := if b[p]? == some 46 then runM b (p + 1) else .ok ([], p)
def expM (b : List UInt8) (p : Nat) : Mo (Int × Nat) := if (b[p]? == some 101) || (b[p]? == some 69) then exponentM b (p + 1) else .ok (0, p)
def numD (p : Nat) (mi : Bool) (all : List UInt8) (places : Nat) (x : Int) (p4 : Nat) : Mo (Int × Nat) :=
  if (worthP all (x - places) mi).2 = 0 then .ok ((worthP all (x - places) mi).1, p4) else .error ((worthP all (x - places) mi).2, p)
def numC (b : List UInt8) (p : Nat) (mi : Bool) (all : List UInt8) (places p3 : Nat) : Mo (Int × Nat) := match expM b p3 with
  | .error e => .error e
  | .ok q => numD p mi all places q.1 q.2
def numB (b : List UInt8) (p : Nat) (mi : Bool) (ds : List UInt8) (p2 : Nat) : Mo (Int × Nat) := match fracM b p2 with
  | .error e => .error e
  | .ok q => numC b p mi (ds ++ q.1) q.1.length q.2
/-- A number: the integer that it is, and where it ends. -/
def numberM (b : List UInt8) (p : Nat) : Mo (Int × Nat) := match intM b (if b[p]? == some 45 then p + 1 else p) with
  | .error e => .error e
  | .ok q => numB b p (b[p]? == some 45) q.1 q.2
theorem intM_ok {b : List UInt8} {p : Nat} {q : List UInt8 × Nat} (h : intM b p = .ok q) : p < q.2 ∧ q.2 ≤ b.length ∧ q.1.length ≤ b.length ∧ (∀ x ∈ q.1, digit x = true) := by
  unfold intM at h
  split at h
  · cases h
  rename_i c hc
  obtain ⟨h1, h2⟩ := peek_some hc
  split at h
  · injection h with h
    rw [← h]
    exact ⟨by dsimp only; omega, by dsimp only; omega, by simp, by simp⟩
  · obtain ⟨a, b', c', d, _⟩ := runM_ok h
    exact ⟨a, b', by omega, d⟩
theorem fracM_ok {b : List UInt8} {p : Nat} (hp : p ≤ b.length) {q : List UInt8 × Nat} (h : fracM b p = .ok q) : p ≤ q.2 ∧ q.2 ≤ b.length ∧ q.1.length ≤ b.length ∧ (∀ x ∈ q.1, digit x = true) := by
  unfold fracM at h
  split at h
  · obtain ⟨a, b', c', d, _⟩ := runM_ok h
    exact ⟨by omega, b', by omega, d⟩
  · injection h with h
    rw [← h]
    exact ⟨Nat.le_refl _, hp, by simp, by simp⟩
theorem get_lt {b : List UInt8} {p : Nat} {x : UInt8} (h : (b[p]? == some x) = true) : p < b.length := by
  rcases Nat.lt_or_ge p b.length with h1 | h1
  · exact h1
  · rw [List.getElem?_eq_none h1] at h; cases h
section
variable {W : World} {b : List UInt8} {B : Option Addr} {c br p d : Nat} {L : List HProp}
set_option maxHeartbeats 2000000 in
theorem number_call (w : World) (hs : Sat W w (Cl br (eR B b.length c p d) 57 :: L)) (rb : Rd eB W B b) (hp : p < b.length) (hcb : b.length ≤ c) (hb : b.length ≤ 1099511627776) :
    Calls Tryd.prog 40 [Value.pointer (some ⟨br, 0, none⟩)].toArray w (Gives W L (numberM b p) fun q v w' => v = .int .i64 q.1 ∧ p < q.2 ∧ q.2 ≤ b.length ∧ Sat W w' (Cl br (eR B b.length c q.2 d) 57 :: L)) := by
  unfold Gives
  refine Calls_of Tryd.func40 rfl 86 Tryd.ntmps40 rfl ?_
  have hb2 : b.length ≤ 140737488355328 := by omega
  obtain ⟨mi, hmi⟩ : ∃ z, (b[p]? == some (45 : UInt8)) = z := ⟨_, rfl⟩
  obtain ⟨p1, hp1⟩ : ∃ p1, (if mi = true then p + 1 else p) = p1 := ⟨_, rfl⟩
  have hN : numberM b p = match intM b p1 with
    | .error e => .error e
    | .ok q => numB b p mi q.1 q.2 := by unfold numberM; rw [hmi, hp1]
  have hp1b : p1 ≤ b.length ∧ p ≤ p1 := by rw [← hp1]; split <;> omega
  have hs0 := hs
  unfold eR at hs0
  replace hs := hs0
  clear hs0
  (repeat' (first | refine CW_late6 (fun a w => ∃ (ds : List UInt8) (p2 : Nat) (A : Option Addr) (k : Nat) (τ : Nat → Value), a = FR 86 [(0, .pointer (some ⟨br, 0, none⟩)), (3, .int .i64 (p : Int)), (4, .bool mi), (5, .slice A ds.length k)] τ [] ∧ Sat W w (RowOf eB 5 1 A k ds :: Cl br (eR B b.length c p2 d) 57 :: L) ∧ intM b p1 = .ok (ds, p2)) ?_ ?_))
  · clear hs
    rintro _ w ⟨ds, p2, A, k, τ, rfl, hs, hi⟩
    rw [hN, hi]
    obtain ⟨i1, i2, i3, i4⟩ := intM_ok hi
    dsimp only at i1 i2 i3 i4 ⊢
    clear hN hi hp1 hmi
    refine CW_late2 (fun a w => ∃ (fs : List UInt8) (p3 : Nat) (A : Option Addr) (k : Nat) (τ : Nat → Value), a = FR 86 [(0, .pointer (some ⟨br, 0, none⟩)), (3, .int .i64 (p : Int)), (4, .bool mi), (5, .slice A (ds ++ fs).length k), (6, .int .i64 (fs.length : Int))] τ [] ∧ Sat W w (RowOf eB 5 1 A k (ds ++ fs) :: Cl br (eR B b.length c p3 d) 57 :: L) ∧ fracM b p2 = .ok (fs, p3)) ?_ ?_
    · clear hs
      rintro _ w ⟨fs, p3, A, k, τ, rfl, hs, hf⟩
      unfold numB
      rw [hf]
      obtain ⟨f1, f2, f3, f4⟩ := fracM_ok i2 hf
      dsimp only at f1 f2 f3 f4 ⊢
      have hal : (ds ++ fs).length ≤ 2199023255552 := by rw [List.length_append]; omega
      have hda : ∀ x ∈ ds ++ fs, digit x = true := fun x hx => (List.mem_append.1 hx).elim (i4 x) (f4 x)
      obtain ⟨all, hall⟩ : ∃ all, ds ++ fs = all := ⟨_, rfl⟩
      obtain ⟨pl, hpl⟩ : ∃ pl, fs.length = pl := ⟨_, rfl⟩
      rw [hall] at hs hal hda ⊢
      rw [hpl] at f3 ⊢
      clear hf hall hpl
      refine CW_late2 (fun a w => ∃ (x : Int) (p4 : Nat) (τ : Nat → Value), a = FR 86 [(0, .pointer (some ⟨br, 0, none⟩)), (3, .int .i64 (p : Int)), (4, .bool mi), (5, .slice A all.length k), (6, .int .i64 (pl : Int)), (8, .int .i64 x)] τ [] ∧ Sat W w (RowOf eB 5 1 A k all :: Cl br (eR B b.length c p4 d) 57 :: L) ∧ expM b p3 = .ok (x, p4) ∧ -1099511627776 ≤ x ∧ x ≤ 1099511627776 ∧ p3 ≤ p4 ∧ p4 ≤ b.length) ?_ ?_
      · clear hs
        rintro _ w ⟨x, p4, τ, rfl, hs, he, x0, x1, x2, x3⟩
        unfold numC
        rw [he]
        dsimp only
        unfold numD
        obtain ⟨⟨v, why⟩, hwo⟩ : ∃ z, worthP all (x - (pl : Int)) mi = z := ⟨_, rfl⟩
        rw [hwo]
        dsimp only
        have hcap := Sat.cap hs
        by_cases hw0 : why = 0
        · subst hw0
          rw [if_pos rfl]
          (repeat' (first | (refine isLW ?_; first | refine LW_nil ?_ | (refine isLcall ?_; first | (refine LW_call (cap := []) rfl rfl ent61 (worth_call _ all A k (x - (pl : Int)) mi (hs.rd 0 rfl) hcap hda (by omega) (by omega) (by omega)) ?_; rw [hwo]; rintro _ w2 ⟨rfl, hs2⟩; replace hs := hs.and0 hs2; clear hs2)) | (refine isLbin ?_; first | refine LW_i64 rfl (by omega) (by omega) ?_ | (refine LW_cmp rfl (fun _ => ?_) (fun _ => ?_) <;> try (exfalso; omega))) | refine LW_pure TOK rfl ?_) | (with_reducible first | refine then_n ?_ | refine CW_seq ?_ | refine CW_region ?_ | refine CW_skip ?_ | refine CW_ret ?_) | refine CW_false rfl ?_ | refine RX1 Tryd.results40 rfl ?_))
          exact ⟨_, rfl, rfl, by dsimp only; omega, x3, hs.drop1⟩
        · rw [if_neg hw0]
          (repeat' (first | (refine isLW ?_; first | refine LW_nil ?_ | (refine isLcall ?_; first | (refine LW_call (cap := []) rfl rfl ent61 (worth_call _ all A k (x - (pl : Int)) mi (hs.rd 0 rfl) hcap hda (by omega) (by omega) (by omega)) ?_; rw [hwo]; rintro _ w2 ⟨rfl, hs2⟩; replace hs := hs.and0 hs2; clear hs2) | (refine LW_callX (cap := []) rfl rfl ent27 (fail_call _ _ why p) (fun _ _ h => h.elim) ?_; rintro _ w2 ⟨rfl, rfl⟩)) | (refine isLbin ?_; first | refine LW_i64 rfl (by omega) (by omega) ?_ | (refine LW_cmp rfl (fun _ => ?_) (fun _ => ?_) <;> try (exfalso; omega))) | refine LW_pure TOK rfl ?_) | (with_reducible first | refine then_n ?_ | refine CW_seq ?_ | refine CW_region ?_ | refine then_p ?_) | refine CW_true rfl ?_ | refine RXP ?_))
          exact ⟨_, rfl, rfl, hs.drop1.drop1⟩
      · intro hlate
        unfold numC
        obtain ⟨z1, hz1⟩ : ∃ z, (b[p3]? == some (101 : UInt8)) = z := ⟨_, rfl⟩
        obtain ⟨z2, hz2⟩ : ∃ z, (b[p3]? == some (69 : UInt8)) = z := ⟨_, rfl⟩
        have hE : expM b p3 = if (z1 || z2) = true then exponentM b (p3 + 1) else .ok (0, p3) := by unfold expM; rw [hz1, hz2]
        have hlt : (z1 || z2) = true → p3 < b.length := fun h => by
          cases z1
          · cases z2
            · cases h
            · exact get_lt hz2
          · exact get_lt hz1
        by_cases hzz : (z1 || z2) = true
        · have hlt := hlt hzz
          rw [if_pos hzz] at hE
          rcases hx : exponentM b (p3 + 1) with er | ⟨x, p4⟩
          · rw [hE, hx]
            cases z1 <;> cases z2 <;> first
              | (cases hzz; done)
              | ((repeat' (first | (refine isLW ?_; first | refine LW_nil ?_ | (refine isLg ?_; first | refine LW_take rfl ?_ | refine LW_pass rfl rfl ?_) | (refine isLload ?_; first | refine LW_loadC 1 TOK hs rfl rfl rfl rfl rfl ?_) | (refine isLstore ?_; first | (refine LW_storeC 1 TOK hs rfl rfl rfl rfl rfl rfl rfl ?_; clear hs; intro w hs)) | (refine isLcall ?_; first | (refine LW_call (cap := []) rfl rfl ent34 (next_call (p := p3) _ 101 (hs.picks [1, 0]) rb (by omega) hb2) ?_; clear hs; rintro _ w2 ⟨rfl, hs⟩; rw [hz1]; replace hs := hs.picks [1, 0]; unfold eR at hs) | (refine LW_call (cap := []) rfl rfl ent34 (next_call (p := p3) (d := d) (c := c) _ 69 (by unfold eR; exact hs.picks [1, 0]) rb (by omega) hb2) ?_; clear hs; rintro _ w2 ⟨rfl, hs⟩; rw [hz2]; replace hs := hs.picks [1, 0]; unfold eR at hs) | (refine LW_callX (cap := []) rfl rfl ent60 (exponent_call (p := p3 + 1) (d := d) (c := c) _ (by unfold eR; exact hs.picks [1, 0]) rb (by omega) hcb hb2) ?_ ?_; (rintro _ w2 ⟨q, h3, _⟩; rw [hx] at h3; cases h3); rintro _ w2 ⟨er2, h3, rfl, hs2⟩; rw [hx] at h3; cases h3)) | (refine isLbin ?_; first | refine LW_i64 rfl (by omega) (by omega) ?_) | refine LW_pure TOK rfl ?_) | (with_reducible first | refine then_n ?_ | refine CW_seq ?_ | refine CW_region ?_ | refine then_p ?_) | refine CW_true rfl ?_ | refine RXP ?_))
                 exact ⟨_, rfl, rfl, hs2.drop1⟩)
          · rw [hx] at hE
            cases z1 <;> cases z2 <;> first
              | (cases hzz; done)
              | ((repeat' (first | refine hlate _ _ ?_ | (refine isLW ?_; first | refine LW_nil ?_ | (refine isLg ?_; first | refine LW_take rfl ?_ | refine LW_pass rfl rfl ?_) | (refine isLload ?_; first | refine LW_loadC 1 TOK hs rfl rfl rfl rfl rfl ?_) | (refine isLstore ?_; first | (refine LW_storeC 1 TOK hs rfl rfl rfl rfl rfl rfl rfl ?_; clear hs; intro w hs)) | (refine isLcall ?_; first | (refine LW_call (cap := []) rfl rfl ent34 (next_call (p := p3) _ 101 (hs.picks [1, 0]) rb (by omega) hb2) ?_; clear hs; rintro _ w2 ⟨rfl, hs⟩; rw [hz1]; replace hs := hs.picks [1, 0]; unfold eR at hs) | (refine LW_call (cap := []) rfl rfl ent34 (next_call (p := p3) (d := d) (c := c) _ 69 (by unfold eR; exact hs.picks [1, 0]) rb (by omega) hb2) ?_; clear hs; rintro _ w2 ⟨rfl, hs⟩; rw [hz2]; replace hs := hs.picks [1, 0]; unfold eR at hs) | (refine LW_callX (cap := []) rfl rfl ent60 (exponent_call (p := p3 + 1) (d := d) (c := c) _ (by unfold eR; exact hs.picks [1, 0]) rb (by omega) hcb hb2) ?_ ?_; rotate_left; (rintro _ w2 ⟨q, h3, _⟩; rw [hx] at h3; cases h3); clear hs; rintro _ w2 ⟨q, h3, rfl, m1, m2, m3, m4, hs⟩; rw [hx] at h3; cases h3; dsimp only at m1 m2 m3 m4 hs ⊢)) | (refine isLbin ?_; first | refine LW_i64 rfl (by omega) (by omega) ?_) | refine LW_pure TOK rfl ?_) | (with_reducible first | refine then_n ?_ | refine CW_seq ?_ | refine CW_region ?_) | refine CW_true rfl ?_))
                 exact ⟨x, p4, _, FR_forget _ ⟨rfl, rfl, rfl, rfl, rfl, rfl, trivial⟩, hs.picks [1, 0], hE, m1, m2, by omega, m4⟩)
        · rw [if_neg hzz] at hE
          have q1 : z1 = false := by cases z1 <;> simp_all
          have q2 : z2 = false := by cases z2 <;> simp_all
          subst q1 q2
          (repeat' (first | refine hlate _ _ ?_ | (refine isLW ?_; first | refine LW_nil ?_ | (refine isLg ?_; first | refine LW_take rfl ?_) | (refine isLcall ?_; first | (refine LW_call (cap := []) rfl rfl ent34 (next_call (p := p3) _ 101 (hs.picks [1, 0]) rb (by omega) hb2) ?_; clear hs; rintro _ w2 ⟨rfl, hs⟩; rw [hz1]; replace hs := hs.picks [1, 0]) | (refine LW_call (cap := []) rfl rfl ent34 (next_call (p := p3) _ 69 (hs.picks [1, 0]) rb (by omega) hb2) ?_; clear hs; rintro _ w2 ⟨rfl, hs⟩; rw [hz2]; replace hs := hs.picks [1, 0])) | refine LW_pure TOK rfl ?_) | (with_reducible first | refine then_n ?_ | refine CW_seq ?_ | refine CW_region ?_ | refine CW_skip ?_) | refine CW_false rfl ?_))
          exact ⟨0, p3, _, FR_forget _ ⟨rfl, rfl, rfl, rfl, rfl, rfl, trivial⟩, hs, hE, by omega, by omega, Nat.le_refl _, f2⟩
    · intro hlate
      unfold numB
      obtain ⟨z1, hz1⟩ : ∃ z, (b[p2]? == some (46 : UInt8)) = z := ⟨_, rfl⟩
      have hF : fracM b p2 = if z1 = true then runM b (p2 + 1) else .ok ([], p2) := by unfold fracM; rw [hz1]
      cases z1
      · rw [if_neg (by simp)] at hF
        (repeat' (first | refine hlate _ _ ?_ | (refine isLW ?_; first | refine LW_nil ?_ | (refine isLcall ?_; first | (refine LW_call (cap := []) rfl rfl ent34 (next_call (p := p2) _ 46 (hs.picks [1, 0]) rb (by omega) hb2) ?_; clear hs; rintro _ w2 ⟨rfl, hs⟩; rw [hz1]; replace hs := hs.picks [1, 0])) | refine LW_pure TOK rfl ?_) | (with_reducible first | refine then_n ?_ | refine CW_seq ?_ | refine CW_region ?_ | refine CW_skip ?_) | refine CW_false rfl ?_))
        exact ⟨[], p2, A, k, _, FR_forget _ ⟨rfl, rfl, rfl, by rw [List.append_nil]; rfl, rfl, trivial⟩, by rw [List.append_nil]; exact hs, hF⟩
      · rw [if_pos rfl] at hF
        have hlt := get_lt hz1
        rcases hx : runM b (p2 + 1) with er | ⟨fs, p3⟩
        · rw [hF, hx]
          (repeat' (first | (refine isLW ?_; first | refine LW_nil ?_ | (refine isLload ?_; first | refine LW_loadC 1 TOK hs rfl rfl rfl rfl rfl ?_) | (refine isLstore ?_; first | (refine LW_storeC 1 TOK hs rfl rfl rfl rfl rfl rfl rfl ?_; clear hs; intro w hs)) | (refine isLcall ?_; first | (refine LW_call (cap := []) rfl rfl ent34 (next_call (p := p2) _ 46 (hs.picks [1, 0]) rb (by omega) hb2) ?_; clear hs; rintro _ w2 ⟨rfl, hs⟩; rw [hz1]; replace hs := hs.picks [1, 0]; unfold eR at hs) | (refine LW_callX (cap := []) rfl rfl ent59 (run_call (p := p2 + 1) (d := d) (c := c) _ (by unfold eR; exact hs.picks [1, 0]) rb (by omega) hcb hb2) ?_ ?_; (rintro _ w2 ⟨q, h3, _⟩; rw [hx] at h3; cases h3); rintro _ w2 ⟨er2, h3, rfl, hs2⟩; rw [hx] at h3; cases h3)) | (refine isLbin ?_; first | refine LW_i64 rfl (by omega) (by omega) ?_) | refine LW_pure TOK rfl ?_) | (with_reducible first | refine then_n ?_ | refine CW_seq ?_ | refine CW_region ?_ | refine then_p ?_) | refine CW_true rfl ?_ | refine RXP ?_))
          exact ⟨_, rfl, rfl, hs2.drop1⟩
        · rw [hx] at hF
          obtain ⟨g1, g2, g3, g4, _⟩ := runM_ok hx
          dsimp only at g1 g2 g3 g4
          have hfl : fs.length ≤ 1099511627776 := by omega
          (repeat' (first | refine hlate _ _ ?_ | (refine isLW ?_; first | refine LW_nil ?_ | (refine isLload ?_; first | refine LW_loadC 1 TOK hs rfl rfl rfl rfl rfl ?_) | (refine isLstore ?_; first | (refine LW_storeC 1 TOK hs rfl rfl rfl rfl rfl rfl rfl ?_; clear hs; intro w hs)) | (refine isLcall ?_; first | (refine LW_call (cap := []) rfl rfl ent34 (next_call (p := p2) _ 46 (hs.picks [1, 0]) rb (by omega) hb2) ?_; clear hs; rintro _ w2 ⟨rfl, hs⟩; rw [hz1]; replace hs := hs.picks [1, 0]; unfold eR at hs) | (refine LW_callX (cap := []) rfl rfl ent59 (run_call (p := p2 + 1) (d := d) (c := c) _ (by unfold eR; exact hs.picks [1, 0]) rb (by omega) hcb hb2) ?_ ?_; rotate_left; (rintro _ w2 ⟨q, h3, _⟩; rw [hx] at h3; cases h3); clear hs; rintro _ w2 ⟨q, h3, A2, c2, rfl, hrd, hs⟩; rw [hx] at h3; cases h3; dsimp only at hrd hs ⊢; replace hs := hs.picks [1, 0]) | (refine LW_append 0 (xs := ds) (ys := fs) eB_ok.1 hs TOK rfl rfl (hrd.of hs) eB_ok.2 rfl rfl rfl rfl rfl rfl rfl (by unfold maxLen; omega) (by simp only []; omega) ?_; clear hs; intro A3 c3 w hs) | refine LW_pure TOK rfl ?_) | (refine isLbin ?_; first | refine LW_i64 rfl (by omega) (by omega) ?_) | refine LW_pure TOK rfl ?_) | (with_reducible first | refine then_n ?_ | refine CW_seq ?_ | refine CW_region ?_) | refine CW_true rfl ?_))
          exact ⟨fs, p3, A3, c3, _, FR_forget _ ⟨rfl, rfl, rfl, rfl, rfl, trivial⟩, hs, hF⟩
  · intro hlate
    have hI : intM b p1 = match peekM b p1 with
      | .error e => .error e
      | .ok c => if c.toNat = 48 then .ok ([], p1 + 1) else runM b p1 := rfl
    have sA : ∀ (w : World), Sat W w (Cl br [.slice B b.length c, .int .i64 (p1 : Int), .int .i64 d] 57 :: L) → Sat W w (Cl br (eR B b.length c p1 d) 57 :: L) := fun _ h => h
    rcases hk : peekM b p1 with er | x
    · rw [hk] at hI
      rw [hN, hI]
      cases mi <;> (subst hp1) <;> first
        | ((repeat' (first | (refine isLW ?_; first | refine LW_nil ?_ | (refine isLload ?_; first | refine LW_loadC 0 TOK hs rfl rfl rfl rfl rfl ?_) | (refine isLstore ?_; first | (refine LW_storeC 0 TOK hs rfl rfl rfl rfl rfl rfl rfl ?_; clear hs; intro w hs)) | (refine isLcall ?_; first | (refine LW_call (cap := []) rfl rfl ent34 (next_call (p := p) (d := d) (c := c) _ 45 (by unfold eR; exact hs) rb (by omega) hb2) ?_; clear hs; rintro _ w2 ⟨rfl, hs⟩; rw [hmi]; unfold eR at hs) | (refine LW_callX (cap := []) rfl rfl ent35 (peek_call (p := if true = true then p + 1 else p) (d := d) (c := c) _ (by unfold eR; exact hs) rb hp1b.1 hb2) ?_ ?_; (rintro _ w2 ⟨x, hx, _⟩; rw [hk] at hx; cases hx); rintro _ w2 ⟨er2, hx, rfl, hs2⟩; rw [hk] at hx; cases hx) | (refine LW_callX (cap := []) rfl rfl ent35 (peek_call (p := if false = true then p + 1 else p) (d := d) (c := c) _ (by unfold eR; exact hs) rb hp1b.1 hb2) ?_ ?_; (rintro _ w2 ⟨x, hx, _⟩; rw [hk] at hx; cases hx); rintro _ w2 ⟨er2, hx, rfl, hs2⟩; rw [hk] at hx; cases hx)) | (refine isLbin ?_; first | refine LW_i64 rfl (by omega) (by omega) ?_) | refine LW_pure TOK rfl ?_) | (with_reducible first | refine then_n ?_ | refine CW_seq ?_ | refine CW_region ?_ | refine CW_skip ?_ | refine then_p ?_) | refine CW_true rfl ?_ | refine CW_false rfl ?_ | refine RXP ?_))
           exact ⟨_, rfl, rfl, hs2⟩)
    · obtain ⟨hx1, hx2⟩ := peek_some hk
      rw [hk] at hI
      dsimp only at hI
      by_cases h48 : x.toNat = 48
      · rw [if_pos h48] at hI
        cases mi
        · have e1 : p1 = p := hp1.symm
          subst e1
          (repeat' (first | refine hlate _ _ ?_ | (refine isLW ?_; first | refine LW_nil ?_ | (refine isLload ?_; first | refine LW_loadC 0 TOK hs rfl rfl rfl rfl rfl ?_) | (refine isLstore ?_; first | (refine LW_storeC 0 TOK hs rfl rfl rfl rfl rfl rfl rfl ?_; clear hs; intro w hs)) | (refine isLcall ?_; first | (refine LW_call (cap := []) rfl rfl ent34 (next_call (p := p1) (d := d) (c := c) _ 45 (by unfold eR; exact hs) rb (by omega) hb2) ?_; clear hs; rintro _ w2 ⟨rfl, hs⟩; rw [hmi]; unfold eR at hs) | (refine LW_callX (cap := []) rfl rfl ent35 (peek_call (p := p1) (d := d) (c := c) _ (by unfold eR; exact hs) rb (by omega) hb2) ?_ ?_; rotate_left; (rintro _ w2 ⟨x, hx, _⟩; rw [hk] at hx; cases hx); clear hs; rintro _ w2 ⟨er2, hx, rfl, hs⟩; rw [hk] at hx; cases hx; unfold eR at hs)) | (refine isLbin ?_; first | refine LW_i64 rfl (by omega) (by omega) ?_ | (refine LW_cmp rfl (fun _ => ?_) (fun _ => ?_) <;> try (exfalso; omega))) | refine LW_pure TOK rfl ?_) | (with_reducible first | refine then_n ?_ | refine CW_seq ?_ | refine CW_region ?_ | refine CW_skip ?_) | refine CW_true rfl ?_ | refine CW_false rfl ?_))
          exact ⟨[], p1 + 1, none, 0, _, FR_forget _ ⟨rfl, rfl, rfl, rfl, trivial⟩, hs.nilRow 5 1, hI⟩
        · have e1 : p1 = p + 1 := hp1.symm
          subst e1
          (repeat' (first | refine hlate _ _ ?_ | (refine isLW ?_; first | refine LW_nil ?_ | (refine isLload ?_; first | refine LW_loadC 0 TOK hs rfl rfl rfl rfl rfl ?_) | (refine isLstore ?_; first | (refine LW_storeC 0 TOK hs rfl rfl rfl rfl rfl rfl rfl ?_; clear hs; intro w hs)) | (refine isLcall ?_; first | (refine LW_call (cap := []) rfl rfl ent34 (next_call (p := p) (d := d) (c := c) _ 45 (by unfold eR; exact hs) rb (by omega) hb2) ?_; clear hs; rintro _ w2 ⟨rfl, hs⟩; rw [hmi]; unfold eR at hs) | (refine LW_callX (cap := []) rfl rfl ent35 (peek_call (p := p + 1) (d := d) (c := c) _ (by unfold eR; exact hs) rb (by omega) hb2) ?_ ?_; rotate_left; (rintro _ w2 ⟨x, hx, _⟩; rw [hk] at hx; cases hx); clear hs; rintro _ w2 ⟨er2, hx, rfl, hs⟩; rw [hk] at hx; cases hx; unfold eR at hs)) | (refine isLbin ?_; first | refine LW_i64 rfl (by omega) (by omega) ?_ | (refine LW_cmp rfl (fun _ => ?_) (fun _ => ?_) <;> try (exfalso; omega))) | refine LW_pure TOK rfl ?_) | (with_reducible first | refine then_n ?_ | refine CW_seq ?_ | refine CW_region ?_) | refine CW_true rfl ?_))
          exact ⟨[], p + 1 + 1, none, 0, _, FR_forget _ ⟨rfl, rfl, rfl, rfl, trivial⟩, hs.nilRow 5 1, hI⟩
      rw [if_neg h48] at hI
      rcases hx : runM b p1 with er | ⟨ds, p2⟩
      · rw [hN, hI, hx]
        cases mi
        · have e1 : p1 = p := hp1.symm
          subst e1
          (repeat' (first | (refine isLW ?_; first | refine LW_nil ?_ | (refine isLload ?_; first | refine LW_loadC 0 TOK hs rfl rfl rfl rfl rfl ?_) | (refine isLcall ?_; first | (refine LW_call (cap := []) rfl rfl ent34 (next_call (p := p1) (d := d) (c := c) _ 45 (by unfold eR; exact hs) rb (by omega) hb2) ?_; clear hs; rintro _ w2 ⟨rfl, hs⟩; rw [hmi]; unfold eR at hs) | (refine LW_callX (cap := []) rfl rfl ent35 (peek_call (p := p1) (d := d) (c := c) _ (by unfold eR; exact hs) rb (by omega) hb2) ?_ ?_; rotate_left; (rintro _ w2 ⟨x, hx, _⟩; rw [hk] at hx; cases hx); clear hs; rintro _ w2 ⟨er2, hx, rfl, hs⟩; rw [hk] at hx; cases hx; unfold eR at hs) | (refine LW_callX (cap := []) rfl rfl ent59 (run_call (p := p1) (d := d) (c := c) _ (by unfold eR; exact hs) rb (by omega) hcb hb2) ?_ ?_; (rintro _ w2 ⟨q, h3, _⟩; rw [hx] at h3; cases h3); rintro _ w2 ⟨er2, h3, rfl, hs2⟩; rw [hx] at h3; cases h3)) | (refine isLbin ?_; first | (refine LW_cmp rfl (fun _ => ?_) (fun _ => ?_) <;> try (exfalso; omega))) | refine LW_pure TOK rfl ?_) | (with_reducible first | refine then_n ?_ | refine CW_seq ?_ | refine CW_region ?_ | refine CW_skip ?_ | refine then_p ?_) | refine CW_false rfl ?_ | refine RXP ?_))
          exact ⟨_, rfl, rfl, hs2⟩
        · have e1 : p1 = p + 1 := hp1.symm
          subst e1
          (repeat' (first | (refine isLW ?_; first | refine LW_nil ?_ | (refine isLload ?_; first | refine LW_loadC 0 TOK hs rfl rfl rfl rfl rfl ?_) | (refine isLstore ?_; first | (refine LW_storeC 0 TOK hs rfl rfl rfl rfl rfl rfl rfl ?_; clear hs; intro w hs)) | (refine isLcall ?_; first | (refine LW_call (cap := []) rfl rfl ent34 (next_call (p := p) (d := d) (c := c) _ 45 (by unfold eR; exact hs) rb (by omega) hb2) ?_; clear hs; rintro _ w2 ⟨rfl, hs⟩; rw [hmi]; unfold eR at hs) | (refine LW_callX (cap := []) rfl rfl ent35 (peek_call (p := p + 1) (d := d) (c := c) _ (by unfold eR; exact hs) rb (by omega) hb2) ?_ ?_; rotate_left; (rintro _ w2 ⟨x, hx, _⟩; rw [hk] at hx; cases hx); clear hs; rintro _ w2 ⟨er2, hx, rfl, hs⟩; rw [hk] at hx; cases hx; unfold eR at hs) | (refine LW_callX (cap := []) rfl rfl ent59 (run_call (p := p + 1) (d := d) (c := c) _ (by unfold eR; exact hs) rb (by omega) hcb hb2) ?_ ?_; (rintro _ w2 ⟨q, h3, _⟩; rw [hx] at h3; cases h3); rintro _ w2 ⟨er2, h3, rfl, hs2⟩; rw [hx] at h3; cases h3)) | (refine isLbin ?_; first | refine LW_i64 rfl (by omega) (by omega) ?_ | (refine LW_cmp rfl (fun _ => ?_) (fun _ => ?_) <;> try (exfalso; omega))) | refine LW_pure TOK rfl ?_) | (with_reducible first | refine then_n ?_ | refine CW_seq ?_ | refine CW_region ?_ | refine then_p ?_) | refine CW_true rfl ?_ | refine CW_false rfl ?_ | refine RXP ?_))
          exact ⟨_, rfl, rfl, hs2⟩
      · rw [hx] at hI
        obtain ⟨g1, g2, g3, g4, _⟩ := runM_ok hx
        dsimp only at g1 g2 g3 g4
        have hfl : ds.length ≤ 1099511627776 := by omega
        cases mi
        · have e1 : p1 = p := hp1.symm
          subst e1
          (repeat' (first | refine hlate _ _ ?_ | (refine isLW ?_; first | refine LW_nil ?_ | (refine isLload ?_; first | refine LW_loadC 0 TOK hs rfl rfl rfl rfl rfl ?_) | (refine isLcall ?_; first | (refine LW_call (cap := []) rfl rfl ent34 (next_call (p := p1) (d := d) (c := c) _ 45 (by unfold eR; exact hs) rb (by omega) hb2) ?_; clear hs; rintro _ w2 ⟨rfl, hs⟩; rw [hmi]; unfold eR at hs) | (refine LW_callX (cap := []) rfl rfl ent35 (peek_call (p := p1) (d := d) (c := c) _ (by unfold eR; exact hs) rb (by omega) hb2) ?_ ?_; rotate_left; (rintro _ w2 ⟨x, hx, _⟩; rw [hk] at hx; cases hx); clear hs; rintro _ w2 ⟨er2, hx, rfl, hs⟩; rw [hk] at hx; cases hx; unfold eR at hs) | (refine LW_callX (cap := []) rfl rfl ent59 (run_call (p := p1) (d := d) (c := c) _ (by unfold eR; exact hs) rb (by omega) hcb hb2) ?_ ?_; rotate_left; (rintro _ w2 ⟨q, h3, _⟩; rw [hx] at h3; cases h3); clear hs; rintro _ w2 ⟨q, h3, A2, c2, rfl, hrd, hs⟩; rw [hx] at h3; cases h3; dsimp only at hrd hs ⊢; replace hs := hs.nilRow 5 1) | (refine LW_append 0 (xs := ([] : List UInt8)) (ys := ds) eB_ok.1 hs TOK rfl rfl (hrd.of hs) eB_ok.2 rfl rfl rfl rfl rfl rfl rfl (by simp only [List.length_nil]; unfold maxLen; omega) (by simp only [List.length_nil]; omega) ?_; clear hs; intro A3 c3 w hs)) | (refine isLbin ?_; first | (refine LW_cmp rfl (fun _ => ?_) (fun _ => ?_) <;> try (exfalso; omega))) | refine LW_pure TOK rfl ?_) | (with_reducible first | refine then_n ?_ | refine CW_seq ?_ | refine CW_region ?_ | refine CW_skip ?_) | refine CW_false rfl ?_))
          exact ⟨ds, p2, A3, c3, _, FR_forget _ ⟨rfl, rfl, rfl, rfl, trivial⟩, hs, hI⟩
        · have e1 : p1 = p + 1 := hp1.symm
          subst e1
          (repeat' (first | refine hlate _ _ ?_ | (refine isLW ?_; first | refine LW_nil ?_ | (refine isLload ?_; first | refine LW_loadC 0 TOK hs rfl rfl rfl rfl rfl ?_) | (refine isLstore ?_; first | (refine LW_storeC 0 TOK hs rfl rfl rfl rfl rfl rfl rfl ?_; clear hs; intro w hs)) | (refine isLcall ?_; first | (refine LW_call (cap := []) rfl rfl ent34 (next_call (p := p) (d := d) (c := c) _ 45 (by unfold eR; exact hs) rb (by omega) hb2) ?_; clear hs; rintro _ w2 ⟨rfl, hs⟩; rw [hmi]; unfold eR at hs) | (refine LW_callX (cap := []) rfl rfl ent35 (peek_call (p := p + 1) (d := d) (c := c) _ (by unfold eR; exact hs) rb (by omega) hb2) ?_ ?_; rotate_left; (rintro _ w2 ⟨x, hx, _⟩; rw [hk] at hx; cases hx); clear hs; rintro _ w2 ⟨er2, hx, rfl, hs⟩; rw [hk] at hx; cases hx; unfold eR at hs) | (refine LW_callX (cap := []) rfl rfl ent59 (run_call (p := p + 1) (d := d) (c := c) _ (by unfold eR; exact hs) rb (by omega) hcb hb2) ?_ ?_; rotate_left; (rintro _ w2 ⟨q, h3, _⟩; rw [hx] at h3; cases h3); clear hs; rintro _ w2 ⟨q, h3, A2, c2, rfl, hrd, hs⟩; rw [hx] at h3; cases h3; dsimp only at hrd hs ⊢; replace hs := hs.nilRow 5 1) | (refine LW_append 0 (xs := ([] : List UInt8)) (ys := ds) eB_ok.1 hs TOK rfl rfl (hrd.of hs) eB_ok.2 rfl rfl rfl rfl rfl rfl rfl (by simp only [List.length_nil]; unfold maxLen; omega) (by simp only [List.length_nil]; omega) ?_; clear hs; intro A3 c3 w hs)) | (refine isLbin ?_; first | refine LW_i64 rfl (by omega) (by omega) ?_ | (refine LW_cmp rfl (fun _ => ?_) (fun _ => ?_) <;> try (exfalso; omega))) | refine LW_pure TOK rfl ?_) | (with_reducible first | refine then_n ?_ | refine CW_seq ?_ | refine CW_region ?_) | refine CW_true rfl ?_ | refine CW_false rfl ?_))
          exact ⟨ds, p2, A3, c3, _, FR_forget _ ⟨rfl, rfl, rfl, rfl, trivial⟩, hs, hI⟩
end
end Go.Proofs.YtbmeafeojcgndaaDoor
