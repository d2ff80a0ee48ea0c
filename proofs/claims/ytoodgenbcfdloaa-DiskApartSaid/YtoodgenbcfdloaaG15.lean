/- Walks: lists held against each other, copied; small ones. -/
import Derived.Test.YtoodgenbcfdloaaG14
import Derived.Test.YtoodgenbcfdloaaSlText2
set_option linter.unusedVariables false
set_option linter.unusedSimpArgs false
namespace Go.Proofs.Ytoodgenbcfdloaa
open Go Go.Sl Go.RowKit
set_option maxRecDepth 100000
attribute [local irreducible] CW LW DW FR DP Calls

theorem eq_of_takes {α : Type} {xs ys : List α} {i : Int} (hl : xs.length = ys.length) (h : xs.take i.toNat = ys.take i.toNat) (hge : ¬ i < (xs.length : Int)) : xs = ys := by
  rw [List.take_of_length_le (by omega), List.take_of_length_le (by omega)] at h; exact h
theorem take_next {α : Type} [Inhabited α] {xs ys : List α} {i : Int} (h0 : 0 ≤ i) (hx : i < xs.length) (hy : i < ys.length) (h : xs.take i.toNat = ys.take i.toNat) (he : rd xs i = rd ys i) : xs.take (i + 1).toNat = ys.take (i + 1).toNat := by
  have e : (i + 1).toNat = i.toNat + 1 := by omega
  rw [e, List.take_add_one, List.take_add_one, h, rd_get h0 hx, rd_get h0 hy, he]
theorem num_call (w : World) (n : Int) : Calls Try.prog 20 [Value.int .i64 n].toArray w (Ret fun v w' => v = .int .i64 n ∧ w = w') := by
  refine Calls_of Try.func20 rfl 4 Try.ntmps20 rfl ?_
  (repeat' (first | (refine isLW ?_; first | refine LW_nil ?_ | refine LW_pure TOK rfl ?_) | (with_reducible first | refine then_n ?_ | refine CW_seq ?_ | refine CW_region ?_ | refine CW_ret ?_) | refine RET1 Try.results20 rfl ?_))
  exact ⟨rfl, rfl⟩
theorem proper_call (w : World) (q : Int) : Calls Try.prog 31 [Value.int .i64 q].toArray w (Ret fun v w' => v = .int .i64 (if q < 16 ∨ 4194304 < q then 64 else q) ∧ w = w') := by
  refine Calls_of Try.func31 rfl 10 Try.ntmps31 rfl ?_
  (repeat' (first | (refine isLW ?_; first | refine LW_nil ?_ | (refine isLg ?_; first | refine LW_take rfl ?_ | refine LW_pass rfl rfl ?_) | (refine isLbin ?_; first | (refine LW_cmp rfl (fun _ => ?_) (fun _ => ?_) <;> try (exfalso; omega))) | refine LW_pure TOK rfl ?_) | (with_reducible first | refine then_n ?_ | refine CW_seq ?_ | refine CW_region ?_ | refine CW_skip ?_ | refine CW_ret ?_ | refine then_r ?_) | refine CW_true rfl ?_ | refine CW_false rfl ?_ | refine RET1 Try.results31 rfl ?_))
  · exact ⟨by rw [if_pos (.inl (by assumption))], rfl⟩
  · exact ⟨by rw [if_pos (.inr (by assumption))], rfl⟩
  · exact ⟨by rw [if_neg (by omega)], rfl⟩
theorem byte_ne {a b : UInt8} (h : ¬ (a.toNat : Int) = b.toNat) : ¬ a = b := fun e => h (by rw [e])
theorem byte_eq {a b : UInt8} (h : ¬ ¬ (a.toNat : Int) = b.toNat) : a = b := UInt8.toNat.inj (Int.ofNat.inj (Classical.byContradiction h))
theorem alike_call (w : World) (xs ys : List UInt8) (A B : Option Addr) (c c' : Nat) (ra : Rd eB w A xs) (rb : Rd eB w B ys) (hx : xs.length ≤ 4611686018427387904) :
    Calls Try.prog 27 [Value.slice A xs.length c, Value.slice B ys.length c'].toArray w (Ret fun v w' => v = .bool (decide (xs = ys)) ∧ Sat w w' []) := by
  refine Calls_of Try.func27 rfl 26 Try.ntmps27 rfl ?_
  have hs := Sat.start w
  (repeat' (first | (refine isLW ?_; first | refine LW_nil ?_ | (refine isLcall ?_; first | refine LW_pure TOK rfl ?_) | (refine isLbin ?_; first | (refine LW_cmp rfl (fun _ => ?_) (fun _ => ?_) <;> try (exfalso; omega))) | refine LW_pure TOK rfl ?_) | (with_reducible first | refine then_n ?_ | refine CW_seq ?_ | refine CW_region ?_ | refine CW_block ?_ | refine CW_skip ?_ | refine CW_ret ?_ | refine then_r ?_) | refine CW_true rfl ?_ | refine CW_false rfl ?_ | refine RET1 Try.results27 rfl ?_))
  · have hne : ¬ (xs.length : Int) = ys.length := by assumption
    exact ⟨by rw [decide_eq_false (fun e => hne (by rw [e]))], hs⟩
  have hl : xs.length = ys.length := by omega
  refine CW_loop (γ := Int) (fun g => [(0, .slice A xs.length c), (1, .slice B ys.length c'), (5, .int .i64 g)]) (fun g w' => Sat w w' [] ∧ 0 ≤ g ∧ g ≤ xs.length ∧ xs.take g.toNat = ys.take g.toNat) (fun g => (xs.length - g).toNat) 0 ⟨rfl, rfl, rfl, trivial⟩ ⟨hs, by omega, by omega, rfl⟩ ?_
  clear hs
  rintro i τ w' ⟨hs, h0, h1, h2⟩
  try dsimp only
  (repeat' (first | (refine isLW ?_; first | refine LW_nil ?_ | (refine isLcall ?_; first | refine LW_pure TOK rfl ?_) | (refine isLbin ?_; first | refine LW_i64 rfl (by omega) (by omega) ?_ | (refine LW_cmp rfl (fun _ => ?_) (fun _ => ?_) <;> try (exfalso; omega))) | refine LW_pure TOK rfl ?_) | (refine isDP ?_; first | (refine isDnil ?_; first | refine DP_end ?_ ?_) | (refine isDload rfl ?_; first | refine DP_loadRd0 ra (fun _ => rfl) hs TOK rfl rfl (by first | exact trivial | rfl) rfl (by assumption) rfl rfl (by omega) (by omega) rfl ?_ ?_ | refine DP_loadRd0 rb (fun _ => rfl) hs TOK rfl rfl (by first | exact trivial | rfl) rfl (by assumption) rfl rfl (by omega) (by omega) rfl ?_ ?_) | (refine isDidx rfl ?_; first | (refine DP_indexRd (ra.of hs) TOK rfl rfl (by first | exact trivial | rfl) rfl rfl rfl rfl rfl (by omega) (by omega) ?_; intro _ _ _) | (refine DP_indexRd (rb.of hs) TOK rfl rfl (by first | exact trivial | rfl) rfl rfl rfl rfl rfl (by omega) (by omega) ?_; intro _ _ _)) | (refine isDbin rfl ?_; first | (refine DP_cmp rfl rfl (by first | exact trivial | rfl) rfl (fun _ => ?_) (fun _ => ?_) <;> try (exfalso; omega))) | refine DP_pure TOK rfl rfl (by first | exact trivial | rfl) rfl ?_) | (refine isI0 ?_; exact Inv.nil) | (refine isI1 ?_; first | refine Inv.keepB hs ?_) | (with_reducible first | refine then_n ?_ | refine CW_seq ?_ | refine CW_region ?_ | refine CW_block ?_ | refine CW_skip ?_ | refine CW_exit ?_ | refine CW_ret ?_ | refine then_e ?_ | refine then_r ?_ | refine blk_n ?_ | refine blk_r ?_ | refine blk_same ?_) | refine CW_true rfl ?_ | refine CW_false rfl ?_ | (refine CW_drawP (id := 6) [] [0, 1, 2, 3, 4, 5, 6, 7, 8] mixed (by kernel_rfl) hs ?_; clear hs; intro hs) | refine RET1 Try.results27 rfl ?_))
  · have hne := byte_ne (by assumption)
    have hlt : i < xs.length := by assumption
    refine ⟨by rw [decide_eq_false (fun e => hne (by rw [e]))], hs⟩
  · have he := byte_eq (by assumption)
    have hlt : i < xs.length := by assumption
    exact ⟨i + 1, _, FR_forget _ ⟨rfl, rfl, rfl, trivial⟩, ⟨hs, by omega, by omega, take_next h0 hlt (by omega) h2 he⟩, by omega⟩
  · have hge : ¬ i < (xs.length : Int) := by assumption
    exact ⟨by rw [decide_eq_true (eq_of_takes hl h2 hge)], hs⟩
theorem namesAlike_call (w : World) (xs ys : List Nm) (A B : Option Addr) (c c' : Nat) (ra : Rd eN w A xs) (rb : Rd eN w B ys) (hx : xs.length ≤ 4611686018427387904) :
    Calls Try.prog 39 [Value.slice A xs.length c, Value.slice B ys.length c'].toArray w (Ret fun v w' => v = .bool (decide (xs = ys)) ∧ Sat w w' []) := by
  refine Calls_of Try.func39 rfl 26 Try.ntmps39 rfl ?_
  have hs := Sat.start w
  (repeat' (first | (refine isLW ?_; first | refine LW_nil ?_ | (refine isLcall ?_; first | refine LW_pure TOK rfl ?_) | (refine isLbin ?_; first | (refine LW_cmp rfl (fun _ => ?_) (fun _ => ?_) <;> try (exfalso; omega))) | refine LW_pure TOK rfl ?_) | (with_reducible first | refine then_n ?_ | refine CW_seq ?_ | refine CW_region ?_ | refine CW_block ?_ | refine CW_skip ?_ | refine CW_ret ?_ | refine then_r ?_) | refine CW_true rfl ?_ | refine CW_false rfl ?_ | refine RET1 Try.results39 rfl ?_))
  · have hne : ¬ (xs.length : Int) = ys.length := by assumption
    exact ⟨by rw [decide_eq_false (fun e => hne (by rw [e]))], hs⟩
  have hl : xs.length = ys.length := by omega
  refine CW_loop (γ := Int) (fun g => [(0, .slice A xs.length c), (1, .slice B ys.length c'), (5, .int .i64 g)]) (fun g w' => Sat w w' [] ∧ 0 ≤ g ∧ g ≤ xs.length ∧ xs.take g.toNat = ys.take g.toNat) (fun g => (xs.length - g).toNat) 0 ⟨rfl, rfl, rfl, trivial⟩ ⟨hs, by omega, by omega, rfl⟩ ?_
  clear hs
  rintro i τ w' ⟨hs, h0, h1, h2⟩
  try dsimp only
  (repeat' (first | refine DP_strNe (a := rd xs i) (b := rd ys i) rfl rfl trivial rfl rfl rfl rfl (fun hq => ?_) (fun hq => ?_) | (refine isLW ?_; first | refine LW_nil ?_ | (refine isLcall ?_; first | refine LW_pure TOK rfl ?_) | (refine isLbin ?_; first | refine LW_i64 rfl (by omega) (by omega) ?_ | (refine LW_cmp rfl (fun _ => ?_) (fun _ => ?_) <;> try (exfalso; omega))) | refine LW_pure TOK rfl ?_) | (refine isDP ?_; first | (refine isDnil ?_; first | refine DP_end ?_ ?_) | (refine isDload rfl ?_; first | refine DP_loadRd0 ra (fun _ => rfl) hs TOK rfl rfl (by first | exact trivial | rfl) rfl (by assumption) rfl rfl (by omega) (by omega) rfl ?_ ?_ | refine DP_loadRd0 rb (fun _ => rfl) hs TOK rfl rfl (by first | exact trivial | rfl) rfl (by assumption) rfl rfl (by omega) (by omega) rfl ?_ ?_) | (refine isDidx rfl ?_; first | (refine DP_indexRd (ra.of hs) TOK rfl rfl (by first | exact trivial | rfl) rfl rfl rfl rfl rfl (by omega) (by omega) ?_; intro _ _ _) | (refine DP_indexRd (rb.of hs) TOK rfl rfl (by first | exact trivial | rfl) rfl rfl rfl rfl rfl (by omega) (by omega) ?_; intro _ _ _)) | refine DP_pure TOK rfl rfl (by first | exact trivial | rfl) rfl ?_) | (refine isI0 ?_; exact Inv.nil) | (refine isI1 ?_; first | refine Inv.keepB hs ?_) | (with_reducible first | refine then_n ?_ | refine CW_seq ?_ | refine CW_region ?_ | refine CW_block ?_ | refine CW_skip ?_ | refine CW_exit ?_ | refine CW_ret ?_ | refine then_e ?_ | refine then_r ?_ | refine blk_n ?_ | refine blk_r ?_ | refine blk_same ?_) | refine CW_true rfl ?_ | refine CW_false rfl ?_ | (refine CW_drawP (id := 6) [] [0, 1, 2, 3, 4, 5, 6, 7, 8] mixed (by kernel_rfl) hs ?_; clear hs; intro hs) | refine RET1 Try.results39 rfl ?_))
  · have hlt : i < xs.length := by assumption
    refine ⟨by rw [decide_eq_false (fun e => hq (by rw [e]))], hs⟩
  · have hlt : i < xs.length := by assumption
    exact ⟨i + 1, _, FR_forget _ ⟨rfl, rfl, rfl, trivial⟩, ⟨hs, by omega, by omega, take_next h0 hlt (by omega) h2 hq⟩, by omega⟩
  · have hge : ¬ i < (xs.length : Int) := by assumption
    exact ⟨by rw [decide_eq_true (eq_of_takes hl h2 hge)], hs⟩
theorem copied_call (w : World) (b : List UInt8) (A : Option Addr) (c : Nat) (rb : Rd eB w A b) (hb : b.length ≤ 140737488355328) :
    Calls Try.prog 17 [Value.slice A b.length c].toArray w (Ret fun v w' => ∃ A' c', v = .slice A' b.length c' ∧ Sat w w' [RowOf eB 5 1 A' c' b]) := by
  refine Calls_of Try.func17 rfl 7 Try.ntmps17 rfl ?_
  have hs := (Sat.start w).nilRow 5 1
  (repeat' (first | (refine isLW ?_; first | refine LW_nil ?_ | (refine isLcall ?_; first | (refine LW_append 0 (xs := ([] : List UInt8)) eB_ok.1 hs TOK rfl rfl (rb.of hs) eB_ok.2 rfl rfl rfl rfl rfl rfl rfl (by unfold maxLen; simp; omega) (by simp; omega) ?_; clear hs; intro A1 c1 w hs)) | refine LW_pure TOK rfl ?_) | (with_reducible first | refine then_n ?_ | refine CW_seq ?_ | refine CW_region ?_ | refine CW_ret ?_) | refine RET1 Try.results17 rfl ?_))
  exact ⟨A1, c1, rfl, hs⟩
theorem len_of_map {rs : List RF} {l : List File} (h : rs.map RF.f = l) : rs.length = l.length := by rw [← h, List.length_map]
set_option maxHeartbeats 1000000 in
theorem filesAlike_call (w : World) (xs ys : List File) (A B : Option Addr) (c c' : Nat) (ra : RdF w A xs) (rb : RdF w B ys) (hx : xs.length ≤ 4611686018427387904) (hd : ∀ f ∈ xs, f.2.length ≤ 4611686018427387904) :
    Calls Try.prog 21 [Value.slice A xs.length c, Value.slice B ys.length c'].toArray w (Ret fun v w' => v = .bool (decide (xs = ys)) ∧ Sat w w' []) := by
  obtain ⟨us, hu, ra, ra2⟩ := ra
  obtain ⟨vs, hv, rb, rb2⟩ := rb
  have hul := len_of_map hu
  have hvl := len_of_map hv
  rw [← hul, ← hvl]
  rw [← hul] at hx
  refine Calls_of Try.func21 rfl 42 Try.ntmps21 rfl ?_
  have hs := Sat.start w
  (repeat' (first | (refine isLW ?_; first | refine LW_nil ?_ | (refine isLcall ?_; first | refine LW_pure TOK rfl ?_) | (refine isLbin ?_; first | (refine LW_cmp rfl (fun _ => ?_) (fun _ => ?_) <;> try (exfalso; omega))) | refine LW_pure TOK rfl ?_) | (with_reducible first | refine then_n ?_ | refine CW_seq ?_ | refine CW_region ?_ | refine CW_block ?_ | refine CW_skip ?_ | refine CW_ret ?_ | refine then_r ?_) | refine CW_true rfl ?_ | refine CW_false rfl ?_ | refine RET1 Try.results21 rfl ?_))
  · have hne : ¬ (us.length : Int) = vs.length := by assumption
    exact ⟨by rw [decide_eq_false (fun e => hne (by rw [hul, hvl, e]))], hs⟩
  have hl : us.length = vs.length := by omega
  refine CW_loop (γ := Nat) (fun g => [(0, .slice A us.length c), (1, .slice B vs.length c'), (5, .int .i64 (g : Int))]) (fun g w' => Sat w w' [] ∧ g ≤ us.length ∧ xs.take g = ys.take g) (fun g => us.length - g) 0 ⟨rfl, rfl, rfl, trivial⟩ ⟨hs, by omega, rfl⟩ ?_
  clear hs
  rintro i τ w' ⟨hs, h1, h2⟩
  try dsimp only at h1 h2 ⊢
  by_cases hlt : i < us.length
  · have hlv : i < vs.length := by omega
    have hru := rd_at hlt
    have hrv := rd_at hlv
    have hmu := ra2 _ (List.getElem_mem hlt)
    have hmv := rb2 _ (List.getElem_mem hlv)
    have hxi : xs[i]'(by omega) = (us[i]).f := by subst hu; rw [List.getElem_map]
    have hyi : ys[i]'(by omega) = (vs[i]).f := by subst hv; rw [List.getElem_map]
    have hxt : xs.take (i + 1) = xs.take i ++ [(us[i]).f] := by rw [List.take_add_one, List.getElem?_eq_getElem (by omega), hxi]; rfl
    have hyt : ys.take (i + 1) = ys.take i ++ [(vs[i]).f] := by rw [List.take_add_one, List.getElem?_eq_getElem (by omega), hyi]; rfl
    have hdd := hd _ (List.getElem_mem (l := xs) (n := i) (by omega))
    rw [hxi] at hdd
    obtain ⟨u, hu'⟩ : ∃ u, us[i] = u := ⟨_, rfl⟩
    obtain ⟨v, hv'⟩ : ∃ v, vs[i] = v := ⟨_, rfl⟩
    rw [hu'] at hru hmu hxi hxt hdd
    rw [hv'] at hrv hmv hyi hyt
    have hno : ¬ u.f = v.f → ¬ xs = ys := fun h e => h (by rw [← hxi, ← hyi]; subst e; rfl)
    have hmu : Rd eB w (rd us (i : Int)).A (rd us (i : Int)).data := by rw [hru]; exact hmu
    have hmv : Rd eB w (rd vs (i : Int)).A (rd vs (i : Int)).data := by rw [hrv]; exact hmv
    have hdd : (rd us (i : Int)).data.length ≤ 4611686018427387904 := by rw [hru]; exact hdd
    by_cases hde : (rd us (i : Int)).data = (rd vs (i : Int)).data
    · have hdq : decide ((rd us (i : Int)).data = (rd vs (i : Int)).data) = true := decide_eq_true hde
      (repeat' (first | refine DP_strNe (a := (rd us (i : Int)).n) (b := (rd vs (i : Int)).n) rfl rfl trivial rfl rfl rfl rfl (fun hq => ?_) (fun hq => ?_) | (refine isLW ?_; first | refine LW_nil ?_ | (refine isLg ?_; first | refine LW_take rfl ?_ | refine LW_pass rfl rfl ?_) | (refine isLcall ?_; first | (refine LW_call (cap := []) rfl rfl ent27 (alike_call _ (rd us (i : Int)).data (rd vs (i : Int)).data _ _ _ _ (hmu.of hs) (hmv.of hs) hdd) ?_; rintro _ w2 ⟨rfl, hs2⟩; replace hs := hs.and0 hs2; clear hs2; rw [hdq]) | refine LW_pure TOK rfl ?_) | (refine isLbin ?_; first | refine LW_i64 rfl (by omega) (by omega) ?_ | (refine LW_cmp rfl (fun _ => ?_) (fun _ => ?_) <;> try (exfalso; omega))) | refine LW_pure TOK rfl ?_) | (refine isDP ?_; first | (refine isDnil ?_; first | refine DP_end ?_ ?_) | (refine isDe rfl ?_; first | refine DP_eff rfl rfl ?_ ?_) | (refine isDg rfl ?_; first | refine DP_pass rfl rfl rfl rfl ?_) | (refine isDload rfl ?_; first | refine DP_loadRd ra (fun _ => rfl) hs TOK rfl rfl (by first | exact trivial | rfl) rfl (by assumption) rfl rfl (by omega) (by omega) rfl ?_ ?_ | refine DP_loadRd rb (fun _ => rfl) hs TOK rfl rfl (by first | exact trivial | rfl) rfl (by assumption) rfl rfl (by omega) (by omega) rfl ?_ ?_) | (refine isDidx rfl ?_; first | (refine DP_indexRd (ra.of hs) TOK rfl rfl (by first | exact trivial | rfl) rfl rfl rfl rfl rfl (by omega) (by omega) ?_; intro _ _ _) | (refine DP_indexRd (rb.of hs) TOK rfl rfl (by first | exact trivial | rfl) rfl rfl rfl rfl rfl (by omega) (by omega) ?_; intro _ _ _)) | refine DP_pure TOK rfl rfl (by first | exact trivial | rfl) rfl ?_) | (refine isI0 ?_; exact Inv.nil) | (refine isI1 ?_; first | refine Inv.keepB hs ?_) | (with_reducible first | refine then_n ?_ | refine CW_seq ?_ | refine CW_region ?_ | refine CW_block ?_ | refine CW_skip ?_ | refine CW_ret ?_ | refine then_r ?_ | refine blk_n ?_ | refine blk_r ?_) | refine CW_true rfl ?_ | refine CW_false rfl ?_ | (refine CW_drawP (id := 6) [22] [0, 1, 2, 3, 4, 5, 6, 7, 8, 9, 10, 11, 12, 13, 14, 15, 16, 17, 18, 19, 20, 21, 22, 23, 24] mixed (by kernel_rfl) hs ?_; clear hs; intro hs) | refine RET1 Try.results21 rfl ?_))
      · rw [hru, hrv] at hq
        exact ⟨by rw [decide_eq_false (hno fun e => hq (congrArg Prod.fst e))], hs⟩
      · rw [hru, hrv] at hq hde
        refine ⟨i + 1, _, FR_forget _ ⟨rfl, rfl, rfl, trivial⟩, ⟨hs, by omega, ?_⟩, by omega⟩
        rw [hxt, hyt, h2, show u.f = v.f from Prod.ext hq hde]
    · have hdq : decide ((rd us (i : Int)).data = (rd vs (i : Int)).data) = false := decide_eq_false hde
      rw [hru, hrv] at hde
      have hn2 : ¬ xs = ys := hno fun e => hde (congrArg Prod.snd e)
      (repeat' (first | refine DP_strNe (a := (rd us (i : Int)).n) (b := (rd vs (i : Int)).n) rfl rfl trivial rfl rfl rfl rfl (fun hq => ?_) (fun hq => ?_) | (refine isLW ?_; first | refine LW_nil ?_ | (refine isLg ?_; first | refine LW_take rfl ?_ | refine LW_pass rfl rfl ?_) | (refine isLcall ?_; first | (refine LW_call (cap := []) rfl rfl ent27 (alike_call _ (rd us (i : Int)).data (rd vs (i : Int)).data _ _ _ _ (hmu.of hs) (hmv.of hs) hdd) ?_; rintro _ w2 ⟨rfl, hs2⟩; replace hs := hs.and0 hs2; clear hs2; rw [hdq]) | refine LW_pure TOK rfl ?_) | (refine isLbin ?_; first | (refine LW_cmp rfl (fun _ => ?_) (fun _ => ?_) <;> try (exfalso; omega))) | refine LW_pure TOK rfl ?_) | (refine isDP ?_; first | (refine isDnil ?_; first | refine DP_end ?_ ?_) | (refine isDe rfl ?_; first | refine DP_eff rfl rfl ?_ ?_) | (refine isDg rfl ?_; first | refine DP_pass rfl rfl rfl rfl ?_) | (refine isDload rfl ?_; first | refine DP_loadRd ra (fun _ => rfl) hs TOK rfl rfl (by first | exact trivial | rfl) rfl (by assumption) rfl rfl (by omega) (by omega) rfl ?_ ?_ | refine DP_loadRd rb (fun _ => rfl) hs TOK rfl rfl (by first | exact trivial | rfl) rfl (by assumption) rfl rfl (by omega) (by omega) rfl ?_ ?_) | (refine isDidx rfl ?_; first | (refine DP_indexRd (ra.of hs) TOK rfl rfl (by first | exact trivial | rfl) rfl rfl rfl rfl rfl (by omega) (by omega) ?_; intro _ _ _) | (refine DP_indexRd (rb.of hs) TOK rfl rfl (by first | exact trivial | rfl) rfl rfl rfl rfl rfl (by omega) (by omega) ?_; intro _ _ _)) | refine DP_pure TOK rfl rfl (by first | exact trivial | rfl) rfl ?_) | (refine isI0 ?_; exact Inv.nil) | (refine isI1 ?_; first | refine Inv.keepB hs ?_) | (with_reducible first | refine then_n ?_ | refine CW_seq ?_ | refine CW_region ?_ | refine CW_block ?_ | refine CW_skip ?_ | refine CW_ret ?_ | refine then_r ?_ | refine blk_r ?_) | refine CW_true rfl ?_ | (refine CW_drawP (id := 6) [22] [0, 1, 2, 3, 4, 5, 6, 7, 8, 9, 10, 11, 12, 13, 14, 15, 16, 17, 18, 19, 20, 21, 22, 23, 24] mixed (by kernel_rfl) hs ?_; clear hs; intro hs) | refine RET1 Try.results21 rfl ?_))
      all_goals exact ⟨by rw [decide_eq_false hn2], hs⟩
  · (repeat' (first | (refine isLW ?_; first | refine LW_nil ?_ | (refine isLcall ?_; first | refine LW_pure TOK rfl ?_) | (refine isLbin ?_; first | (refine LW_cmp rfl (fun _ => ?_) (fun _ => ?_) <;> try (exfalso; omega))) | refine LW_pure TOK rfl ?_) | (with_reducible first | refine then_n ?_ | refine CW_seq ?_ | refine CW_region ?_ | refine CW_exit ?_ | refine CW_ret ?_ | refine then_e ?_ | refine blk_same ?_) | refine CW_false rfl ?_ | refine RET1 Try.results21 rfl ?_))
    have h9 : xs = ys := by rw [List.take_of_length_le (by omega), List.take_of_length_le (by omega)] at h2; exact h2
    exact ⟨by rw [decide_eq_true h9], hs⟩
theorem copies_call (w : World) (xs : List File) (A : Option Addr) (c : Nat) (ra : RdF w A xs) (hx : xs.length ≤ 2199023255552) (hd : ∀ f ∈ xs, f.2.length ≤ 140737488355328) :
    Calls Try.prog 16 [Value.slice A xs.length c].toArray w (Ret fun v w' => ∃ A' c', v = .slice A' xs.length c' ∧ Sat w w' [HF A' c' xs]) := by
  obtain ⟨us, hu, ra, ra2⟩ := ra
  have hul := len_of_map hu
  rw [← hul]
  rw [← hul] at hx
  refine Calls_of Try.func16 rfl 27 Try.ntmps16 rfl ?_
  have hs := (Sat.start w).nilRow 30 2
  replace hs : Sat w w [RowOf eF 30 2 none 0 ([] : List RF), Big (([] : List RF).map RF.P)] := (Sat.mkBig (l := []) hs).picks [1]
  (repeat' (first | (refine isLW ?_; first | refine LW_nil ?_ | refine LW_pure TOK rfl ?_) | (with_reducible first | refine then_n ?_ | refine CW_seq ?_ | refine CW_region ?_ | refine CW_block ?_)))
  refine CW_loop (γ := Option Addr × Nat × List RF) (fun g => [(0, .slice A us.length c), (3, .slice g.1 g.2.2.length g.2.1), (4, .int .i64 (g.2.2.length : Int))]) (fun g w' => Sat w w' [RowOf eF 30 2 g.1 g.2.1 g.2.2, Big (g.2.2.map RF.P)] ∧ g.2.2.length ≤ us.length ∧ g.2.2.map RF.f = xs.take g.2.2.length) (fun g => us.length - g.2.2.length) (none, 0, []) ⟨rfl, rfl, rfl, trivial⟩ ⟨hs, by simp, rfl⟩ ?_
  clear hs
  rintro ⟨A1, c1, rs⟩ τ w' ⟨hs, h1, h2⟩
  dsimp only at hs h1 h2 ⊢
  by_cases hlt : rs.length < us.length
  · have hru := rd_at hlt
    have hmu := ra2 _ (List.getElem_mem hlt)
    have hxi : xs[rs.length]'(by omega) = (us[rs.length]).f := by subst hu; rw [List.getElem_map]
    have hxt : xs.take (rs.length + 1) = xs.take rs.length ++ [(us[rs.length]).f] := by rw [List.take_add_one, List.getElem?_eq_getElem (by omega), hxi]; rfl
    have hdd := hd _ (List.getElem_mem (l := xs) (n := rs.length) (by omega))
    rw [hxi] at hdd
    rw [← hru] at hmu hxt hdd
    (repeat' (first | (refine isLW ?_; first | refine LW_nil ?_ | (refine isLcall ?_; first | (refine LW_call (cap := []) rfl rfl ent17 (copied_call _ (rd us (rs.length : Int)).data _ _ (hmu.of hs) hdd) ?_; rintro _ w2 ⟨A2, c2, rfl, hs2⟩; replace hs := hs.and1 hs2; clear hs2) | (refine LW_append1 1 eF_ok (z := ⟨(rd us (rs.length : Int)).n, A2, c2, (rd us (rs.length : Int)).data⟩) hs TOK rfl rfl rfl rfl rfl rfl rfl rfl rfl rfl (by unfold maxLen; omega) (by simp only []; omega) ?_; clear hs; intro A3 c3 w hs) | refine LW_pure TOK rfl ?_) | (refine isLbin ?_; first | refine LW_i64 rfl (by omega) (by omega) ?_ | (refine LW_cmp rfl (fun _ => ?_) (fun _ => ?_) <;> try (exfalso; omega))) | refine LW_pure TOK rfl ?_ | (refine LW_buildSlice TOK hs rfl rfl rfl rfl rfl rfl rfl ?_; clear hs; intro _ w hs)) | (refine isDP ?_; first | (refine isDnil ?_; first | refine DP_end ?_ ?_) | (refine isDe rfl ?_; first | refine DP_eff rfl rfl ?_ ?_) | (refine isDload rfl ?_; first | refine DP_loadRd ra (fun _ => rfl) hs TOK rfl rfl (by first | exact trivial | rfl) rfl (by assumption) rfl rfl (by omega) (by omega) rfl ?_ ?_) | (refine isDidx rfl ?_; first | (refine DP_indexRd (ra.of hs) TOK rfl rfl (by first | exact trivial | rfl) rfl rfl rfl rfl rfl (by omega) (by omega) ?_; intro _ _ _)) | refine DP_build TOK rfl rfl (by first | exact trivial | rfl) rfl rfl rfl rfl rfl rfl ?_ | refine DP_pure TOK rfl rfl (by first | exact trivial | rfl) rfl ?_) | (refine isI0 ?_; exact Inv.nil) | (refine isI1 ?_; first | refine Inv.keepB hs ?_) | (with_reducible first | refine then_n ?_ | refine CW_seq ?_ | refine CW_region ?_ | refine CW_block ?_ | refine CW_skip ?_ | refine blk_n ?_) | refine CW_true rfl ?_ | (refine CW_drawP (id := 5) [11, 13, 14] [0, 1, 2, 3, 4, 5, 6, 7, 8, 9, 10, 11, 12, 13, 14, 15] mixed (by kernel_rfl) hs ?_; clear hs; intro hs)))
    have h7 := (Sat.snocP (r := ⟨(rd us (rs.length : Int)).n, A2, c2, (rd us (rs.length : Int)).data⟩) (hs.picks [0, 1])).picks [1]
    have hlen : (rs ++ [(⟨(rd us (rs.length : Int)).n, A2, c2, (rd us (rs.length : Int)).data⟩ : RF)]).length = rs.length + 1 := by simp
    refine ⟨(A3, c3, rs ++ [(⟨(rd us (rs.length : Int)).n, A2, c2, (rd us (rs.length : Int)).data⟩ : RF)]), _, FR_forget _ ⟨rfl, rfl, ?_, trivial⟩, ⟨h7, ?_, ?_⟩, ?_⟩
    · show some (Value.int .i64 _) = some (Value.int .i64 _)
      rw [hlen]
      push_cast; rfl
    · dsimp only; rw [hlen]; omega
    · dsimp only; rw [hlen, hxt, List.map_append, h2]; rfl
    · dsimp only; rw [hlen]; omega
  · (repeat' (first | (refine isLW ?_; first | refine LW_nil ?_ | (refine isLcall ?_; first | refine LW_pure TOK rfl ?_) | (refine isLbin ?_; first | (refine LW_cmp rfl (fun _ => ?_) (fun _ => ?_) <;> try (exfalso; omega))) | refine LW_pure TOK rfl ?_) | (with_reducible first | refine then_n ?_ | refine CW_seq ?_ | refine CW_region ?_ | refine CW_exit ?_ | refine CW_ret ?_ | refine then_e ?_ | refine blk_same ?_) | refine CW_false rfl ?_ | refine RET1 Try.results16 rfl ?_))
    have he : rs.length = us.length := by omega
    have h9 : rs.map RF.f = xs := by rw [h2, List.take_of_length_le (by omega)]
    exact ⟨A1, c1, by rw [he], Sat.closeHF h9 hs⟩
/- SCRIPTS -/
/-- A cut-out of a script: an operation as it lies. -/
structure Op where
  kind : Int
  two : Bool
  a : Nm
  b : Nm
  n : Int
  dA : Option Addr
  dc : Nat
  data : List UInt8
  cA : Option Addr
  cc : Nat
  cuts : List (Int × Int)
  fA : Option Addr
  fc : Nat
  files : List File
  deriving Inhabited
def eO (o : Op) : List Value := [.int .i64 o.kind, .bool o.two, sv o.a, sv o.b, .int .i64 o.n, .slice o.dA o.data.length o.dc, .slice o.cA o.cuts.length o.cc, .slice o.fA o.files.length o.fc]
theorem eO_ok : (∀ x, (eO x).length = 8) ∧ ∀ x, ∀ u ∈ eO x, u.oneCell' = true := ⟨fun _ => rfl, fun x u h => by
  simp [eO] at h
  rcases h with rfl | rfl | rfl | rfl | rfl | rfl | rfl | rfl <;> rfl⟩
/-- The numbers of an operation are numbers, its texts and lists are no longer than memory. -/
structure Op.Ok (o : Op) : Prop where
  kind : -9223372036854775808 ≤ o.kind ∧ o.kind ≤ 9223372036854775807
  n : -9223372036854775808 ≤ o.n ∧ o.n ≤ 9223372036854775807
  a : o.a.length ≤ 140737488355328
  b : o.b.length ≤ 140737488355328
  data : o.data.length ≤ 140737488355328
  cuts : o.cuts.length ≤ 140737488355328
theorem changing_call (W w : World) (L : List HProp) (o : Op) (hs : Sat W w L) : Calls Try.prog 33 [Value.agg (eO o).toArray].toArray w (Ret fun v w' => v = .bool (decide (1 ≤ o.kind ∧ o.kind ≤ 7)) ∧ Sat W w' L) := by
  refine Calls_of Try.func33 rfl 11 Try.ntmps33 rfl ?_
  unfold eO
  (repeat' (first | (refine isLW ?_; first | refine LW_nil ?_ | (refine isLg ?_; first | refine LW_take rfl ?_ | refine LW_pass rfl rfl ?_) | (refine isLload ?_; first | refine LW_loadC 0 TOK hs rfl rfl rfl rfl rfl ?_) | (refine isLbin ?_; first | (refine LW_cmp rfl (fun _ => ?_) (fun _ => ?_) <;> try (exfalso; omega))) | refine LW_pure TOK rfl ?_ | (refine LW_box hs rfl rfl ?_; clear hs; intro _ w hs)) | (with_reducible first | refine then_n ?_ | refine CW_seq ?_ | refine CW_region ?_ | refine CW_ret ?_) | refine RET1 Try.results33 rfl ?_))
  · have h : 1 ≤ o.kind := by assumption
    have h2 : o.kind ≤ 7 := by assumption
    exact ⟨by rw [decide_eq_true ⟨h, h2⟩], hs.drop1⟩
  · have h2 : ¬ o.kind ≤ 7 := by assumption
    exact ⟨by rw [decide_eq_false (fun h => h2 h.2)], hs.drop1⟩
  · have h2 : ¬ 1 ≤ o.kind := by assumption
    exact ⟨by rw [decide_eq_false (fun h => h2 h.1)], hs.drop1⟩
end Go.Proofs.Ytoodgenbcfdloaa
