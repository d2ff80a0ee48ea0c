/- Walks: lists held against each other, copied; small ones. -/
import Derived.Test.YthhklkpkhaibcaaDoorG14
import Derived.Test.YthhklkpkhaibcaaDoorSlText2
set_option linter.unusedVariables false
set_option linter.unusedSimpArgs false
namespace Go.Proofs.YthhklkpkhaibcaaDoor
open Go Go.Sl Go.RowKit
set_option maxRecDepth 100000
attribute [local irreducible] CW LW DW FR DP Calls

theorem eq_of_takes {α : Type} {xs ys : List α} {i : Int} (hl : xs.length = ys.length) (h : xs.take i.toNat = ys.take i.toNat) (hge : ¬ i < (xs.length : Int)) : xs = ys := by
  rw [List.take_of_length_le (by omega), List.take_of_length_le (by omega)] at h; exact h
theorem take_next {α : Type} [Inhabited α] {xs ys : List α} {i : Int} (h0 : 0 ≤ i) (hx : i < xs.length) (hy : i < ys.length) (h : xs.take i.toNat = ys.take i.toNat) (he : rd xs i = rd ys i) : xs.take (i + 1).toNat = ys.take (i + 1).toNat := by
  have e : (i + 1).toNat = i.toNat + 1 := by omega
  rw [e, List.take_add_one, List.take_add_one, h, rd_get h0 hx, rd_get h0 hy, he]
theorem byte_ne {a b : UInt8} (h : ¬ (a.toNat : Int) = b.toNat) : ¬ a = b := fun e => h (by rw [e])
theorem byte_eq {a b : UInt8} (h : ¬ ¬ (a.toNat : Int) = b.toNat) : a = b := UInt8.toNat.inj (Int.ofNat.inj (Classical.byContradiction h))
theorem alike_call (w : World) (xs ys : List UInt8) (A B : Option Addr) (c c' : Nat) (ra : Rd eB w A xs) (rb : Rd eB w B ys) (hx : xs.length ≤ 4611686018427387904) :
    Calls Tryd.prog 22 [Value.slice A xs.length c, Value.slice B ys.length c'].toArray w (Ret fun v w' => v = .bool (decide (xs = ys)) ∧ Sat w w' []) := by
  refine Calls_of Tryd.func22 rfl 26 Tryd.ntmps22 rfl ?_
  have hs := Sat.start w
  (repeat' (first | (refine isLW ?_; first | refine LW_nil ?_ | (refine isLcall ?_; first | refine LW_pure TOK rfl ?_) | (refine isLbin ?_; first | (refine LW_cmp rfl (fun _ => ?_) (fun _ => ?_) <;> try (exfalso; omega))) | refine LW_pure TOK rfl ?_) | (with_reducible first | refine then_n ?_ | refine CW_seq ?_ | refine CW_region ?_ | refine CW_block ?_ | refine CW_skip ?_ | refine CW_ret ?_ | refine then_r ?_) | refine CW_true rfl ?_ | refine CW_false rfl ?_ | refine RET1 Tryd.results22 rfl ?_))
  · have hne : ¬ (xs.length : Int) = ys.length := by assumption
    exact ⟨by rw [decide_eq_false (fun e => hne (by rw [e]))], hs⟩
  have hl : xs.length = ys.length := by omega
  refine CW_loop (γ := Int) (fun g => [(0, .slice A xs.length c), (1, .slice B ys.length c'), (5, .int .i64 g)]) (fun g w' => Sat w w' [] ∧ 0 ≤ g ∧ g ≤ xs.length ∧ xs.take g.toNat = ys.take g.toNat) (fun g => (xs.length - g).toNat) 0 ⟨rfl, rfl, rfl, trivial⟩ ⟨hs, by omega, by omega, rfl⟩ ?_
  clear hs
  rintro i τ w' ⟨hs, h0, h1, h2⟩
  try dsimp only
  (repeat' (first | (refine isLW ?_; first | refine LW_nil ?_ | (refine isLcall ?_; first | refine LW_pure TOK rfl ?_) | (refine isLbin ?_; first | refine LW_i64 rfl (by omega) (by omega) ?_ | (refine LW_cmp rfl (fun _ => ?_) (fun _ => ?_) <;> try (exfalso; omega))) | refine LW_pure TOK rfl ?_) | (refine isDP ?_; first | (refine isDnil ?_; first | refine DP_end ?_ ?_) | (refine isDload rfl ?_; first | refine DP_loadRd0 ra (fun _ => rfl) hs TOK rfl rfl (by first | exact trivial | rfl) rfl (by assumption) rfl rfl (by omega) (by omega) rfl ?_ ?_ | refine DP_loadRd0 rb (fun _ => rfl) hs TOK rfl rfl (by first | exact trivial | rfl) rfl (by assumption) rfl rfl (by omega) (by omega) rfl ?_ ?_) | (refine isDidx rfl ?_; first | (refine DP_indexRd (ra.of hs) TOK rfl rfl (by first | exact trivial | rfl) rfl rfl rfl rfl rfl (by omega) (by omega) ?_; intro _ _ _) | (refine DP_indexRd (rb.of hs) TOK rfl rfl (by first | exact trivial | rfl) rfl rfl rfl rfl rfl (by omega) (by omega) ?_; intro _ _ _)) | (refine isDbin rfl ?_; first | (refine DP_cmp rfl rfl (by first | exact trivial | rfl) rfl (fun _ => ?_) (fun _ => ?_) <;> try (exfalso; omega))) | refine DP_pure TOK rfl rfl (by first | exact trivial | rfl) rfl ?_) | (refine isI0 ?_; exact Inv.nil) | (refine isI1 ?_; first | refine Inv.keepB hs ?_) | (with_reducible first | refine then_n ?_ | refine CW_seq ?_ | refine CW_region ?_ | refine CW_block ?_ | refine CW_skip ?_ | refine CW_exit ?_ | refine CW_ret ?_ | refine then_e ?_ | refine then_r ?_ | refine blk_n ?_ | refine blk_r ?_ | refine blk_same ?_) | refine CW_true rfl ?_ | refine CW_false rfl ?_ | (refine CW_drawP (id := 6) [] [0, 1, 2, 3, 4, 5, 6, 7, 8] mixed (by kernel_rfl) hs ?_; clear hs; intro hs) | refine RET1 Tryd.results22 rfl ?_))
  · have hne := byte_ne (by assumption)
    have hlt : i < xs.length := by assumption
    refine ⟨by rw [decide_eq_false (fun e => hne (by rw [e]))], hs⟩
  · have he := byte_eq (by assumption)
    have hlt : i < xs.length := by assumption
    exact ⟨i + 1, _, FR_forget _ ⟨rfl, rfl, rfl, trivial⟩, ⟨hs, by omega, by omega, take_next h0 hlt (by omega) h2 he⟩, by omega⟩
  · have hge : ¬ i < (xs.length : Int) := by assumption
    exact ⟨by rw [decide_eq_true (eq_of_takes hl h2 hge)], hs⟩
theorem len_of_map {rs : List RF} {l : List File} (h : rs.map RF.f = l) : rs.length = l.length := by rw [← h, List.length_map]
set_option maxHeartbeats 1000000 in
theorem filesAlike_call (w : World) (xs ys : List File) (A B : Option Addr) (c c' : Nat) (ra : RdF w A xs) (rb : RdF w B ys) (hx : xs.length ≤ 4611686018427387904) (hd : ∀ f ∈ xs, f.2.length ≤ 4611686018427387904) :
    Calls Tryd.prog 24 [Value.slice A xs.length c, Value.slice B ys.length c'].toArray w (Ret fun v w' => v = .bool (decide (xs = ys)) ∧ Sat w w' []) := by
  obtain ⟨us, hu, ra, ra2⟩ := ra
  obtain ⟨vs, hv, rb, rb2⟩ := rb
  have hul := len_of_map hu
  have hvl := len_of_map hv
  rw [← hul, ← hvl]
  rw [← hul] at hx
  refine Calls_of Tryd.func24 rfl 42 Tryd.ntmps24 rfl ?_
  have hs := Sat.start w
  (repeat' (first | (refine isLW ?_; first | refine LW_nil ?_ | (refine isLcall ?_; first | refine LW_pure TOK rfl ?_) | (refine isLbin ?_; first | (refine LW_cmp rfl (fun _ => ?_) (fun _ => ?_) <;> try (exfalso; omega))) | refine LW_pure TOK rfl ?_) | (with_reducible first | refine then_n ?_ | refine CW_seq ?_ | refine CW_region ?_ | refine CW_block ?_ | refine CW_skip ?_ | refine CW_ret ?_ | refine then_r ?_) | refine CW_true rfl ?_ | refine CW_false rfl ?_ | refine RET1 Tryd.results24 rfl ?_))
  · have hne : ¬ (us.length : Int) = vs.length := by assumption
    exact ⟨by rw [decide_eq_false (fun e => hne (by rw [hul, hvl, e]))], hs⟩
  have hl : us.length = vs.length := by omega
  refine CW_loop (γ := Nat) (fun g => [(0, .slice A us.length c), (1, .slice B vs.length c'), (5, .int .i64 (g : Int))]) (fun g w' => Sat w w' [] ∧ g ≤ us.length ∧ xs.take g = ys.take g) (fun g => us.length - g) 0 ⟨rfl, rfl, rfl, trivial⟩ ⟨hs, by omega, rfl⟩ ?_
  clear hs
  rintro i τ w' ⟨hs, h1, h2⟩
  try dsimp only at h1 h2 ⊢
  by_cases hlt : i < us.length
  · have hlv : i < vs.length := by omega
    have hru := rd_at hlt
    have hrv := rd_at hlv
    have hmu := ra2 _ (List.getElem_mem hlt)
    have hmv := rb2 _ (List.getElem_mem hlv)
    have hxi : xs[i]'(by omega) = (us[i]).f := by subst hu; rw [List.getElem_map]
    have hyi : ys[i]'(by omega) = (vs[i]).f := by subst hv; rw [List.getElem_map]
    have hxt : xs.take (i + 1) = xs.take i ++ [(us[i]).f] := by rw [List.take_add_one, List.getElem?_eq_getElem (by omega), hxi]; rfl
    have hyt : ys.take (i + 1) = ys.take i ++ [(vs[i]).f] := by rw [List.take_add_one, List.getElem?_eq_getElem (by omega), hyi]; rfl
    have hdd := hd _ (List.getElem_mem (l := xs) (n := i) (by omega))
    rw [hxi] at hdd
    obtain ⟨u, hu'⟩ : ∃ u, us[i] = u := ⟨_, rfl⟩
    obtain ⟨v, hv'⟩ : ∃ v, vs[i] = v := ⟨_, rfl⟩
    rw [hu'] at hru hmu hxi hxt hdd
    rw [hv'] at hrv hmv hyi hyt
    have hno : ¬ u.f = v.f → ¬ xs = ys := fun h e => h (by rw [← hxi, ← hyi]; subst e; rfl)
    have hmu : Rd eB w (rd us (i : Int)).A (rd us (i : Int)).data := by rw [hru]; exact hmu
    have hmv : Rd eB w (rd vs (i : Int)).A (rd vs (i : Int)).data := by rw [hrv]; exact hmv
    have hdd : (rd us (i : Int)).data.length ≤ 4611686018427387904 := by rw [hru]; exact hdd
    by_cases hde : (rd us (i : Int)).data = (rd vs (i : Int)).data
    · have hdq : decide ((rd us (i : Int)).data = (rd vs (i : Int)).data) = true := decide_eq_true hde
      (repeat' (first | refine DP_strNe (a := (rd us (i : Int)).n) (b := (rd vs (i : Int)).n) rfl rfl trivial rfl rfl rfl rfl (fun hq => ?_) (fun hq => ?_) | (refine isLW ?_; first | refine LW_nil ?_ | (refine isLg ?_; first | refine LW_take rfl ?_ | refine LW_pass rfl rfl ?_) | (refine isLcall ?_; first | (refine LW_call (cap := []) rfl rfl ent22 (alike_call _ (rd us (i : Int)).data (rd vs (i : Int)).data _ _ _ _ (hmu.of hs) (hmv.of hs) hdd) ?_; rintro _ w2 ⟨rfl, hs2⟩; replace hs := hs.and0 hs2; clear hs2; rw [hdq]) | refine LW_pure TOK rfl ?_) | (refine isLbin ?_; first | refine LW_i64 rfl (by omega) (by omega) ?_ | (refine LW_cmp rfl (fun _ => ?_) (fun _ => ?_) <;> try (exfalso; omega))) | refine LW_pure TOK rfl ?_) | (refine isDP ?_; first | (refine isDnil ?_; first | refine DP_end ?_ ?_) | (refine isDe rfl ?_; first | refine DP_eff rfl rfl ?_ ?_) | (refine isDg rfl ?_; first | refine DP_pass rfl rfl rfl rfl ?_) | (refine isDload rfl ?_; first | refine DP_loadRd ra (fun _ => rfl) hs TOK rfl rfl (by first | exact trivial | rfl) rfl (by assumption) rfl rfl (by omega) (by omega) rfl ?_ ?_ | refine DP_loadRd rb (fun _ => rfl) hs TOK rfl rfl (by first | exact trivial | rfl) rfl (by assumption) rfl rfl (by omega) (by omega) rfl ?_ ?_) | (refine isDidx rfl ?_; first | (refine DP_indexRd (ra.of hs) TOK rfl rfl (by first | exact trivial | rfl) rfl rfl rfl rfl rfl (by omega) (by omega) ?_; intro _ _ _) | (refine DP_indexRd (rb.of hs) TOK rfl rfl (by first | exact trivial | rfl) rfl rfl rfl rfl rfl (by omega) (by omega) ?_; intro _ _ _)) | refine DP_pure TOK rfl rfl (by first | exact trivial | rfl) rfl ?_) | (refine isI0 ?_; exact Inv.nil) | (refine isI1 ?_; first | refine Inv.keepB hs ?_) | (with_reducible first | refine then_n ?_ | refine CW_seq ?_ | refine CW_region ?_ | refine CW_block ?_ | refine CW_skip ?_ | refine CW_ret ?_ | refine then_r ?_ | refine blk_n ?_ | refine blk_r ?_) | refine CW_true rfl ?_ | refine CW_false rfl ?_ | (refine CW_drawP (id := 6) [22] [0, 1, 2, 3, 4, 5, 6, 7, 8, 9, 10, 11, 12, 13, 14, 15, 16, 17, 18, 19, 20, 21, 22, 23, 24] mixed (by kernel_rfl) hs ?_; clear hs; intro hs) | refine RET1 Tryd.results24 rfl ?_))
      · rw [hru, hrv] at hq
        exact ⟨by rw [decide_eq_false (hno fun e => hq (congrArg Prod.fst e))], hs⟩
      · rw [hru, hrv] at hq hde
        refine ⟨i + 1, _, FR_forget _ ⟨rfl, rfl, rfl, trivial⟩, ⟨hs, by omega, ?_⟩, by omega⟩
        rw [hxt, hyt, h2, show u.f = v.f from Prod.ext hq hde]
    · have hdq : decide ((rd us (i : Int)).data = (rd vs (i : Int)).data) = false := decide_eq_false hde
      rw [hru, hrv] at hde
      have hn2 : ¬ xs = ys := hno fun e => hde (congrArg Prod.snd e)
      (repeat' (first | refine DP_strNe (a := (rd us (i : Int)).n) (b := (rd vs (i : Int)).n) rfl rfl trivial rfl rfl rfl rfl (fun hq => ?_) (fun hq => ?_) | (refine isLW ?_; first | refine LW_nil ?_ | (refine isLg ?_; first | refine LW_take rfl ?_ | refine LW_pass rfl rfl ?_) | (refine isLcall ?_; first | (refine LW_call (cap := []) rfl rfl ent22 (alike_call _ (rd us (i : Int)).data (rd vs (i : Int)).data _ _ _ _ (hmu.of hs) (hmv.of hs) hdd) ?_; rintro _ w2 ⟨rfl, hs2⟩; replace hs := hs.and0 hs2; clear hs2; rw [hdq]) | refine LW_pure TOK rfl ?_) | (refine isLbin ?_; first | (refine LW_cmp rfl (fun _ => ?_) (fun _ => ?_) <;> try (exfalso; omega))) | refine LW_pure TOK rfl ?_) | (refine isDP ?_; first | (refine isDnil ?_; first | refine DP_end ?_ ?_) | (refine isDe rfl ?_; first | refine DP_eff rfl rfl ?_ ?_) | (refine isDg rfl ?_; first | refine DP_pass rfl rfl rfl rfl ?_) | (refine isDload rfl ?_; first | refine DP_loadRd ra (fun _ => rfl) hs TOK rfl rfl (by first | exact trivial | rfl) rfl (by assumption) rfl rfl (by omega) (by omega) rfl ?_ ?_ | refine DP_loadRd rb (fun _ => rfl) hs TOK rfl rfl (by first | exact trivial | rfl) rfl (by assumption) rfl rfl (by omega) (by omega) rfl ?_ ?_) | (refine isDidx rfl ?_; first | (refine DP_indexRd (ra.of hs) TOK rfl rfl (by first | exact trivial | rfl) rfl rfl rfl rfl rfl (by omega) (by omega) ?_; intro _ _ _) | (refine DP_indexRd (rb.of hs) TOK rfl rfl (by first | exact trivial | rfl) rfl rfl rfl rfl rfl (by omega) (by omega) ?_; intro _ _ _)) | refine DP_pure TOK rfl rfl (by first | exact trivial | rfl) rfl ?_) | (refine isI0 ?_; exact Inv.nil) | (refine isI1 ?_; first | refine Inv.keepB hs ?_) | (with_reducible first | refine then_n ?_ | refine CW_seq ?_ | refine CW_region ?_ | refine CW_block ?_ | refine CW_skip ?_ | refine CW_ret ?_ | refine then_r ?_ | refine blk_r ?_) | refine CW_true rfl ?_ | (refine CW_drawP (id := 6) [22] [0, 1, 2, 3, 4, 5, 6, 7, 8, 9, 10, 11, 12, 13, 14, 15, 16, 17, 18, 19, 20, 21, 22, 23, 24] mixed (by kernel_rfl) hs ?_; clear hs; intro hs) | refine RET1 Tryd.results24 rfl ?_))
      all_goals exact ⟨by rw [decide_eq_false hn2], hs⟩
  · (repeat' (first | (refine isLW ?_; first | refine LW_nil ?_ | (refine isLcall ?_; first | refine LW_pure TOK rfl ?_) | (refine isLbin ?_; first | (refine LW_cmp rfl (fun _ => ?_) (fun _ => ?_) <;> try (exfalso; omega))) | refine LW_pure TOK rfl ?_) | (with_reducible first | refine then_n ?_ | refine CW_seq ?_ | refine CW_region ?_ | refine CW_exit ?_ | refine CW_ret ?_ | refine then_e ?_ | refine blk_same ?_) | refine CW_false rfl ?_ | refine RET1 Tryd.results24 rfl ?_))
    have h9 : xs = ys := by rw [List.take_of_length_le (by omega), List.take_of_length_le (by omega)] at h2; exact h2
    exact ⟨by rw [decide_eq_true h9], hs⟩
/-- A cut-out of a script: an operation as it lies. -/
structure Op where
  kind : Int
  two : Bool
  a : Nm
  b : Nm
  n : Int
  dA : Option Addr
  dc : Nat
  data : List UInt8
  cA : Option Addr
  cc : Nat
  cuts : List (Int × Int)
  fA : Option Addr
  fc : Nat
  files : List File
  deriving Inhabited
def eO (o : Op) : List Value := [.int .i64 o.kind, .bool o.two, sv o.a, sv o.b, .int .i64 o.n, .slice o.dA o.data.length o.dc, .slice o.cA o.cuts.length o.cc, .slice o.fA o.files.length o.fc]
theorem eO_ok : (∀ x, (eO x).length = 8) ∧ ∀ x, ∀ u ∈ eO x, u.oneCell' = true := ⟨fun _ => rfl, fun x u h => by
  simp [eO] at h
  rcases h with rfl | rfl | rfl | rfl | rfl | rfl | rfl | rfl <;> rfl⟩
/-- The numbers of an operation are numbers, its texts and lists are no longer than memory. -/
structure Op.Ok (o : Op) : Prop where
  kind : -9223372036854775808 ≤ o.kind ∧ o.kind ≤ 9223372036854775807
  n : -9223372036854775808 ≤ o.n ∧ o.n ≤ 9223372036854775807
  a : o.a.length ≤ 140737488355328
  b : o.b.length ≤ 140737488355328
  data : o.data.length ≤ 140737488355328
  cuts : o.cuts.length ≤ 140737488355328
end Go.Proofs.YthhklkpkhaibcaaDoor
