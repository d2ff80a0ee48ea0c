/- Walks of the library's stable sort, whole. -/
import Derived.Test.YtbmeafeojcgndaaDoorV21
import Derived.Test.YtbmeafeojcgndaaDoorSlText2
set_option linter.unusedVariables false
set_option linter.unusedSimpArgs false
namespace Go.Proofs.YtbmeafeojcgndaaDoor
open Go Go.Sl Go.RowKit
set_option maxRecDepth 100000
attribute [local irreducible] CW LW DW FR DP Calls Res Ret
theorem PlOK.perm {ns : List (List UInt8)} {X Y : List Int} (h : PlOK ns X) (p : Y.Perm X) : PlOK ns Y := fun z hz => h z (p.mem_iff.1 hz)
theorem flat_snoc (D : List (List Int)) (z : List Int) : (D ++ [z]).flatten = D.flatten ++ z := by simp
theorem mem_snoc {α : Type} {p : α → Prop} {D : List α} {z : α} (h : ∀ x ∈ D, p x) (hz : p z) : ∀ x ∈ D ++ [z], p x := fun x hx => by
  rcases List.mem_append.1 hx with hx | hx
  · exact h x hx
  · rw [List.mem_singleton.1 hx]; exact hz
section
variable {W : World} {ns : List (List UInt8)} {NA : Option Addr} {nc bx : Nat} {L : List HProp}
set_option maxHeartbeats 4000000 in
theorem stable_call (rn : Rd eN W NA ns) (hnl : ns.length ≤ 140737488355328) (w : World) (X : List Int) (A : Option Addr) (c n : Nat) (hn : n = X.length) (hl : n ≤ 35184372088832) (hs : Sat W w (RowOf eI 3 1 A c X :: Cl bx [.slice NA ns.length nc] 28 :: L)) (hp : PlOK ns X) :
    Calls Tryd.prog 83 [Value.slice A n c, .int .i64 (n : Int), .func (.func 68) #[] #[.pointer (some ⟨bx, 0, none⟩)]].toArray w (Ret fun v w' => v = .tuple #[] ∧ ∃ Z, Z.Perm X ∧ Srtd ns Z ∧ Sat W w' (RowOf eI 3 1 A c Z :: Cl bx [.slice NA ns.length nc] 28 :: L)) := by
  refine Calls_of Tryd.func83 rfl 63 Tryd.ntmps83 rfl ?_
  (repeat' (first | (refine isLW ?_; first | refine LW_nil ?_ | refine LW_pure TOK rfl ?_) | (with_reducible first | refine then_n ?_ | refine CW_seq ?_ | refine CW_region ?_ | refine CW_block ?_)))
  refine CW_loop (γ := List (List Int) × List Int) (fun g => [(0, .slice A n c), (1, .int .i64 (n : Int)), (2, .func (.func 68) #[] #[.pointer (some ⟨bx, 0, none⟩)]), (6, .int .i64 20), (7, .int .i64 (g.1.flatten.length : Int)), (8, .int .i64 ((g.1.flatten.length : Int) + 20))]) (fun g w' => Sat W w' (RowOf eI 3 1 A c (g.1.flatten ++ g.2) :: Cl bx [.slice NA ns.length nc] 28 :: L) ∧ (∀ x ∈ g.1, x.length = 20) ∧ (∀ x ∈ g.1, Srtd ns x) ∧ (g.1.flatten ++ g.2).Perm X) (fun g => g.2.length) ([], X) ⟨rfl, rfl, rfl, rfl, rfl, rfl, trivial⟩ ⟨hs, by simp, by simp, List.Perm.refl _⟩ ?_
  clear hs
  rintro ⟨D, R⟩ τ w1 ⟨hs, h1, h2, h3⟩
  dsimp only at hs h1 h2 h3 ⊢
  have hlen := h3.length_eq
  rw [List.length_append] at hlen
  by_cases hR : 20 ≤ R.length
  · have ht : (R.take 20).length = 20 := by rw [List.length_take]; omega
    have hd : (R.drop 20).length = R.length - 20 := List.length_drop
    have hs2 : Sat W w1 (RowOf eI 3 1 A c (D.flatten ++ (R.take 20 ++ R.drop 20)) :: Cl bx [.slice NA ns.length nc] 28 :: L) := by rw [List.take_append_drop]; exact hs
    (repeat' (first | (refine isLW ?_; first | refine LW_nil ?_ | (refine isLcall ?_; first | (refine LW_call (cap := []) rfl rfl ent96 (insSort_call _ D.flatten (R.take 20) (R.drop 20) A c n _ _ (by omega) rfl (by omega) hs2 rn (by rw [List.take_append_drop]; exact hp.perm h3) (by omega) hnl) ?_; clear hs hs2; rintro _ w2 ⟨rfl, X', p1, p2, hs⟩)) | (refine isLbin ?_; first | refine LW_i64 rfl (by omega) (by omega) ?_ | (refine LW_cmp rfl (fun _ => ?_) (fun _ => ?_) <;> try (exfalso; omega))) | refine LW_pure TOK rfl ?_) | (with_reducible first | refine then_n ?_ | refine CW_seq ?_ | refine CW_region ?_ | refine CW_block ?_ | refine CW_skip ?_ | refine blk_n ?_) | refine CW_true rfl ?_))
    have e := flat_snoc D X'
    have hx := p1.length_eq
    refine ⟨((D ++ [X'], R.drop 20) : List (List Int) × List Int), _, FR_forget _ ⟨rfl, rfl, rfl, rfl, ?_, ?_, trivial⟩, ⟨by dsimp only; rw [e, List.append_assoc]; exact hs, mem_snoc h1 (by omega), mem_snoc h2 p2, ?_⟩, by dsimp only; omega⟩
    · show some (Value.int .i64 ((D.flatten.length : Int) + 20)) = some (Value.int .i64 (((D ++ [X']).flatten.length : Nat) : Int))
      rw [e, List.length_append]; congr 2; omega
    · show some (Value.int .i64 ((D.flatten.length : Int) + 20 + 20)) = some (Value.int .i64 ((((D ++ [X']).flatten.length : Nat) : Int) + 20))
      rw [e, List.length_append]; congr 2; omega
    · dsimp only
      rw [e, List.append_assoc]
      refine List.Perm.trans (List.Perm.append_left _ ?_) h3
      have := p1.append_right (R.drop 20)
      rwa [List.take_append_drop] at this
  · have hs2 : Sat W w1 (RowOf eI 3 1 A c (D.flatten ++ (R ++ [])) :: Cl bx [.slice NA ns.length nc] 28 :: L) := by rw [List.append_nil]; exact hs
    (repeat' (first | (refine isLW ?_; first | refine LW_nil ?_ | (refine isLcall ?_; first | (refine LW_call (cap := []) rfl rfl ent96 (insSort_call _ D.flatten R [] A c n _ _ (by simp only [List.length_nil]; omega) rfl (by omega) hs2 rn (by rw [List.append_nil]; exact hp.perm h3) (by omega) hnl) ?_; clear hs hs2; rintro _ w2 ⟨rfl, R', p1, p2, hs⟩; rw [List.append_nil] at hs)) | (refine isLbin ?_; first | (refine LW_cmp rfl (fun _ => ?_) (fun _ => ?_) <;> try (exfalso; omega))) | refine LW_pure TOK rfl ?_) | (with_reducible first | refine then_n ?_ | refine CW_seq ?_ | refine CW_region ?_ | refine CW_block ?_ | refine CW_exit ?_ | refine then_e ?_ | refine blk_same ?_) | refine CW_false rfl ?_))
    have hx := p1.length_eq
    obtain ⟨B0, hB0, f1, f2, f3⟩ : ∃ B0 : List (List Int), B0.flatten = D.flatten ++ R' ∧ Shp 20 B0 ∧ (∀ x ∈ B0, Srtd ns x) ∧ B0.flatten.Perm X := by
      have hpp : (D.flatten ++ R').Perm X := (List.Perm.append_left _ p1).trans h3
      rcases hR' : R' with _ | ⟨x, l⟩
      · rw [hR'] at hpp
        have := shp_app (k := 20) (by omega) h1 (T := []) trivial
        rw [List.append_nil] at this
        exact ⟨D, by simp, this, h2, by simpa using hpp⟩
      · rw [hR'] at hpp hx p2
        have := shp_app (k := 20) (by omega) h1 (T := [x :: l]) ⟨by simp, by omega⟩
        exact ⟨D ++ [x :: l], flat_snoc D _, this, mem_snoc h2 p2, by rw [flat_snoc]; exact hpp⟩
    rw [← hB0] at hs
    clear hB0 hx p1 p2 h1 h2 h3 hlen hR
    refine CW_loop (γ := Nat × List (List Int)) (fun g => [(0, .slice A n c), (1, .int .i64 (n : Int)), (2, .func (.func 68) #[] #[.pointer (some ⟨bx, 0, none⟩)]), (6, .int .i64 (g.1 : Int))]) (fun g w' => Sat W w' (RowOf eI 3 1 A c g.2.flatten :: Cl bx [.slice NA ns.length nc] 28 :: L) ∧ 0 < g.1 ∧ Shp g.1 g.2 ∧ (∀ x ∈ g.2, Srtd ns x) ∧ g.2.flatten.Perm X) (fun g => n - g.1) (20, B0) ⟨rfl, rfl, rfl, rfl, trivial⟩ ⟨hs, by simp, f1, f2, f3⟩ ?_
    clear hs f1 f2 f3 B0
    rintro ⟨k, B0⟩ τ w3 ⟨hs, h0, f1, f2, f3⟩
    dsimp only at hs h0 f1 f2 f3 ⊢
    have hBl := f3.length_eq
    by_cases hk : k < n
    · (repeat' (first | (refine isLW ?_; first | refine LW_nil ?_ | (refine isLbin ?_; first | refine LW_i64 rfl (by omega) (by omega) ?_ | (refine LW_cmp rfl (fun _ => ?_) (fun _ => ?_) <;> try (exfalso; omega))) | refine LW_pure TOK rfl ?_) | (with_reducible first | refine then_n ?_ | refine CW_seq ?_ | refine CW_region ?_ | refine CW_block ?_ | refine CW_skip ?_) | refine CW_true rfl ?_))
      refine CW_loop (γ := List (List Int) × List (List Int)) (fun g => [(0, .slice A n c), (1, .int .i64 (n : Int)), (2, .func (.func 68) #[] #[.pointer (some ⟨bx, 0, none⟩)]), (6, .int .i64 (k : Int)), (7, .int .i64 (g.1.flatten.length : Int)), (8, .int .i64 ((g.1.flatten.length : Int) + 2 * (k : Int)))]) (fun g w' => Sat W w' (RowOf eI 3 1 A c (g.1.flatten ++ g.2.flatten) :: Cl bx [.slice NA ns.length nc] 28 :: L) ∧ (∀ x ∈ g.1, x.length = 2 * k) ∧ (∀ x ∈ g.1, Srtd ns x) ∧ Shp k g.2 ∧ (∀ x ∈ g.2, Srtd ns x) ∧ (g.1.flatten ++ g.2.flatten).Perm X) (fun g => g.2.length) ([], B0) ⟨rfl, rfl, rfl, rfl, rfl, by show some (Value.int .i64 (2 * (k : Int))) = some (Value.int .i64 (((0 : Nat) : Int) + 2 * (k : Int))); congr 2; omega, trivial⟩ ⟨hs, by simp, by simp, f1, f2, f3⟩ ?_
      clear hs f1 f2 f3 hBl B0
      rintro ⟨D, R⟩ τ w4 ⟨hs, g1, g2, g3, g4, g5⟩
      dsimp only at hs g1 g2 g3 g4 g5 ⊢
      have hlen := g5.length_eq
      rw [List.length_append] at hlen
      by_cases hR : 2 * k ≤ R.flatten.length
      · obtain ⟨x, y, R', rfl, lx, ly, g6⟩ := shp_two h0 g3 hR
        have eR : (x :: y :: R').flatten = x ++ (y ++ R'.flatten) := by simp
        rw [eR] at hs hlen g5
        simp only [List.length_append] at hlen
        rw [eR] at hR
        simp only [List.length_append] at hR
        (repeat' (first | (refine isLW ?_; first | refine LW_nil ?_ | (refine isLcall ?_; first | (refine LW_call (cap := []) rfl rfl ent97 (symMerge_call rn hnl (x.length + y.length) _ D.flatten x y R'.flatten A c n _ _ _ (by omega) (Nat.le_refl _) (by omega) rfl (by omega) (by omega) (by omega) (by omega) (g4 x (by simp)) (g4 y (by simp)) hs (hp.perm g5)) ?_; clear hs; rintro _ w2 ⟨rfl, Z, p1, p2, hs⟩)) | (refine isLbin ?_; first | refine LW_i64 rfl (by omega) (by omega) ?_ | (refine LW_cmp rfl (fun _ => ?_) (fun _ => ?_) <;> try (exfalso; omega))) | refine LW_pure TOK rfl ?_) | (with_reducible first | refine then_n ?_ | refine CW_seq ?_ | refine CW_region ?_ | refine CW_block ?_ | refine CW_skip ?_ | refine blk_n ?_) | refine CW_true rfl ?_))
        have hz := p1.length_eq
        rw [List.length_append] at hz
        have e := flat_snoc D Z
        refine ⟨((D ++ [Z], R') : List (List Int) × List (List Int)), _, FR_forget _ ⟨rfl, rfl, rfl, rfl, ?_, ?_, trivial⟩, ⟨by dsimp only; rw [e, List.append_assoc]; exact hs, mem_snoc g1 (by omega), mem_snoc g2 p2, g6, fun z hz => g4 z (by simp [hz]), ?_⟩, by dsimp only; simp only [List.length_cons]; omega⟩
        · show some (Value.int .i64 ((D.flatten.length : Int) + 2 * (k : Int))) = some (Value.int .i64 (((D ++ [Z]).flatten.length : Nat) : Int))
          rw [e, List.length_append]; congr 2; omega
        · show some (Value.int .i64 ((D.flatten.length : Int) + 2 * (k : Int) + 2 * (k : Int))) = some (Value.int .i64 ((((D ++ [Z]).flatten.length : Nat) : Int) + 2 * (k : Int)))
          rw [e, List.length_append]; congr 2; omega
        · dsimp only
          rw [e, List.append_assoc]
          refine List.Perm.trans (List.Perm.append_left _ ?_) g5
          rw [← List.append_assoc]
          exact p1.append_right _
      · have done : ∀ (T : List (List Int)), Shp (2 * k) T → (∀ x ∈ T, Srtd ns x) → (D.flatten ++ T.flatten).Perm X → ∀ w5, Sat W w5 (RowOf eI 3 1 A c (D.flatten ++ T.flatten) :: Cl bx [.slice NA ns.length nc] 28 :: L) → Sat W w5 (RowOf eI 3 1 A c (D ++ T).flatten :: Cl bx [.slice NA ns.length nc] 28 :: L) ∧ 0 < 2 * k ∧ Shp (2 * k) (D ++ T) ∧ (∀ x ∈ D ++ T, Srtd ns x) ∧ (D ++ T).flatten.Perm X := fun T t1 t2 t3 w5 hs => by
          have e : (D ++ T).flatten = D.flatten ++ T.flatten := by simp
          refine ⟨by rw [e]; exact hs, by omega, shp_app (by omega) g1 t1, fun x hx => ?_, by rw [e]; exact t3⟩
          rcases List.mem_append.1 hx with hx | hx
          · exact g2 x hx
          · exact t2 x hx
        rcases shp_few h0 g3 (by omega) with rfl | ⟨x, rfl, l1, l2⟩ | ⟨x, y, rfl, l1, l2, l3⟩
        · simp only [List.flatten_nil, List.length_nil] at hlen
          (repeat' (first | (refine isLW ?_; first | refine LW_nil ?_ | (refine isLbin ?_; first | refine LW_i64 rfl (by omega) (by omega) ?_ | (refine LW_cmp rfl (fun _ => ?_) (fun _ => ?_) <;> try (exfalso; omega))) | refine LW_pure TOK rfl ?_) | (with_reducible first | refine then_n ?_ | refine CW_seq ?_ | refine CW_region ?_ | refine CW_skip ?_ | refine CW_exit ?_ | refine then_e ?_ | refine blk_n ?_ | refine blk_same ?_) | refine CW_false rfl ?_))
          all_goals exact ⟨((2 * k, D ++ []) : Nat × List (List Int)), _, FR_forget _ ⟨rfl, rfl, rfl, by show some (Value.int .i64 ((k : Int) * 2)) = some (Value.int .i64 ((2 * k : Nat) : Int)); congr 2; omega, trivial⟩, done [] trivial (by simp) g5 _ hs, by dsimp only; omega⟩
        · have e1 : [x].flatten.length = x.length := by simp
          rw [e1] at hlen
          (repeat' (first | (refine isLW ?_; first | refine LW_nil ?_ | (refine isLbin ?_; first | refine LW_i64 rfl (by omega) (by omega) ?_ | (refine LW_cmp rfl (fun _ => ?_) (fun _ => ?_) <;> try (exfalso; omega))) | refine LW_pure TOK rfl ?_) | (with_reducible first | refine then_n ?_ | refine CW_seq ?_ | refine CW_region ?_ | refine CW_skip ?_ | refine CW_exit ?_ | refine then_e ?_ | refine blk_n ?_ | refine blk_same ?_) | refine CW_false rfl ?_))
          all_goals exact ⟨((2 * k, D ++ [x]) : Nat × List (List Int)), _, FR_forget _ ⟨rfl, rfl, rfl, by show some (Value.int .i64 ((k : Int) * 2)) = some (Value.int .i64 ((2 * k : Nat) : Int)); congr 2; omega, trivial⟩, done [x] ⟨l2, by omega⟩ g4 g5 _ hs, by dsimp only; omega⟩
        · have e1 : [x, y].flatten = x ++ (y ++ []) := by simp
          have e2 : [x, y].flatten.length = x.length + y.length := by simp
          rw [e2] at hlen
          rw [e1] at hs g5
          (repeat' (first | (refine isLW ?_; first | refine LW_nil ?_ | (refine isLcall ?_; first | (refine LW_call (cap := []) rfl rfl ent97 (symMerge_call rn hnl (x.length + y.length) _ D.flatten x y [] A c n _ _ _ (by omega) (Nat.le_refl _) (by simp only [List.length_nil]; omega) rfl (by omega) (by omega) (by omega) (by omega) (g4 x (by simp)) (g4 y (by simp)) hs (hp.perm g5)) ?_; clear hs; rintro _ w2 ⟨rfl, Z, p1, p2, hs⟩)) | (refine isLbin ?_; first | refine LW_i64 rfl (by omega) (by omega) ?_ | (refine LW_cmp rfl (fun _ => ?_) (fun _ => ?_) <;> try (exfalso; omega))) | refine LW_pure TOK rfl ?_) | (with_reducible first | refine then_n ?_ | refine CW_seq ?_ | refine CW_region ?_ | refine CW_exit ?_ | refine then_e ?_ | refine blk_n ?_ | refine blk_same ?_) | refine CW_true rfl ?_ | refine CW_false rfl ?_))
          have hz := p1.length_eq
          rw [List.length_append] at hz
          have e3 : [Z].flatten = Z ++ [] := by simp
          all_goals exact ⟨((2 * k, D ++ [Z]) : Nat × List (List Int)), _, FR_forget _ ⟨rfl, rfl, rfl, by show some (Value.int .i64 ((k : Int) * 2)) = some (Value.int .i64 ((2 * k : Nat) : Int)); congr 2; omega, trivial⟩, done [Z] ⟨by omega, by omega⟩ (by simpa using p2) (by rw [e3]; refine List.Perm.trans (List.Perm.append_left _ ?_) g5; rw [← List.append_assoc]; exact p1.append_right _) _ (by rw [e3]; exact hs), by dsimp only; omega⟩
    · (repeat' (first | (refine isLW ?_; first | refine LW_nil ?_ | (refine isLbin ?_; first | (refine LW_cmp rfl (fun _ => ?_) (fun _ => ?_) <;> try (exfalso; omega))) | refine LW_pure TOK rfl ?_) | (with_reducible first | refine then_n ?_ | refine CW_seq ?_ | refine CW_region ?_ | refine CW_exit ?_ | refine then_e ?_ | refine blk_same ?_) | refine CW_false rfl ?_ | refine RET0 Tryd.results83 ?_))
      all_goals
        rcases shp_one h0 f1 (by omega) with rfl | ⟨x, rfl⟩
        · exact ⟨rfl, [], f3, srtd_nil ns, hs⟩
        · have e1 : [x].flatten = x := by simp
          rw [e1] at hs f3
          exact ⟨rfl, x, f3, f2 x (by simp), hs⟩
end
end Go.Proofs.YtbmeafeojcgndaaDoor

/- Plain: lists put in order by their names. -/
set_option linter.unusedVariables false
set_option linter.unusedSimpArgs false
namespace Go.Proofs.YtbmeafeojcgndaaDoor
open Go Go.Sl Go.RowKit
section
variable {α : Type}
def insP (p : List UInt8 × α) : List (List UInt8 × α) → List (List UInt8 × α)
  | [] => [p]
  | q :: l => if p.1 < q.1 then p :: q :: l else q :: insP p l
/-- Put in order, by the names. -/
def sortP (l : List (List UInt8 × α)) : List (List UInt8 × α) := l.foldl (fun acc p => insP p acc) []
def Up (l : List (List UInt8 × α)) : Prop := l.Pairwise fun a b => ¬ b.1 < a.1
theorem insP_perm (p : List UInt8 × α) : ∀ l, (insP p l).Perm (p :: l)
  | [] => List.Perm.refl _
  | q :: l => by
    unfold insP
    split
    · exact List.Perm.refl _
    · exact ((insP_perm p l).cons q).trans (List.Perm.swap p q l)
theorem foldIns_perm : ∀ (l acc : List (List UInt8 × α)), (l.foldl (fun acc p => insP p acc) acc).Perm (acc ++ l)
  | [], acc => by simp
  | p :: l, acc => by
    show (l.foldl _ (insP p acc)).Perm _
    refine (foldIns_perm l _).trans ?_
    refine ((insP_perm p acc).append_right l).trans ?_
    exact (List.perm_middle (a := p) (l₁ := acc) (l₂ := l)).symm
theorem sortP_perm (l : List (List UInt8 × α)) : (sortP l).Perm l := by
  have := foldIns_perm l []
  simpa [sortP] using this
theorem nle_trans {a b c : List UInt8} (h : ¬ b < a) (k : ¬ c < b) : ¬ c < a :=
  List.not_lt.2 (List.le_trans (List.not_lt.1 h) (List.not_lt.1 k))
theorem insP_up (p : List UInt8 × α) : ∀ {l : List (List UInt8 × α)}, Up l → Up (insP p l)
  | [], _ => List.pairwise_singleton _ _
  | q :: l, h => by
    unfold Up at h ⊢
    rw [List.pairwise_cons] at h
    unfold insP
    split
    · rename_i hpq
      have hp : ¬ q.1 < p.1 := List.lt_asymm hpq
      refine List.pairwise_cons.2 ⟨fun b hb => ?_, List.pairwise_cons.2 h⟩
      rcases List.mem_cons.1 hb with rfl | hb
      · exact hp
      · exact nle_trans hp (h.1 b hb)
    · rename_i hpq
      refine List.pairwise_cons.2 ⟨fun b hb => ?_, insP_up p h.2⟩
      rcases List.mem_cons.1 ((insP_perm p l).mem_iff.1 hb) with rfl | hb
      · exact hpq
      · exact h.1 b hb
theorem foldIns_up : ∀ (l acc : List (List UInt8 × α)), Up acc → Up (l.foldl (fun acc p => insP p acc) acc)
  | [], _, h => h
  | p :: l, _, h => foldIns_up l _ (insP_up p h)
theorem sortP_up (l : List (List UInt8 × α)) : Up (sortP l) := foldIns_up l [] List.Pairwise.nil
theorem sortP_snoc (l : List (List UInt8 × α)) (p : List UInt8 × α) : sortP (l ++ [p]) = insP p (sortP l) := by
  unfold sortP; rw [List.foldl_append]; rfl
/-- Of names that are all unlike there is one order. -/
theorem up_unique : ∀ {l1 l2 : List (List UInt8 × α)}, l1.Perm l2 → Up l1 → Up l2 → (l1.map (·.1)).Nodup → l1 = l2
  | [], l2, h, _, _, _ => by rw [h.nil_eq]
  | a :: t1, [], h, _, _, _ => by cases h.symm.nil_eq
  | a :: t1, b :: t2, h, h1, h2, hd => by
    unfold Up at h1 h2
    have h1' := List.pairwise_cons.1 h1
    have h2' := List.pairwise_cons.1 h2
    have hab : a = b := by
      rcases List.mem_cons.1 (h.mem_iff.1 (List.mem_cons_self (a := a) (l := t1))) with e | e
      · exact e
      · rcases List.mem_cons.1 (h.mem_iff.2 (List.mem_cons_self (a := b) (l := t2))) with e' | e'
        · exact e'.symm
        · have k1 := h2'.1 a e
          have k2 := h1'.1 b e'
          have e3 : a.1 = b.1 := List.le_antisymm (List.not_lt.1 k2) (List.not_lt.1 k1)
          rw [List.map_cons, List.nodup_cons] at hd
          exact absurd (List.mem_map.2 ⟨b, e', e3.symm⟩) hd.1
    subst hab
    rw [List.map_cons, List.nodup_cons] at hd
    rw [up_unique (List.Perm.cons_inv h) h1'.2 h2'.2 hd.2]
theorem sort_unique {l m : List (List UInt8 × α)} (h : m.Perm l) (hu : Up m) (hd : (l.map (·.1)).Nodup) : m = sortP l :=
  up_unique (h.trans (sortP_perm l).symm) hu (sortP_up l) ((h.map _).nodup_iff.2 hd)
/-- What is in order already stays. -/
theorem sortP_of_up {l : List (List UInt8 × α)} (hu : Up l) (hd : (l.map (·.1)).Nodup) : sortP l = l := (sort_unique (List.Perm.refl l) hu hd).symm
theorem insP_map {β : Type} (f : α → β) (p : List UInt8 × α) : ∀ l, (insP p l).map (fun q => (q.1, f q.2)) = insP (p.1, f p.2) (l.map fun q => (q.1, f q.2))
  | [] => rfl
  | q :: l => by
    unfold insP
    by_cases h : p.1 < q.1
    · simp [h]
    · simp [h, insP_map f p l]
theorem sortP_map {β : Type} (f : α → β) (l : List (List UInt8 × α)) : (sortP l).map (fun q => (q.1, f q.2)) = sortP (l.map fun q => (q.1, f q.2)) := by
  have key : ∀ (l acc : List (List UInt8 × α)), (l.foldl (fun acc p => insP p acc) acc).map (fun q => (q.1, f q.2)) = (l.map fun q => (q.1, f q.2)).foldl (fun acc p => insP p acc) (acc.map fun q => (q.1, f q.2)) := by
    intro l
    induction l with
    | nil => intro acc; rfl
    | cons p l ih => intro acc; simp only [List.foldl_cons, List.map_cons]; rw [ih, insP_map]
  have := key l []
  simpa [sortP] using this
end
end Go.Proofs.YtbmeafeojcgndaaDoor

/- Walks: the places of names, by rising name. -/
set_option linter.unusedVariables false
set_option linter.unusedSimpArgs false
namespace Go.Proofs.YtbmeafeojcgndaaDoor
open Go Go.Sl Go.RowKit
set_option maxRecDepth 100000
attribute [local irreducible] CW LW DW FR DP Calls Res Ret
/-- 0, 1, .. below n. -/
def idxs (n : Nat) : List Int := (List.range n).map fun (i : Nat) => (i : Int)
theorem idxs_len (n : Nat) : (idxs n).length = n := by simp [idxs]
theorem idxs_succ (n : Nat) : idxs (n + 1) = idxs n ++ [(n : Int)] := by simp [idxs, List.range_succ]
theorem idxs_ok {ns : List (List UInt8)} : PlOK ns (idxs ns.length) := fun x hx => by
  simp only [idxs, List.mem_map, List.mem_range] at hx
  obtain ⟨i, hi, rfl⟩ := hx
  omega
section
variable {W : World} {ns : List (List UInt8)} {NA : Option Addr} {nc bx : Nat} {L : List HProp}
theorem sortStable_call (rn : Rd eN W NA ns) (hnl : ns.length ≤ 140737488355328) (w : World) (X : List Int) (A : Option Addr) (c n : Nat) (hn : n = X.length) (hl : n ≤ 35184372088832) (hs : Sat W w (RowOf eI 3 1 A c X :: Cl bx [.slice NA ns.length nc] 28 :: L)) (hp : PlOK ns X) :
    Calls Tryd.prog 67 [Value.slice A n c, .func (.func 68) #[] #[.pointer (some ⟨bx, 0, none⟩)]].toArray w (Ret fun v w' => v = .tuple #[] ∧ ∃ Z, Z.Perm X ∧ Srtd ns Z ∧ Sat W w' (RowOf eI 3 1 A c Z :: Cl bx [.slice NA ns.length nc] 28 :: L)) := by
  refine Calls_of Tryd.func67 rfl 9 Tryd.ntmps67 rfl ?_
  (repeat' (first | (refine isLW ?_; first | refine LW_nil ?_ | (refine isLcall ?_; first | (refine LW_call (cap := []) rfl rfl ent83 (stable_call rn hnl _ X A c n hn hl hs hp) ?_; clear hs; rintro _ w2 ⟨rfl, Z, p1, p2, hs⟩) | refine LW_pure TOK rfl ?_) | refine LW_pure TOK rfl ?_) | (with_reducible first | refine CW_region ?_) | refine RET0 Tryd.results67 ?_))
  all_goals exact ⟨rfl, Z, p1, p2, hs⟩
set_option maxHeartbeats 1000000 in
theorem rising_call (rn : Rd eN W NA ns) (hnl : ns.length ≤ 8796093022208) (w : World) (hs : Sat W w L) :
    Calls Tryd.prog 51 [Value.slice NA ns.length nc].toArray w (Ret fun v w' => ∃ A c Z, v = .slice A ns.length c ∧ Z.Perm (idxs ns.length) ∧ Srtd ns Z ∧ Sat W w' (RowOf eI 3 1 A c Z :: L)) := by
  refine Calls_of Tryd.func51 rfl 19 Tryd.ntmps51 rfl ?_
  (repeat' (first | (refine isLW ?_; first | refine LW_nil ?_ | (refine isLload ?_; first | refine LW_loadC 0 TOK hs rfl rfl rfl rfl rfl ?_) | (refine isLcall ?_; first | refine LW_pure TOK rfl ?_) | refine LW_pure TOK rfl ?_ | (refine LW_box hs rfl rfl ?_; clear hs; intro _ w hs)) | (with_reducible first | refine then_n ?_ | refine CW_seq ?_ | refine CW_region ?_ | refine CW_block ?_)))
  rename_i bx
  refine CW_loop (γ := Nat × Option Addr × Nat) (fun g => [(1, .pointer (some ⟨bx, 0, none⟩)), (3, .slice g.2.1 (idxs g.1).length g.2.2), (6, .int .i64 (ns.length : Int)), (7, .int .i64 (g.1 : Int))]) (fun g w' => Sat W w' (RowOf eI 3 1 g.2.1 g.2.2 (idxs g.1) :: Cl bx [.slice NA ns.length nc] 28 :: L) ∧ g.1 ≤ ns.length) (fun g => ns.length - g.1) (0, none, 0) ⟨rfl, rfl, rfl, rfl, trivial⟩ ⟨hs.nilRow 3 1, Nat.zero_le _⟩ ?_
  clear hs
  rintro ⟨g, A, c⟩ τ w1 ⟨hs, h1⟩
  dsimp only at hs h1 ⊢
  have hil := idxs_len g
  by_cases hg : g < ns.length
  · (repeat' (first | (refine isLW ?_; first | refine LW_nil ?_ | (refine isLcall ?_; first | (refine LW_append1 0 (xs := idxs g) (z := (g : Int)) eI_ok hs TOK rfl rfl rfl rfl rfl rfl rfl rfl rfl rfl (by unfold maxLen; omega) (by simp only []; omega) ?_; clear hs; intro A2 c2 w hs)) | (refine isLbin ?_; first | refine LW_i64 rfl (by omega) (by omega) ?_ | (refine LW_cmp rfl (fun _ => ?_) (fun _ => ?_) <;> try (exfalso; omega))) | refine LW_pure TOK rfl ?_ | (refine LW_buildSlice TOK hs rfl rfl rfl rfl rfl rfl rfl ?_; clear hs; intro _ w hs)) | (with_reducible first | refine then_n ?_ | refine CW_seq ?_ | refine CW_region ?_ | refine CW_block ?_ | refine CW_skip ?_ | refine blk_n ?_) | refine CW_true rfl ?_))
    exact ⟨((g + 1, A2, c2) : Nat × Option Addr × Nat), _, FR_forget _ ⟨rfl, by dsimp only; rw [idxs_succ]; rfl, rfl, rfl, trivial⟩, ⟨by dsimp only; rw [idxs_succ]; exact hs, by dsimp only; omega⟩, by dsimp only; omega⟩
  · have e : g = ns.length := by omega
    subst e
    rw [hil]
    (repeat' (first | (refine isLW ?_; first | refine LW_nil ?_ | (refine isLcall ?_; first | (refine LW_call (cap := []) rfl rfl ent67 (sortStable_call rn (by omega) _ (idxs ns.length) A c _ hil.symm (by omega) hs idxs_ok) ?_; clear hs; rintro _ w2 ⟨rfl, Z, p1, p2, hs⟩)) | (refine isLbin ?_; first | (refine LW_cmp rfl (fun _ => ?_) (fun _ => ?_) <;> try (exfalso; omega))) | refine LW_pure TOK rfl ?_) | (with_reducible first | refine then_n ?_ | refine CW_seq ?_ | refine CW_region ?_ | refine CW_exit ?_ | refine CW_ret ?_ | refine then_e ?_ | refine blk_same ?_) | refine CW_false rfl ?_ | refine RET1 Tryd.results51 rfl ?_))
    all_goals exact ⟨A, c, Z, rfl, p1, p2, (hs.picks [1, 0]).drop1⟩
end
end Go.Proofs.YtbmeafeojcgndaaDoor
