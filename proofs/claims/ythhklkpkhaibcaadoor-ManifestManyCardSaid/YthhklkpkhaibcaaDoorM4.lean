/- Walks: Sweep. -/
import Derived.Test.YthhklkpkhaibcaaDoorM2
set_option linter.unusedVariables false
set_option linter.unusedSimpArgs false
namespace Go.Proofs.YthhklkpkhaibcaaDoor
open Go Go.Sl Go.RowKit
set_option maxRecDepth 100000
attribute [local irreducible] CW LW DW FR DP Calls
theorem find_putV {κ : Type} [DecidableEq κ] : ∀ (kvs : List (κ × Value × Nat)) (ck : Nat) (k : κ) (v : Value) (k' : κ), findV (putV kvs ck k v) k' = if k' = k then some v else findV kvs k' := fun kvs ck k v k' => by
  have hm : ∀ (l : List (κ × Value × Nat)), (findV l k).isSome → findV (l.modify (idxOf l k) fun p => (k, v, p.2.2)) k' = if k' = k then some v else findV l k' := by
    intro l
    induction l with
    | nil => intro h; cases h
    | cons x l ih =>
      intro h
      by_cases hx : k = x.1
      · have e : idxOf (x :: l) k = 0 := by simp [idxOf, List.findIdx_cons, hx]
        rw [e]
        show findV ((k, v, x.2.2) :: l) k' = _
        unfold findV
        rw [List.find?_cons, List.find?_cons]
        by_cases hk : k' = k
        · simp [hk]
        · have hk2 : ¬ k' = x.1 := fun q => hk (q.trans hx.symm)
          simp [hk, hk2]
      · have e : idxOf (x :: l) k = idxOf l k + 1 := by simp [idxOf, List.findIdx_cons, hx]
        have h2 : (findV l k).isSome := by
          unfold findV at h ⊢
          rw [List.find?_cons] at h
          simpa [hx] using h
        rw [e]
        show findV (x :: l.modify (idxOf l k) fun p => (k, v, p.2.2)) k' = _
        have ih := ih h2
        unfold findV at ih ⊢
        rw [List.find?_cons, List.find?_cons]
        by_cases hk : k' = x.1
        · have hk2 : ¬ k' = k := fun q => hx (q.symm.trans hk)
          rw [decide_eq_true hk, if_neg hk2]
        · rw [decide_eq_false hk]
          exact ih
  unfold putV
  by_cases h : (findV kvs k).isSome
  · rw [if_pos h]; exact hm kvs h
  · rw [if_neg h]
    have hn : kvs.find? (fun p => decide (k = p.1)) = none := by
      unfold findV at h
      cases e : kvs.find? (fun p => decide (k = p.1)) with
      | none => rfl
      | some p => rw [e] at h; exact absurd rfl h
    unfold findV
    rw [List.find?_append]
    by_cases hk : k' = k
    · subst hk
      rw [hn, if_pos rfl]; simp
    · rw [if_neg hk]
      cases kvs.find? (fun p => decide (k' = p.1)) with
      | none => simp [hk]
      | some p => rfl
theorem now_le {D : DS} (h : Good D) : D.now.length ≤ D.fs.length := by
  have h1 := h.keptNow.nd
  have h2 := len_le_of_nodup h1 (l2 := List.range D.fs.length) (fun x hx => List.mem_range.2 (h.st.ltNow hx))
  unfold idsL at h2
  rw [List.length_map, List.length_range] at h2
  exact h2
theorem note_lens (D : DS) (c : Chg) : (D.note c).2.fs.length = D.fs.length ∧ (D.note c).2.chs.length ≤ D.chs.length + 1 := by
  obtain ⟨e1, e2, e3, e4, e5⟩ := turn_fields D
  unfold DS.note
  split
  · exact ⟨by show D.turn.2.fs.length = _; rw [e1], by show (D.turn.2.chs ++ [_]).length ≤ _; rw [e4, List.length_append]; exact Nat.le_refl _⟩
  · exact ⟨by rw [e1], by rw [e4]; omega⟩
theorem remove_lens (D : DS) (n : Nm) : (D.remove n).2.fs.length = D.fs.length ∧ (D.remove n).2.chs.length ≤ D.chs.length + 1 := by
  unfold DS.remove
  split
  · exact note_lens D _
  · exact ⟨rfl, Nat.le_succ _⟩
theorem list_le (D : DS) : D.list.length ≤ D.now.length := by
  unfold DS.list
  split
  · exact Nat.zero_le _
  · rw [List.length_map]; exact Nat.le_refl _
theorem list_path {D : DS} (h : Good D) {n : Nm} (hn : n ∈ D.list) : n.length ≤ 40 := by
  unfold DS.list at hn
  split at hn
  · cases hn
  · obtain ⟨p, hp, rfl⟩ := List.mem_map.1 hn
    have := h.keptNow.path p hp
    unfold pathB at this
    simp only [Bool.and_eq_true, decide_eq_true_eq] at this
    exact this.1.2
/-- What holds between two names of a sweep. -/
structure SwG (D : DS) (l : List Sg) (N : List Nm) (i : Nat) (E : DS) (G : List Nm) : Prop where
  good : Good E
  chs : E.chs.length ≤ D.chs.length + i
  fs : E.fs.length = D.fs.length
  len : G.length ≤ i
  eq : rmv D (N.filter (swp l)) = ((rmv E ((N.drop i).filter (swp l))).1, (rmv E ((N.drop i).filter (swp l))).2.1, G ++ (rmv E ((N.drop i).filter (swp l))).2.2)
theorem SwG.skip {D : DS} {l : List Sg} {N : List Nm} {i : Nat} {E : DS} {G : List Nm} (h : SwG D l N i E G) (hi : i < N.length) (hs : swp l (rd N (i : Int)) = false) : SwG D l N (i + 1) E G := by
  have e := h.eq
  rw [List.drop_eq_getElem_cons hi, List.filter_cons, ← rd_at hi, hs] at e
  exact ⟨h.good, by have := h.chs; omega, h.fs, Nat.le_succ_of_le h.len, e⟩
theorem SwG.gone {D : DS} {l : List Sg} {N : List Nm} {i : Nat} {E : DS} {G : List Nm} (h : SwG D l N i E G) (hi : i < N.length) (hs : swp l (rd N (i : Int)) = true) (hr : (E.remove (rd N (i : Int))).1 = 0) : SwG D l N (i + 1) (E.remove (rd N (i : Int))).2 (G ++ [rd N (i : Int)]) := by
  have e := h.eq
  rw [List.drop_eq_getElem_cons hi, List.filter_cons, ← rd_at hi, if_pos hs, rmv, if_pos hr] at e
  have := remove_lens E (rd N (i : Int))
  refine ⟨h.good.remove _, by have := h.chs; omega, by rw [this.1, h.fs], by rw [List.length_append]; have := h.len; simp; omega, ?_⟩
  rw [e, List.append_assoc]; rfl
theorem SwG.fall {D : DS} {l : List Sg} {N : List Nm} {i : Nat} {E : DS} {G : List Nm} (h : SwG D l N i E G) (hi : i < N.length) (hs : swp l (rd N (i : Int)) = true) (hr : ¬ (E.remove (rd N (i : Int))).1 = 0) : rmv D (N.filter (swp l)) = ((E.remove (rd N (i : Int))).1, (E.remove (rd N (i : Int))).2, G) := by
  have e := h.eq
  rw [List.drop_eq_getElem_cons hi, List.filter_cons, ← rd_at hi, if_pos hs, rmv, if_neg hr] at e
  rw [e, List.append_nil]
theorem SwG.fin {D : DS} {l : List Sg} {N : List Nm} {i : Nat} {E : DS} {G : List Nm} (h : SwG D l N i E G) (hi : ¬ i < N.length) : rmv D (N.filter (swp l)) = (0, E, G) := by
  have e := h.eq
  rw [List.drop_of_length_le (by omega), List.filter_nil, rmv, List.append_nil] at e
  exact e
theorem sweepM_eq {D E : DS} {l : List Sg} {G : List Nm} {e : Int} (hd : D.down = false) (h : rmv D (D.list.filter (swp l)) = (e, E, G)) : sweepM D l = if e = 0 then (if G = [] then (0, E, []) else if E.syncdir.1 = 0 then (0, E.syncdir.2, G) else (E.syncdir.1, E.syncdir.2, [])) else (e, E, []) := by
  unfold sweepM
  rw [if_neg (by rw [hd]; decide), h]
theorem named_next {l : List Sg} {i : Nat} (h : i < l.length) (k : Int) : named (l.take (i + 1)) k = (named (l.take i) k || decide ((rd l (i : Int)).num = k)) := by
  unfold named
  rw [List.take_add_one, List.getElem?_eq_getElem h, List.any_append, rd_at h]; simp
theorem Sat.skipM {W w : World} {p q1 q2 q3 q4 q5 : HProp} {L : List HProp} (h : Sat W w (p :: q1 :: q2 :: q3 :: q4 :: q5 :: L)) : Sat W w (p :: L) := Sat.dropN (h.picks [1, 1, 1, 1, 1]) 5
theorem Sat.skipN {W w : World} {p q q3 q4 q5 : HProp} {L : List HProp} (h : Sat W w (p :: q :: q3 :: q4 :: q5 :: L)) : Sat W w (p :: q :: L) := Sat.dropN (h.picks [2, 2, 2]) 3
set_option maxHeartbeats 8000000 in
theorem Sweep_call (W w : World) (L : List HProp) (d : Nat) (D : DS) (m : Mn) (A : Option Addr) (c : Nat) (hs : Sat W w (HD d D :: L)) (hg : Good D) (hc : D.chs.length ≤ 1000000000) (hfl : D.fs.length ≤ 1000000000) (hi : m.In) (hr : ∀ w', Sat W w' L → Rd eSg w' A m.segs) (ht : Tab W) (hok : OkM m) :
    Calls Tryd.prog 17 [Value.pointer (some ⟨d, 0, none⟩), .agg (eM m A c).toArray].toArray w (Ret fun v w' => ∃ B cb, v = .tuple #[.slice B (sweepM D m.segs).2.2.length cb, .int .i64 (sweepM D m.segs).1] ∧ Sat W w' (RowOf eN 9 1 B cb (sweepM D m.segs).2.2 :: HD d (sweepM D m.segs).2.1 :: L)) := by
  refine Calls_of Tryd.func17 rfl 88 Tryd.ntmps17 rfl ?_
  have hl := hi.len
  have hsl := hok.len.2
  have hfit : Fit D := ⟨hg, by omega, by omega⟩
  cases hdn : D.down with
  | true =>
    have e : sweepM D m.segs = (60, D, []) := by unfold sweepM; rw [if_pos hdn]
    rw [e]
    (repeat' (first | (refine isLW ?_; first | refine LW_nil ?_ | (refine isLcall ?_; first | (refine LW_call (cap := []) rfl rfl ent23 (down_call W _ _ d D (hs.picks [1])) ?_; clear hs; rintro _ w3 ⟨rfl, hs⟩; rw [hdn])) | (refine isLbin ?_; first | refine LW_nileq TOK rfl ?_) | (refine LW_box hs rfl rfl ?_; clear hs; intro b1 w2 hs) | refine LW_pure TOK rfl ?_) | (with_reducible first | refine then_n ?_ | refine CW_seq ?_ | refine CW_region ?_ | refine CW_skip ?_ | refine CW_ret ?_ | refine then_r ?_) | refine CW_true rfl ?_ | refine CW_false rfl ?_ | refine RET2 Tryd.results17 rfl rfl ?_))
    exact ⟨none, 0, rfl, (hs.picks [1]).drop1.nilRow 9 1⟩
  | false =>
    (repeat' (first | (refine isLW ?_; first | refine LW_nil ?_ | (refine isLload ?_; first | refine LW_loadCAE 1 (eM m A c) TOK hs rfl rfl rfl rfl (Nat.le_of_ble_eq_true rfl) rfl ?_ | refine LW_loadC 2 TOK hs rfl rfl rfl rfl rfl ?_) | (refine isLcall ?_; first | (refine LW_call (cap := []) rfl rfl ent23 (down_call W _ _ d D (hs.picks [1])) ?_; clear hs; rintro _ w3 ⟨rfl, hs⟩; rw [hdn]) | (refine LW_call (cap := []) rfl rfl ent12 (Check_call W _ _ m A c hi (hr _ (Sat.dropN hs 2)) hs) ?_; clear hs; rintro _ w ⟨e, rfl, _, he, hs⟩; obtain rfl : e = 0 := he.2 hok) | refine LW_pure TOK rfl ?_) | (refine isLbin ?_; first | (refine LW_cmp rfl (fun _ => ?_) (fun _ => ?_) <;> try (exfalso; omega)) | refine LW_nileq TOK rfl ?_) | (refine LW_box hs rfl rfl ?_; clear hs; intro b1 w2 hs) | (refine LW_makeMap hs ?_; clear hs; intro bm w hs) | refine LW_pure TOK rfl ?_) | (with_reducible first | refine then_n ?_ | refine CW_seq ?_ | refine CW_region ?_ | refine CW_block ?_ | refine CW_skip ?_) | refine CW_false rfl ?_))
    have hs1 : Sat W w (Mp keyI bm [] 0 :: HD d D :: Cl b1 (eM m A c) 32 :: L) := hs
    clear hs
    refine CW_loop (γ := Nat × List (Int × Value × Nat) × Nat) (fun g => [(0, .pointer (some ⟨d, 0, none⟩)), (3, .pointer (some ⟨b1, 0, none⟩)), (7, .map (some bm)), (30, .slice A m.segs.length c), (31, .int .i64 (m.segs.length : Int)), (32, .int .i64 (g.1 : Int))])
      (fun g w' => Sat W w' (Mp keyI bm g.2.1 g.2.2 :: HD d D :: Cl b1 (eM m A c) 32 :: L) ∧ g.1 ≤ m.segs.length ∧ ∀ k, findV g.2.1 k = if named (m.segs.take g.1) k then some (.agg #[]) else none) (fun g => m.segs.length - g.1) (0, [], 0) ⟨rfl, rfl, rfl, rfl, rfl, rfl, trivial⟩ ⟨hs1, Nat.zero_le _, fun k => rfl⟩ ?_
    clear hs1
    rintro ⟨i, kv, ck⟩ τ w ⟨hs, hil, hkv⟩
    dsimp only at hs hil hkv ⊢
    by_cases hlt : i < m.segs.length
    case pos =>
      obtain ⟨sg, hsg⟩ : ∃ sg, rd m.segs (i : Int) = sg := ⟨_, rfl⟩
      have hr1 := hr _ (Sat.dropN hs 3)
      have hnx := named_next hlt
      rw [hsg] at hnx
      (repeat' (first | (refine isLW ?_; first | refine LW_nil ?_ | (refine isLload ?_; first | refine LW_loadRdA (vs := eSg sg) hr1 (fun _ => rfl) TOK rfl (by assumption) rfl rfl rfl (by omega) (by omega) (by rw [hsg]) ?_ | refine LW_loadC 0 TOK hs rfl rfl rfl rfl rfl ?_) | (refine isLstore ?_; first | (refine LW_storeCA 0 TOK hs rfl rfl rfl rfl rfl (eSg_ok.2 sg) rfl (Nat.le_of_ble_eq_true rfl) ?_; clear hs; intro w hs)) | (refine isLidx ?_; first | (refine LW_indexRd hr1 TOK rfl rfl rfl rfl rfl (by omega) (by omega) ?_; intro _ _ _)) | (refine isLbin ?_; first | refine LW_i64 rfl (by omega) (by omega) ?_ | (refine LW_cmp rfl (fun _ => ?_) (fun _ => ?_) <;> try (exfalso; omega))) | refine LW_build TOK rfl rfl rfl rfl rfl rfl ?_ | (refine LW_mapUpdate keyI 1 (k := sg.num) hs TOK rfl rfl rfl rfl rfl rfl rfl rfl ?_; clear hs; intro w hs) | refine LW_pure TOK rfl ?_ | (refine LW_alloc TOK hs rfl rfl ?_; clear hs; intro _ w hs)) | (with_reducible first | refine then_n ?_ | refine CW_seq ?_ | refine CW_region ?_ | refine CW_block ?_ | refine CW_skip ?_ | refine blk_n ?_) | refine CW_true rfl ?_))
      refine ⟨(i + 1, putV kv ck sg.num (.agg #[]), putCk kv ck sg.num), _, FR_forget _ ⟨rfl, rfl, rfl, rfl, rfl, (by push_cast; rfl), trivial⟩, ⟨hs.drop1, hlt, fun k => ?_⟩, by dsimp only; omega⟩
      dsimp only
      rw [find_putV, hnx, hkv]
      by_cases hk : k = sg.num
      · rw [if_pos hk, decide_eq_true hk.symm, Bool.or_true, if_pos rfl]
      · rw [if_neg hk, decide_eq_false (fun e => hk e.symm), Bool.or_false]
    rw [List.take_of_length_le (by omega)] at hkv
    have hN := list_le D
    have hN2 := now_le hg
    obtain ⟨N, hNe⟩ : ∃ N, D.list = N := ⟨_, rfl⟩
    have hNp : ∀ x ∈ N, x.length ≤ 40 := fun x hx => list_path hg (hNe ▸ hx)
    have hli : ∀ {w : World} {L : List HProp}, Sat W w (HD d D :: L) → Calls Tryd.prog 32 [Value.pointer (some ⟨d, 0, none⟩)].toArray w (Ret fun v w' => ∃ A c, v = .slice A N.length c ∧ Sat W w' (RowOf eN 9 1 A c N :: HD d D :: L)) := fun {w L} h => by rw [← hNe]; exact list_call W w L d D h hfit
    rw [hNe] at hN
    have hSM := @sweepM_eq D
    rw [hNe] at hSM
    (repeat' (first | (refine isLW ?_; first | refine LW_nil ?_ | (refine isLcall ?_; first | (refine LW_call (cap := []) rfl rfl ent32 (hli (hs.picks [1])) ?_; clear hs; rintro _ w ⟨NA, nc, rfl, hs⟩) | refine LW_pure TOK rfl ?_) | (refine isLbin ?_; first | (refine LW_cmp rfl (fun _ => ?_) (fun _ => ?_) <;> try (exfalso; omega))) | refine LW_pure TOK rfl ?_) | (with_reducible first | refine then_n ?_ | refine CW_seq ?_ | refine CW_region ?_ | refine CW_block ?_ | refine CW_exit ?_ | refine then_e ?_ | refine blk_same ?_) | refine CW_false rfl ?_))
    have hs1 : Sat W w (HD d D :: RowOf eN 9 1 none 0 [] :: RowOf eN 9 1 NA nc N :: Mp keyI bm kv ck :: Cl b1 (eM m A c) 32 :: L) := (hs.nilRow 9 1).picks [2, 0]
    clear hs
    refine CW_loop (γ := Nat × DS × List Nm × Option Addr × Nat) (fun g => [(0, .pointer (some ⟨d, 0, none⟩)), (7, .map (some bm)), (10, .slice g.2.2.2.1 g.2.2.1.length g.2.2.2.2), (42, .slice NA N.length nc), (43, .int .i64 (N.length : Int)), (44, .int .i64 (g.1 : Int))])
      (fun g w' => Sat W w' (HD d g.2.1 :: RowOf eN 9 1 g.2.2.2.1 g.2.2.2.2 g.2.2.1 :: RowOf eN 9 1 NA nc N :: Mp keyI bm kv ck :: Cl b1 (eM m A c) 32 :: L) ∧ g.1 ≤ N.length ∧ SwG D m.segs N g.1 g.2.1 g.2.2.1) (fun g => N.length - g.1) (0, D, [], none, 0) ⟨rfl, rfl, rfl, rfl, rfl, rfl, trivial⟩ ⟨hs1, Nat.zero_le _, ⟨hg, Nat.le_refl _, rfl, Nat.le_refl _, rfl⟩⟩ ?_
    clear hs1 hlt hil
    rintro ⟨i, E, G, GA, gc⟩ τ w ⟨hs, hil, hG⟩
    dsimp only at hs hil hG ⊢
    have hGl := hG.len
    have hGc := hG.chs
    have hGf := hG.fs
    by_cases hlt : i < N.length
    case pos =>
      have hnm := hNp _ (by rw [rd_at hlt]; exact List.getElem_mem hlt : rd N (i : Int) ∈ N)
      have hfE : Fit E := ⟨hG.good, by omega, by omega⟩
      obtain ⟨⟨k, o⟩, hko⟩ : ∃ r, numG (rd N (i : Int)) = r := ⟨_, rfl⟩
      have hnum : ∀ {w : World} {L : List HProp}, Sat W w L → Calls Tryd.prog 6 [sv (rd N (i : Int))].toArray w (Ret fun v w' => v = .tuple #[.int .i64 k, .bool o] ∧ Sat W w' L) := fun {w L} h => by
        have := Num_call W w L (rd N (i : Int)) (by omega) ht h
        rw [hko] at this
        exact this
      obtain ⟨q, hq⟩ : ∃ q, named m.segs k = q := ⟨_, rfl⟩
      have hv1 : (findV kv k).getD (.agg #[]) = .agg #[] := by rw [hkv]; cases named m.segs k <;> rfl
      have hv2 : (findV kv k).isSome = q := by rw [hkv, ← hq]; cases named m.segs k <;> rfl
      have hsw : swp m.segs (rd N (i : Int)) = (decide (rd N (i : Int) = tmpN) || (o && !q)) := by unfold swp; rw [hko]; dsimp only; rw [hq]
      by_cases hm : swp m.segs (rd N (i : Int)) = true
      · have hm2 := hm
        rw [hsw] at hm2
        have hcase : rd N (i : Int) = tmpN ∨ (¬ rd N (i : Int) = tmpN ∧ o = true ∧ q = false) := by
          by_cases h : rd N (i : Int) = tmpN
          · exact .inl h
          · rw [decide_eq_false h] at hm2
            cases o <;> cases q <;> first | exact .inr ⟨h, rfl, rfl⟩ | (exact absurd hm2 (by decide))
        by_cases h0 : (E.remove (rd N (i : Int))).1 = 0
        · rcases hcase with hx | ⟨hx, rfl, rfl⟩
          case' inl => (repeat' (first | refine LW_strNe (a := rd N (i : Int)) (b := tmpN) rfl rfl rfl rfl (fun hne => absurd hx hne) (fun hne => ?_) | (refine isLW ?_; first | refine LW_nil ?_ | (refine isLg ?_; first | refine LW_pass rfl rfl ?_ | refine LW_passV rfl rfl rfl ?_) | (refine isLload ?_; first | refine LW_loadRd0 (hs.rd 2 rfl) (fun _ => rfl) TOK rfl (by assumption) rfl rfl (by omega) (by omega) rfl ?_) | (refine isLstore ?_; first | (refine LW_storeCA 0 TOK hs rfl rfl rfl rfl rfl (fun u h => by cases h) rfl (Nat.le_of_ble_eq_true rfl) ?_; clear hs; intro w hs)) | (refine isLcall ?_; first | (refine LW_call (cap := []) rfl rfl ent6 (hnum hs) ?_; clear hs; rintro _ w ⟨rfl, hs⟩) | (refine LW_call (cap := []) rfl rfl ent33 (remove_call W _ _ d E (rd N (i : Int)) (hs.picks [1]) hfE (by omega)) ?_; clear hs; rintro _ w ⟨rfl, hs⟩) | (refine LW_append1 2 (z := rd N (i : Int)) eN_ok hs TOK rfl rfl rfl rfl rfl rfl rfl rfl rfl rfl (by unfold maxLen; omega) (by simp only []; omega) ?_; clear hs; intro GA2 gc2 w hs)) | (refine isLidx ?_; first | (refine LW_indexRd (hs.rd 2 rfl) TOK rfl rfl rfl rfl rfl (by omega) (by omega) ?_; intro _ _ _)) | (refine isLbin ?_; first | refine LW_i64 rfl (by omega) (by omega) ?_ | (refine LW_cmp rfl (fun _ => ?_) (fun _ => ?_) <;> try (exfalso; omega))) | refine LW_lookupOk keyI 3 (k := k) hs TOK rfl rfl rfl rfl rfl rfl rfl rfl hv1 hv2 ?_ | refine LW_pure TOK rfl ?_ | (refine LW_alloc TOK hs rfl rfl ?_; clear hs; intro _ w hs) | (refine LW_buildSlice TOK hs rfl rfl rfl rfl rfl rfl rfl ?_; clear hs; intro _ w hs)) | (with_reducible first | refine then_n ?_ | refine CW_seq ?_ | refine CW_region ?_ | refine CW_block ?_ | refine CW_skip ?_ | refine blk_n ?_) | refine CW_true rfl ?_ | refine CW_false rfl ?_))
          case' inr => (repeat' (first | refine LW_strNe (a := rd N (i : Int)) (b := tmpN) rfl rfl rfl rfl (fun hne => ?_) (fun hne => absurd hne hx) | (refine isLW ?_; first | refine LW_nil ?_ | (refine isLg ?_; first | refine LW_take rfl ?_) | (refine isLload ?_; first | refine LW_loadRd0 (hs.rd 2 rfl) (fun _ => rfl) TOK rfl (by assumption) rfl rfl (by omega) (by omega) rfl ?_) | (refine isLstore ?_; first | (refine LW_storeCA 0 TOK hs rfl rfl rfl rfl rfl (fun u h => by cases h) rfl (Nat.le_of_ble_eq_true rfl) ?_; clear hs; intro w hs)) | (refine isLcall ?_; first | (refine LW_call (cap := []) rfl rfl ent6 (hnum hs) ?_; clear hs; rintro _ w ⟨rfl, hs⟩) | (refine LW_call (cap := []) rfl rfl ent33 (remove_call W _ _ d E (rd N (i : Int)) (hs.picks [1]) hfE (by omega)) ?_; clear hs; rintro _ w ⟨rfl, hs⟩) | (refine LW_append1 2 (z := rd N (i : Int)) eN_ok hs TOK rfl rfl rfl rfl rfl rfl rfl rfl rfl rfl (by unfold maxLen; omega) (by simp only []; omega) ?_; clear hs; intro GA2 gc2 w hs)) | (refine isLidx ?_; first | (refine LW_indexRd (hs.rd 2 rfl) TOK rfl rfl rfl rfl rfl (by omega) (by omega) ?_; intro _ _ _)) | (refine isLbin ?_; first | refine LW_i64 rfl (by omega) (by omega) ?_ | (refine LW_cmp rfl (fun _ => ?_) (fun _ => ?_) <;> try (exfalso; omega))) | refine LW_lookupOk keyI 3 (k := k) hs TOK rfl rfl rfl rfl rfl rfl rfl rfl hv1 hv2 ?_ | refine LW_pure TOK rfl ?_ | (refine LW_alloc TOK hs rfl rfl ?_; clear hs; intro _ w hs) | (refine LW_buildSlice TOK hs rfl rfl rfl rfl rfl rfl rfl ?_; clear hs; intro _ w hs)) | (with_reducible first | refine then_n ?_ | refine CW_seq ?_ | refine CW_region ?_ | refine CW_block ?_ | refine CW_skip ?_ | refine blk_n ?_) | refine CW_true rfl ?_ | refine CW_false rfl ?_))
          all_goals
            have hs1 : Sat W w (HD d (E.remove (rd N (i : Int))).2 :: _ :: RowOf eN 9 1 GA2 gc2 (G ++ [rd N (i : Int)]) :: RowOf eN 9 1 NA nc N :: Mp keyI bm kv ck :: Cl b1 (eM m A c) 32 :: L) := hs
            exact ⟨(i + 1, (E.remove (rd N (i : Int))).2, G ++ [rd N (i : Int)], GA2, gc2), _, FR_forget _ ⟨rfl, rfl, rfl, rfl, rfl, (by push_cast; rfl), trivial⟩, ⟨(hs1.picks [1]).drop1, hlt, hG.gone hlt hm h0⟩, by dsimp only; omega⟩
        · rcases hcase with hx | ⟨hx, rfl, rfl⟩
          case' inl => (repeat' (first | refine LW_strNe (a := rd N (i : Int)) (b := tmpN) rfl rfl rfl rfl (fun hne => absurd hx hne) (fun hne => ?_) | (refine isLW ?_; first | refine LW_nil ?_ | (refine isLg ?_; first | refine LW_pass rfl rfl ?_ | refine LW_passV rfl rfl rfl ?_) | (refine isLload ?_; first | refine LW_loadRd0 (hs.rd 2 rfl) (fun _ => rfl) TOK rfl (by assumption) rfl rfl (by omega) (by omega) rfl ?_) | (refine isLstore ?_; first | (refine LW_storeCA 0 TOK hs rfl rfl rfl rfl rfl (fun u h => by cases h) rfl (Nat.le_of_ble_eq_true rfl) ?_; clear hs; intro w hs)) | (refine isLcall ?_; first | (refine LW_call (cap := []) rfl rfl ent6 (hnum hs) ?_; clear hs; rintro _ w ⟨rfl, hs⟩) | (refine LW_call (cap := []) rfl rfl ent33 (remove_call W _ _ d E (rd N (i : Int)) (hs.picks [1]) hfE (by omega)) ?_; clear hs; rintro _ w ⟨rfl, hs⟩)) | (refine isLidx ?_; first | (refine LW_indexRd (hs.rd 2 rfl) TOK rfl rfl rfl rfl rfl (by omega) (by omega) ?_; intro _ _ _)) | (refine isLbin ?_; first | (refine LW_cmp rfl (fun _ => ?_) (fun _ => ?_) <;> try (exfalso; omega))) | refine LW_lookupOk keyI 3 (k := k) hs TOK rfl rfl rfl rfl rfl rfl rfl rfl hv1 hv2 ?_ | refine LW_pure TOK rfl ?_ | (refine LW_alloc TOK hs rfl rfl ?_; clear hs; intro _ w hs)) | (with_reducible first | refine then_n ?_ | refine CW_seq ?_ | refine CW_region ?_ | refine CW_block ?_ | refine CW_skip ?_ | refine CW_ret ?_ | refine then_r ?_ | refine blk_r ?_) | refine CW_true rfl ?_ | refine CW_false rfl ?_ | refine RET2 Tryd.results17 rfl rfl ?_))
          case' inr => (repeat' (first | refine LW_strNe (a := rd N (i : Int)) (b := tmpN) rfl rfl rfl rfl (fun hne => ?_) (fun hne => absurd hne hx) | (refine isLW ?_; first | refine LW_nil ?_ | (refine isLg ?_; first | refine LW_take rfl ?_) | (refine isLload ?_; first | refine LW_loadRd0 (hs.rd 2 rfl) (fun _ => rfl) TOK rfl (by assumption) rfl rfl (by omega) (by omega) rfl ?_) | (refine isLstore ?_; first | (refine LW_storeCA 0 TOK hs rfl rfl rfl rfl rfl (fun u h => by cases h) rfl (Nat.le_of_ble_eq_true rfl) ?_; clear hs; intro w hs)) | (refine isLcall ?_; first | (refine LW_call (cap := []) rfl rfl ent6 (hnum hs) ?_; clear hs; rintro _ w ⟨rfl, hs⟩) | (refine LW_call (cap := []) rfl rfl ent33 (remove_call W _ _ d E (rd N (i : Int)) (hs.picks [1]) hfE (by omega)) ?_; clear hs; rintro _ w ⟨rfl, hs⟩)) | (refine isLidx ?_; first | (refine LW_indexRd (hs.rd 2 rfl) TOK rfl rfl rfl rfl rfl (by omega) (by omega) ?_; intro _ _ _)) | (refine isLbin ?_; first | (refine LW_cmp rfl (fun _ => ?_) (fun _ => ?_) <;> try (exfalso; omega))) | refine LW_lookupOk keyI 3 (k := k) hs TOK rfl rfl rfl rfl rfl rfl rfl rfl hv1 hv2 ?_ | refine LW_pure TOK rfl ?_ | (refine LW_alloc TOK hs rfl rfl ?_; clear hs; intro _ w hs)) | (with_reducible first | refine then_n ?_ | refine CW_seq ?_ | refine CW_region ?_ | refine CW_block ?_ | refine CW_skip ?_ | refine CW_ret ?_ | refine then_r ?_ | refine blk_r ?_) | refine CW_true rfl ?_ | refine CW_false rfl ?_ | refine RET2 Tryd.results17 rfl rfl ?_))
          all_goals
            rw [hSM hdn (hG.fall hlt hm h0), if_neg h0]
            have hs1 : Sat W w (HD d (E.remove (rd N (i : Int))).2 :: _ :: RowOf eN 9 1 GA gc G :: RowOf eN 9 1 NA nc N :: Mp keyI bm kv ck :: Cl b1 (eM m A c) 32 :: L) := hs
            exact ⟨none, 0, rfl, (Sat.skipM hs1).nilRow 9 1⟩
      · rw [Bool.not_eq_true] at hm
        have hm2 := hm
        rw [hsw] at hm2
        have hx : ¬ rd N (i : Int) = tmpN := fun h => by rw [decide_eq_true h] at hm2; cases hm2
        rw [decide_eq_false hx, Bool.false_or] at hm2
        cases o with
        | false =>
          (repeat' (first | refine LW_strNe (a := rd N (i : Int)) (b := tmpN) rfl rfl rfl rfl (fun hne => ?_) (fun hne => absurd hne hx) | (refine isLW ?_; first | refine LW_nil ?_ | (refine isLg ?_; first | refine LW_take rfl ?_ | refine LW_pass rfl rfl ?_) | (refine isLload ?_; first | refine LW_loadRd0 (hs.rd 2 rfl) (fun _ => rfl) TOK rfl (by assumption) rfl rfl (by omega) (by omega) rfl ?_) | (refine isLstore ?_; first | (refine LW_storeCA 0 TOK hs rfl rfl rfl rfl rfl (fun u h => by cases h) rfl (Nat.le_of_ble_eq_true rfl) ?_; clear hs; intro w hs)) | (refine isLcall ?_; first | (refine LW_call (cap := []) rfl rfl ent6 (hnum hs) ?_; clear hs; rintro _ w ⟨rfl, hs⟩)) | (refine isLidx ?_; first | (refine LW_indexRd (hs.rd 2 rfl) TOK rfl rfl rfl rfl rfl (by omega) (by omega) ?_; intro _ _ _)) | (refine isLbin ?_; first | refine LW_i64 rfl (by omega) (by omega) ?_ | (refine LW_cmp rfl (fun _ => ?_) (fun _ => ?_) <;> try (exfalso; omega))) | refine LW_lookupOk keyI 3 (k := k) hs TOK rfl rfl rfl rfl rfl rfl rfl rfl hv1 hv2 ?_ | refine LW_pure TOK rfl ?_ | (refine LW_alloc TOK hs rfl rfl ?_; clear hs; intro _ w hs)) | (with_reducible first | refine then_n ?_ | refine CW_seq ?_ | refine CW_region ?_ | refine CW_block ?_ | refine CW_skip ?_ | refine CW_exit ?_ | refine then_e ?_ | refine blk_same ?_) | refine CW_true rfl ?_))
          exact ⟨(i + 1, E, G, GA, gc), _, FR_forget _ ⟨rfl, rfl, rfl, rfl, rfl, (by push_cast; rfl), trivial⟩, ⟨Sat.drop1 hs, hlt, hG.skip hlt hm⟩, by dsimp only; omega⟩
        | true =>
          cases q with
          | false => cases hm2
          | true =>
            (repeat' (first | refine LW_strNe (a := rd N (i : Int)) (b := tmpN) rfl rfl rfl rfl (fun hne => ?_) (fun hne => absurd hne hx) | (refine isLW ?_; first | refine LW_nil ?_ | (refine isLg ?_; first | refine LW_take rfl ?_) | (refine isLload ?_; first | refine LW_loadRd0 (hs.rd 2 rfl) (fun _ => rfl) TOK rfl (by assumption) rfl rfl (by omega) (by omega) rfl ?_) | (refine isLstore ?_; first | (refine LW_storeCA 0 TOK hs rfl rfl rfl rfl rfl (fun u h => by cases h) rfl (Nat.le_of_ble_eq_true rfl) ?_; clear hs; intro w hs)) | (refine isLcall ?_; first | (refine LW_call (cap := []) rfl rfl ent6 (hnum hs) ?_; clear hs; rintro _ w ⟨rfl, hs⟩)) | (refine isLidx ?_; first | (refine LW_indexRd (hs.rd 2 rfl) TOK rfl rfl rfl rfl rfl (by omega) (by omega) ?_; intro _ _ _)) | (refine isLbin ?_; first | refine LW_i64 rfl (by omega) (by omega) ?_ | (refine LW_cmp rfl (fun _ => ?_) (fun _ => ?_) <;> try (exfalso; omega))) | refine LW_lookupOk keyI 3 (k := k) hs TOK rfl rfl rfl rfl rfl rfl rfl rfl hv1 hv2 ?_ | refine LW_pure TOK rfl ?_ | (refine LW_alloc TOK hs rfl rfl ?_; clear hs; intro _ w hs)) | (with_reducible first | refine then_n ?_ | refine CW_seq ?_ | refine CW_region ?_ | refine CW_block ?_ | refine CW_skip ?_ | refine CW_exit ?_ | refine then_e ?_ | refine blk_same ?_) | refine CW_true rfl ?_))
            exact ⟨(i + 1, E, G, GA, gc), _, FR_forget _ ⟨rfl, rfl, rfl, rfl, rfl, (by push_cast; rfl), trivial⟩, ⟨Sat.drop1 hs, hlt, hG.skip hlt hm⟩, by dsimp only; omega⟩
    have hrm := hG.fin hlt
    have hS := hSM hdn hrm
    rw [if_pos rfl] at hS
    by_cases hGe : G = []
    · rw [hS, if_pos hGe]
      have hG0 : G.length = 0 := by rw [hGe]; rfl
      (repeat' (first | (refine isLW ?_; first | refine LW_nil ?_ | (refine isLcall ?_; first | refine LW_pure TOK rfl ?_) | (refine isLbin ?_; first | (refine LW_cmp rfl (fun _ => ?_) (fun _ => ?_) <;> try (exfalso; omega))) | refine LW_pure TOK rfl ?_) | (with_reducible first | refine then_n ?_ | refine CW_seq ?_ | refine CW_region ?_ | refine CW_skip ?_ | refine CW_exit ?_ | refine CW_ret ?_ | refine then_e ?_ | refine blk_same ?_) | refine CW_false rfl ?_ | refine RET2 Tryd.results17 rfl rfl ?_))
      subst hGe
      have hs1 : Sat W w (HD d E :: RowOf eN 9 1 GA gc [] :: RowOf eN 9 1 NA nc N :: Mp keyI bm kv ck :: Cl b1 (eM m A c) 32 :: L) := hs
      exact ⟨GA, gc, rfl, Sat.skipN (hs1.picks [1])⟩
    · rw [if_neg hGe] at hS
      have hGn : 0 < G.length := List.length_pos_iff.2 hGe
      by_cases h0 : E.syncdir.1 = 0
      · rw [hS, if_pos h0]
        (repeat' (first | (refine isLW ?_; first | refine LW_nil ?_ | (refine isLcall ?_; first | (refine LW_call (cap := []) rfl rfl ent34 (syncdir_call W _ _ d E hs) ?_; clear hs; rintro _ w ⟨rfl, hs⟩) | refine LW_pure TOK rfl ?_) | (refine isLbin ?_; first | (refine LW_cmp rfl (fun _ => ?_) (fun _ => ?_) <;> try (exfalso; omega))) | refine LW_pure TOK rfl ?_) | (with_reducible first | refine then_n ?_ | refine CW_seq ?_ | refine CW_region ?_ | refine CW_skip ?_ | refine CW_exit ?_ | refine CW_ret ?_ | refine then_e ?_ | refine blk_same ?_) | refine CW_true rfl ?_ | refine CW_false rfl ?_ | refine RET2 Tryd.results17 rfl rfl ?_))
        have hs1 : Sat W w (HD d E.syncdir.2 :: RowOf eN 9 1 GA gc G :: RowOf eN 9 1 NA nc N :: Mp keyI bm kv ck :: Cl b1 (eM m A c) 32 :: L) := hs
        exact ⟨GA, gc, rfl, Sat.skipN (hs1.picks [1])⟩
      · rw [hS, if_neg h0]
        (repeat' (first | (refine isLW ?_; first | refine LW_nil ?_ | (refine isLcall ?_; first | (refine LW_call (cap := []) rfl rfl ent34 (syncdir_call W _ _ d E hs) ?_; clear hs; rintro _ w ⟨rfl, hs⟩) | refine LW_pure TOK rfl ?_) | (refine isLbin ?_; first | (refine LW_cmp rfl (fun _ => ?_) (fun _ => ?_) <;> try (exfalso; omega))) | refine LW_pure TOK rfl ?_) | (with_reducible first | refine then_n ?_ | refine CW_seq ?_ | refine CW_region ?_ | refine CW_exit ?_ | refine CW_ret ?_ | refine then_e ?_ | refine then_r ?_ | refine blk_same ?_) | refine CW_true rfl ?_ | refine CW_false rfl ?_ | refine RET2 Tryd.results17 rfl rfl ?_))
        have hs1 : Sat W w (HD d E.syncdir.2 :: RowOf eN 9 1 GA gc G :: RowOf eN 9 1 NA nc N :: Mp keyI bm kv ck :: Cl b1 (eM m A c) 32 :: L) := hs
        exact ⟨none, 0, rfl, ((Sat.skipN hs1).picks [1]).drop1.nilRow 9 1⟩
end Go.Proofs.YthhklkpkhaibcaaDoor
