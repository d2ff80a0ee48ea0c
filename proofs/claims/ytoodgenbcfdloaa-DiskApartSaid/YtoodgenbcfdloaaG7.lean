/- Walks: how much room there is. -/
import Derived.Test.YtoodgenbcfdloaaG6
set_option linter.unusedVariables false
set_option linter.unusedSimpArgs false
namespace Go.Proofs.Ytoodgenbcfdloaa
open Go Go.Sl Go.RowKit
set_option maxRecDepth 100000
attribute [local irreducible] CW LW DW FR DP Calls

theorem ent_perm {X E : List Ent'} (hv : ∀ p ∈ X, p ∈ E) (hn : (X.map (·.2.2)).Nodup) (hk : (E.map (·.2.2)).Nodup) (hall : ∀ p ∈ E, p.2.2 ∈ X.map (·.2.2)) : X.Perm E := by
  have nd : ∀ {l : List Ent'}, (l.map (·.2.2)).Nodup → l.Nodup := fun h => (List.pairwise_map.1 h).imp fun h e => h (by rw [e])
  refine (List.perm_ext_iff_of_nodup (nd hn) (nd hk)).2 fun p => ⟨hv p, fun hp => ?_⟩
  obtain ⟨q, hq, hqb⟩ := List.mem_map.1 (hall p hp)
  have hinj : ∀ {l : List Ent'}, (l.map (·.2.2)).Nodup → ∀ a ∈ l, ∀ b ∈ l, a.2.2 = b.2.2 → a = b := by
    intro l
    induction l with
    | nil => intro _ a ha; cases ha
    | cons x l ih =>
      intro h a ha b hb e
      simp only [List.map_cons, List.nodup_cons] at h
      rcases List.mem_cons.1 ha with ea | ha2 <;> rcases List.mem_cons.1 hb with eb | hb2
      · rw [ea, eb]
      · rw [ea] at e; exact (h.1 (by rw [e]; exact List.mem_map_of_mem hb2)).elim
      · rw [eb] at e; exact (h.1 (by rw [← e]; exact List.mem_map_of_mem ha2)).elim
      · exact ih h.2 a ha2 b hb2 e
  rw [← hinj hk q (hv q hq) p hp hqb]; exact hq
theorem ent_len {X E : List Ent'} (hv : ∀ p ∈ X, p ∈ E) (hn : (X.map (·.2.2)).Nodup) : X.length ≤ E.length := by
  have h1 := len_le_of_nodup hn (l2 := E.map (·.2.2)) fun x hx => by
    obtain ⟨p, hp, rfl⟩ := List.mem_map.1 hx
    exact List.mem_map_of_mem (hv p hp)
  simpa using h1
theorem ent_sub {X E : List Ent'} (hv : ∀ p ∈ X, p ∈ E) (hn : (X.map (·.2.2)).Nodup) (g : Ent' → Nat) : (X.map g).sum ≤ (E.map g).sum := by
  induction X generalizing E with
  | nil => simp
  | cons x X ih =>
    obtain ⟨a, b, rfl⟩ := List.append_of_mem (hv x List.mem_cons_self)
    simp only [List.map_cons, List.nodup_cons] at hn
    have := ih (E := a ++ b) (fun p hp => by
      have h3 := hv p (List.mem_cons_of_mem _ hp)
      simp only [List.mem_append, List.mem_cons] at h3 ⊢
      rcases h3 with h3 | h3 | h3
      · exact .inl h3
      · subst h3; exact absurd (List.mem_map_of_mem hp) hn.1
      · exact .inr h3) hn.2
    simp at this ⊢; omega
def lenE (D : DS) (x : Ent') : Nat := (D.dat x.2.1).length
theorem lenL_of {E : List Ent'} {ck : Nat} {D : DS} (hm : MapOf E ck D.las) : (E.map (lenE D)).sum = D.lenL := by
  have := (hm.perm.map fun p => (D.dat p.2).length).sum_nat
  rw [List.map_map] at this
  exact this
theorem lenC_take (D : DS) {i : Nat} (hi : i < D.chs.length) : ((D.chs.take (i + 1)).map fun c => lenM D.fs c.made).sum = ((D.chs.take i).map fun c => lenM D.fs c.made).sum + lenM D.fs (D.chs[i]).made := by
  rw [List.take_add_one, List.getElem?_eq_getElem hi]
  simp only [Option.toList_some, List.map_append, List.map_cons, List.map_nil, List.sum_append, List.sum_cons, List.sum_nil, Nat.add_zero]
theorem lenC_le (D : DS) (i : Nat) : ((D.chs.take i).map fun c => lenM D.fs c.made).sum ≤ D.lenC := by
  have : D.lenC = ((D.chs.take i).map fun c => lenM D.fs c.made).sum + ((D.chs.drop i).map fun c => lenM D.fs c.made).sum := by
    unfold DS.lenC
    rw [← List.sum_append, ← List.map_append, List.take_append_drop]
  omega
theorem eC1 (a b : List UInt8) (q : Option Addr) : ∀ u ∈ [sv a, sv b, Value.pointer q], u.oneCell' = true := by
  intro u hu
  simp only [List.mem_cons, List.not_mem_nil, or_false] at hu
  rcases hu with rfl | rfl | rfl <;> rfl
set_option maxHeartbeats 1000000 in
theorem free_call (W w : World) (L : List HProp) (R : Rp) (d : Nat) (D : DS) (hs : Sat W w (R.L d D ++ L)) (ho : R.Of D) (hb : Bd D) (hr : D.taken ≤ 4611686018427387904) (hq : D.quota ≤ 4194304) (hl : D.chs.length ≤ 4398046511104) :
    Calls Try.prog 32 [Value.pointer (some ⟨d, 0, none⟩)].toArray w (Ret fun v w' => v = .int .i64 D.free ∧ Sat W w' (R.L d D ++ L)) := by
  refine Calls_of Try.func32 rfl 55 Try.ntmps32 rfl ?_
  unfold DS.free
  obtain ⟨E, hE⟩ : ∃ E, R.EL = E := ⟨_, rfl⟩
  have hm := ho.mL
  have hborn := hm.born R.bs
  have hnd := hm.ndst R.bs
  obtain ⟨q, fs, now, las, chs, left, down⟩ := D
  cases down with
  | true =>
    (repeat' (first | (refine isLW ?_; first | refine LW_nil ?_ | (refine isLload ?_; first | refine LW_loadC 0 TOK hs rfl rfl rfl rfl rfl ?_) | refine LW_pure TOK rfl ?_) | (with_reducible first | refine then_n ?_ | refine CW_seq ?_ | refine CW_region ?_ | refine CW_ret ?_ | refine then_r ?_) | refine CW_true rfl ?_ | refine RET1 Try.results32 rfl ?_))
    exact ⟨rfl, hs⟩
  | false =>
    rw [if_neg (by simp)]
    (repeat' (first | (refine isLW ?_; first | refine LW_nil ?_ | (refine isLload ?_; first | refine LW_loadC 0 TOK hs rfl rfl rfl rfl rfl ?_) | (refine LW_range keyN 2 hs TOK rfl rfl rfl rfl ?_; clear hs; intro qi w hs) | refine LW_pure TOK rfl ?_) | (with_reducible first | refine then_n ?_ | refine CW_seq ?_ | refine CW_region ?_ | refine CW_block ?_ | refine CW_skip ?_) | refine CW_false rfl ?_))
    refine CW_loop (γ := List Ent') (fun g => [(0, .pointer (some ⟨d, 0, none⟩)), (3, .int .i64 ((g.map (lenE ⟨q, fs, now, las, chs, left, false⟩)).sum : Nat)), (16, .pointer (some ⟨qi, 0, none⟩))])
      (fun g w' => Sat W w' (It qi R.bL R.ckL (kvs R.bs g) :: (R.L d ⟨q, fs, now, las, chs, left, false⟩ ++ L)) ∧ (∀ p ∈ g, p ∈ R.EL) ∧ (g.map (·.2.2)).Nodup) (fun g => R.EL.length - g.length) [] ⟨rfl, rfl, rfl, trivial⟩ ⟨hs, by simp, by simp⟩ ?_
    clear hs
    rintro X τ w ⟨hs, hv, hvn⟩
    dsimp only at hs hv hvn ⊢
    have hxl := ent_len hv hvn
    have hxs := ent_sub hv hvn (lenE ⟨q, fs, now, las, chs, left, false⟩)
    rw [lenL_of (D := ⟨q, fs, now, las, chs, left, false⟩) hm] at hxs
    obtain ⟨D0, hD0⟩ : ∃ D0 : DS, D0 = ⟨q, fs, now, las, chs, left, false⟩ := ⟨_, rfl⟩
    have hrr : D0.lenL + D0.lenC ≤ 4611686018427387904 := by rw [hD0]; exact hr
    have hchs : chs = D0.chs := by rw [hD0]
    have hquo : q = D0.quota := by rw [hD0]
    rw [← hD0] at ho hb hm hxs hs hr ⊢
    rw [hchs] at hl
    rw [hquo] at hq
    rw [hquo]
    dsimp only at hq hl
    have htk : D0.taken = D0.lenL + D0.lenC := rfl
    (repeat' (first | (refine isLW ?_; first | refine LW_nil ?_ | (refine LW_next keyN 3 0 hs rfl rfl rfl hborn (fun hall => ?_) (fun p w hp hpn hs => ?_)) | refine LW_entry keyN 3 0 hs rfl rfl rfl hp hnd ?_ | refine LW_pure TOK rfl ?_) | (with_reducible first | refine then_n ?_ | refine CW_seq ?_ | refine CW_region ?_ | refine CW_block ?_ | refine CW_skip ?_ | refine CW_exit ?_ | refine then_e ?_ | refine blk_same ?_) | refine CW_true rfl ?_ | refine CW_false rfl ?_))
    · have hpm := ent_perm hv hvn hm.st (fun p hp => by
        have := hall (p.1, ptv R.bs p.2.1, p.2.2) (List.mem_map.2 ⟨p, hp, rfl⟩)
        rwa [kvs_st] at this)
      have hsum : (X.map (lenE D0)).sum = D0.lenL := by rw [← lenL_of hm]; exact (hpm.map _).sum_nat
      rw [hsum]
      replace hs := hs.drop1
      clear hall hpm hxs hxl hv hvn hsum
      (repeat' (first | (refine isLW ?_; first | refine LW_nil ?_ | (refine isLload ?_; first | refine LW_loadC 0 TOK hs rfl rfl rfl rfl rfl ?_) | (refine isLcall ?_; first | refine LW_pure TOK rfl ?_) | refine LW_pure TOK rfl ?_) | (with_reducible first | refine then_n ?_ | refine CW_block ?_)))
      refine CW_loop (γ := Nat) (fun g => [(0, .pointer (some ⟨d, 0, none⟩)), (3, .int .i64 ((D0.lenL + ((D0.chs.take g).map fun c => lenM D0.fs c.made).sum : Nat) : Int)), (31, .slice R.A D0.chs.length R.c), (32, .int .i64 (D0.chs.length : Int)), (33, .int .i64 (g : Int))])
        (fun g w' => Sat W w' (R.L d D0 ++ L) ∧ g ≤ D0.chs.length) (fun g => D0.chs.length - g) 0 ⟨rfl, rfl, rfl, rfl, rfl, trivial⟩ ⟨hs, Nat.zero_le _⟩ ?_
      clear hs
      rintro i τ w ⟨hs, hi⟩
      try dsimp only at hs hi ⊢
      have hle := lenC_le D0 i
      by_cases hlt : i < D0.chs.length
      · have hnx := lenC_take D0 hlt
        have hle2 := lenC_le D0 (i + 1)
        obtain ⟨⟨ca, cb, cm⟩, hc⟩ : ∃ c, rd D0.chs (i : Int) = c := ⟨_, rfl⟩
        have hrd : rd D0.chs (i : Int) = D0.chs[i] := by unfold rd; simp [List.getD, hlt]
        rw [← hrd, hc] at hnx
        have hmem : (⟨ca, cb, cm⟩ : Chg) ∈ D0.chs := by rw [← hc, hrd]; exact List.getElem_mem hlt
        cases cm with
        | none =>
          (repeat' (first | (refine isLW ?_; first | refine LW_nil ?_ | (refine isLload ?_; first | refine LW_loadRdA (vs := [sv ca, sv cb, .pointer none]) (hs.rd 3 rfl) (fun _ => rfl) TOK rfl (by assumption) rfl rfl rfl (by omega) (by omega) (by rw [hc]; rfl) ?_ | refine LW_loadC 0 TOK hs rfl rfl rfl rfl rfl ?_) | (refine isLstore ?_; first | (refine LW_storeCA 0 TOK hs rfl rfl rfl rfl rfl (eC1 _ _ _) rfl (Nat.le_of_ble_eq_true rfl) ?_; clear hs; intro w hs)) | (refine isLidx ?_; first | (refine LW_indexRd (hs.rd 3 rfl) TOK rfl rfl rfl rfl rfl (by omega) (by omega) ?_; intro _ _ _)) | (refine isLbin ?_; first | refine LW_i64 rfl (by omega) (by omega) ?_ | (refine LW_cmp rfl (fun _ => ?_) (fun _ => ?_) <;> try (exfalso; omega)) | refine LW_nileq TOK rfl ?_) | refine LW_pure TOK rfl ?_ | (refine LW_alloc TOK hs rfl rfl ?_; clear hs; intro _ w hs)) | (with_reducible first | refine then_n ?_ | refine CW_seq ?_ | refine CW_region ?_ | refine CW_block ?_ | refine CW_skip ?_ | refine blk_n ?_) | refine CW_true rfl ?_ | refine CW_false rfl ?_))
          refine ⟨i + 1, _, FR_forget _ ⟨rfl, ?_, rfl, rfl, rfl, trivial⟩, ⟨hs.drop1, by omega⟩, by omega⟩
          rw [hnx]; rfl
        | some j =>
          have hj := hb.chs _ hmem j rfl
          (repeat' (first | (refine isLW ?_; first | refine LW_nil ?_ | (refine isLload ?_; first | refine LW_loadRdA (vs := [sv ca, sv cb, ptv R.bs j]) (hs.rd 3 rfl) (fun _ => rfl) TOK rfl (by assumption) rfl rfl rfl (by omega) (by omega) (by rw [hc]; rfl) ?_ | refine LW_loadC 0 TOK hs rfl rfl rfl rfl rfl ?_) | (refine isLstore ?_; first | (refine LW_storeCA 0 TOK hs rfl rfl rfl rfl rfl (eC1 _ _ _) rfl (Nat.le_of_ble_eq_true rfl) ?_; clear hs; intro w hs)) | (refine isLidx ?_; first | (refine LW_indexRd (hs.rd 3 rfl) TOK rfl rfl rfl rfl rfl (by omega) (by omega) ?_; intro _ _ _)) | (refine isLbin ?_; first | (refine LW_cmp rfl (fun _ => ?_) (fun _ => ?_) <;> try (exfalso; omega)) | refine LW_nileq TOK rfl ?_) | refine LW_pure TOK rfl ?_ | (refine LW_alloc TOK hs rfl rfl ?_; clear hs; intro _ w hs)) | (with_reducible first | refine then_n ?_ | refine CW_seq ?_ | refine CW_region ?_ | refine CW_block ?_ | refine CW_skip ?_) | refine CW_true rfl ?_))
          obtain ⟨f, l1, l2, hF, hl1, hf, hg, hs⟩ := Sat.openF (L := _ :: L) (hs.picks [1, 1, 1, 1, 1]) ho hj
          simp only [ptv, hg]
          have hle3 : f.f.data.length = lenM D0.fs (some j) := by rw [hf]; rfl
          dsimp only at hnx
          (repeat' (first | (refine isLW ?_; first | refine LW_nil ?_ | (refine isLload ?_; first | refine LW_loadC 0 TOK hs rfl rfl rfl rfl rfl ?_) | (refine isLcall ?_; first | refine LW_pure TOK rfl ?_) | (refine isLbin ?_; first | refine LW_i64 rfl (by omega) (by omega) ?_) | refine LW_pure TOK rfl ?_) | (with_reducible first | refine then_n ?_ | refine CW_region ?_ | refine blk_n ?_)))
          have hs2 := Sat.shutF hF hs
          refine ⟨i + 1, _, FR_forget _ ⟨rfl, ?_, rfl, rfl, rfl, trivial⟩, ⟨(hs2.picks [5]).drop1, by omega⟩, by omega⟩
          show some (Value.int .i64 _) = some (Value.int .i64 _)
          rw [hnx, ← hle3]
          congr 2; push_cast; omega
      · (repeat' (first | (refine isLW ?_; first | refine LW_nil ?_ | (refine isLload ?_; first | refine LW_loadC 0 TOK hs rfl rfl rfl rfl rfl ?_) | (refine isLbin ?_; first | refine LW_i64 rfl (by omega) (by omega) ?_ | (refine LW_cmp rfl (fun _ => ?_) (fun _ => ?_) <;> try (exfalso; omega))) | refine LW_pure TOK rfl ?_) | (with_reducible first | refine then_n ?_ | refine CW_seq ?_ | refine CW_region ?_ | refine CW_exit ?_ | refine CW_ret ?_ | refine then_e ?_ | refine blk_same ?_) | refine CW_false rfl ?_ | refine RET1 Try.results32 rfl ?_))
        refine ⟨?_, hs⟩
        have h9 : ((D0.chs.take i).map fun c => lenM D0.fs c.made).sum = D0.lenC := by rw [List.take_of_length_le (by omega)]; rfl
        rw [h9, ← htk]
    · obtain ⟨x, hx, rfl⟩ := List.mem_map.1 hp
      have hxi : x.2.1 < D0.fs.length := hb.las _ (List.mem_map.2 ⟨_, hm.mem hx, rfl⟩)
      obtain ⟨f, l1, l2, hF, hl1, hf, hg, hs⟩ := Sat.openF (L := _ :: L) (hs.picks [1, 1, 1, 1, 1]) ho hxi
      dsimp only
      simp only [ptv, hg]
      have hle : f.f.data.length = lenE D0 x := by rw [hf]; rfl
      have hX2 := ent_sub (X := X ++ [x]) (E := R.EL) (fun p hp => by
        rcases List.mem_append.1 hp with hp | hp
        · exact hv p hp
        · rw [List.mem_singleton] at hp; subst hp; exact hx) (by
        rw [List.map_append, List.nodup_append]
        refine ⟨hvn, by simp, ?_⟩
        intro a ha b hb hab
        simp at hb; subst hb; subst hab
        exact hpn (by rw [kvs_st]; exact ha)) (lenE D0)
      rw [lenL_of hm] at hX2
      have hsn : ((X ++ [x]).map (lenE D0)).sum = (X.map (lenE D0)).sum + lenE D0 x := by simp
      rw [hsn] at hX2
      (repeat' (first | (refine isLW ?_; first | refine LW_nil ?_ | (refine isLload ?_; first | refine LW_loadC 0 TOK hs rfl rfl rfl rfl rfl ?_) | (refine isLcall ?_; first | refine LW_pure TOK rfl ?_) | (refine isLbin ?_; first | refine LW_i64 rfl (by omega) (by omega) ?_) | refine LW_pure TOK rfl ?_) | (with_reducible first | refine then_n ?_ | refine blk_n ?_)))
      have hs2 := Sat.shutF hF hs
      refine ⟨X ++ [x], _, FR_forget _ ⟨rfl, ?_, rfl, trivial⟩, ⟨?_, ?_, ?_⟩, ?_⟩
      · show some (Value.int .i64 _) = some (Value.int .i64 _)
        rw [hsn, hle]
        congr 2
      · have h5 := hs2.picks [5]
        have e : kvs R.bs (X ++ [x]) = kvs R.bs X ++ [(x.1, ptv R.bs x.2.1, x.2.2)] := by rw [kvs_append]; rfl
        rw [e]
        exact h5
      · intro p hp
        rcases List.mem_append.1 hp with hp | hp
        · exact hv p hp
        · rw [List.mem_singleton] at hp; subst hp; exact hx
      · rw [List.map_append, List.nodup_append]
        refine ⟨hvn, by simp, ?_⟩
        intro a ha b hb hab
        simp at hb; subst hb; subst hab
        exact hpn (by rw [kvs_st]; exact ha)
      · have h8 := ent_len (X := X ++ [x]) (E := R.EL) (fun p hp => by
          rcases List.mem_append.1 hp with hp | hp
          · exact hv p hp
          · rw [List.mem_singleton] at hp; subst hp; exact hx) (by
          rw [List.map_append, List.nodup_append]
          refine ⟨hvn, by simp, ?_⟩
          intro a ha b hb hab
          simp at hb; subst hb; subst hab
          exact hpn (by rw [kvs_st]; exact ha))
        rw [List.length_append, List.length_singleton] at h8 ⊢
        omega
end Go.Proofs.Ytoodgenbcfdloaa
