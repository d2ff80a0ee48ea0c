/- Walks: the container of numbers. -/
import Derived.Test.YtaofhbjlbdpjhaaSlB
import Derived.Test.YtaofhbjlbdpjhaaTy
set_option linter.unusedVariables false
set_option linter.unusedSimpArgs false
namespace Go.Proofs.Ytaofhbjlbdpjhaa
open Go Go.Sl Go.RowKit
set_option maxRecDepth 100000
attribute [local irreducible] CW LW DW FR DP Calls

abbrev muL (mu : Mu Int) : List HProp := mu.L eI 3 109
theorem totE_le {α : Type} {E : List (MEnt α)} {e : MEnt α} (h : e ∈ E) : e.vals.length ≤ totE E := by
  obtain ⟨E1, E2, rfl⟩ := List.append_of_mem h
  rw [totE_mid]; omega
theorem Add_old (W w : World) (L : List HProp) (mu : Mu Int) (l : List (Int × Int)) (E1 E2 : List (MEnt Int)) (e : MEnt Int) (k v : Int) (hE : mu.E = E1 ++ e :: E2) (hk : e.key = k) (h1 : ∀ x ∈ E1, ¬ k = x.key) (h2 : ∀ x ∈ E2, ¬ k = x.key) (hs : Sat W w (muL mu ++ L)) (ho : mu.Of l) (hl : l.length ≤ 100000000) :
    Calls Try.prog 22 [Value.pointer (some ⟨mu.m, 0, none⟩), .int .i64 k, .int .i64 v].toArray w (Ret fun r w' => r = .tuple #[] ∧ ∃ mu', mu'.m = mu.m ∧ mu'.b = mu.b ∧ mu'.Of (l ++ [(k, v)]) ∧ mu.grows mu' ∧ Sat W w' (muL mu' ++ L)) := by
  refine Calls_of Try.func22 rfl 27 Try.ntmps22 rfl ?_
  have ht := ho.tot
  obtain ⟨m, b, ck, E, R⟩ := mu
  simp only at hE ht
  subst hE
  have hlen : e.vals.length ≤ 100000000 := by rw [totE_mid] at ht; omega
  have htl : totE (E1 ++ e :: E2) ≤ 100000000 := by omega
  have hs0 : Sat W w ([Cl m [.map (some b), .int .i64 (totE (E1 ++ e :: E2))] 109, Mp keyI b (kvsE (E1 ++ e :: E2)) ck] ++ Big (rowsE eI 3 E1 ++ RowOf eI 3 1 e.A e.c e.vals :: rowsE eI 3 E2) :: (Big (rowsE eI 3 R) :: L)) := by
    have e1 : rowsE eI 3 (E1 ++ e :: E2) = rowsE eI 3 E1 ++ RowOf eI 3 1 e.A e.c e.vals :: rowsE eI 3 E2 := by simp [rowsE]
    rw [← e1]; exact hs
  clear hs
  have hs := hs0.openBig
  clear hs0
  rw [← rowsE_append] at hs
  have hkv : ∀ p ∈ kvsE E1, ¬ k = p.1 := kvsE_keys h1
  have hkk : kvsE (E1 ++ e :: E2) = kvsE E1 ++ (k, .slice e.A e.vals.length e.c, e.born) :: kvsE E2 := by subst hk; simp [kvsE]
  have hfv : (findV (kvsE (E1 ++ e :: E2)) k).getD (.slice none 0 0) = .slice e.A e.vals.length e.c := by rw [hkk, findV_mid hkv]; rfl
  (repeat' (first | (refine isLW ?_; first | refine LW_nil ?_ | (refine isLg ?_; first | refine LW_take rfl ?_ | refine LW_pass rfl rfl ?_ | refine LW_pass0 rfl rfl ?_ | refine LW_passV rfl rfl rfl ?_) | (refine isLload ?_; first | refine LW_loadC 0 TOK hs rfl rfl rfl rfl rfl ?_ | refine LW_loadC 1 TOK hs rfl rfl rfl rfl rfl ?_ | refine LW_loadC 2 TOK hs rfl rfl rfl rfl rfl ?_ | refine LW_loadC 3 TOK hs rfl rfl rfl rfl rfl ?_) | (refine isLstore ?_; first | (refine LW_storeC 0 TOK hs rfl rfl rfl rfl rfl rfl rfl ?_; clear hs; intro w hs) | (refine LW_storeC 1 TOK hs rfl rfl rfl rfl rfl rfl rfl ?_; clear hs; intro w hs) | (refine LW_storeC 2 TOK hs rfl rfl rfl rfl rfl rfl rfl ?_; clear hs; intro w hs) | (refine LW_storeC 3 TOK hs rfl rfl rfl rfl rfl rfl rfl ?_; clear hs; intro w hs)) | (refine isLcall ?_; first | (refine LW_appendK eI_ok hs TOK rfl rfl rfl rfl rfl rfl rfl rfl rfl (by unfold maxLen; omega) (by simp only []; omega) ?_; clear hs; intro A' c' K w hK hs) | refine LW_pure TOK rfl ?_ | refine LW_pure0 TOK rfl ?_) | (refine isLidx ?_; first | refine LW_indexAddr TOK rfl rfl rfl rfl rfl (by omega) (by omega) ?_) | (refine isLbin ?_; first | refine LW_pure TOK rfl ?_ | refine LW_i64 rfl (by omega) (by omega) ?_ | (refine LW_cmp rfl (fun _ => ?_) (fun _ => ?_) <;> try (exfalso; omega)) | refine LW_nileq TOK rfl ?_ | refine LW_cmpB rfl ?_) | (refine LW_mapUpdate keyI 3 hs TOK rfl rfl rfl rfl rfl rfl rfl rfl ?_; clear hs; intro w hs) | refine LW_pure TOK rfl ?_ | refine LW_pure0 TOK rfl ?_ | refine LW_i64 rfl (by omega) (by omega) ?_ | (refine LW_box hs rfl rfl ?_; clear hs; intro _ w hs) | (refine LW_alloc TOK hs rfl rfl ?_; clear hs; intro _ w hs) | (refine LW_makeMap hs ?_; clear hs; intro _ w hs) | (refine LW_buildSlice TOK hs rfl rfl rfl rfl rfl rfl rfl ?_; clear hs; intro _ w hs) | refine LW_build TOK rfl rfl rfl rfl rfl rfl ?_) | (refine isDP ?_; first | (refine isDnil ?_; refine DP_end ?_ ?_) | (refine isDe rfl ?_; refine DP_eff rfl rfl ?_ ?_) | (refine isDg rfl ?_; first | refine DP_pass rfl rfl rfl rfl ?_ | refine DP_passU (j' := 0) rfl rfl rfl rfl rfl ?_) | (refine isDload rfl ?_; first | refine DP_loadC 0 hs TOK rfl rfl (by first | exact trivial | rfl) rfl rfl rfl rfl rfl ?_ ?_ | refine DP_loadC 1 hs TOK rfl rfl (by first | exact trivial | rfl) rfl rfl rfl rfl rfl ?_ ?_ | refine DP_loadC 2 hs TOK rfl rfl (by first | exact trivial | rfl) rfl rfl rfl rfl rfl ?_ ?_ | refine DP_loadC 3 hs TOK rfl rfl (by first | exact trivial | rfl) rfl rfl rfl rfl rfl ?_ ?_) | (refine isDbin rfl ?_; first | refine DP_pure TOK rfl rfl (by first | exact trivial | rfl) rfl ?_ | (refine DP_cmp rfl rfl (by first | exact trivial | rfl) rfl (fun _ => ?_) (fun _ => ?_) <;> try (exfalso; omega)) | refine DP_i64 rfl rfl (by first | exact trivial | rfl) rfl (by omega) (by omega) ?_ | refine DP_cmpB rfl rfl (by first | exact trivial | rfl) rfl ?_ | refine DP_nileq TOK rfl rfl (by first | exact trivial | rfl) rfl ?_) | refine DP_lookup keyI 2 hs TOK rfl rfl trivial rfl rfl rfl rfl rfl rfl rfl rfl hfv ?_ ?_ | refine DP_pure TOK rfl rfl (by first | exact trivial | rfl) rfl ?_) | (refine isI0 ?_; exact Inv.nil) | (refine isI1 ?_; first | refine Inv.keepB hs ?_ | refine Inv.keepB (Sat.start _) ?_ | refine Inv.keepC 0 hs rfl rfl ?_ | refine Inv.keepC 1 hs rfl rfl ?_ | refine Inv.keepC 2 hs rfl rfl ?_ | refine Inv.keepC 3 hs rfl rfl ?_ | refine Inv.keepM keyI 0 hs rfl ?_ | refine Inv.keepM keyI 1 hs rfl ?_ | refine Inv.keepM keyI 2 hs rfl ?_ | refine Inv.keepM keyI 3 hs rfl ?_ | refine Inv.gone (by kernel_rfl) ?_) | (with_reducible first | refine LW_nil ?_ | refine then_n ?_ | refine CW_seq ?_ | refine CW_region ?_ | refine CW_block ?_ | refine CW_skip ?_ | refine CW_label ?_ | refine CW_exit ?_ | refine CW_ret ?_ | refine then_e ?_ | refine then_r ?_ | refine blk_n ?_ | refine blk_r ?_ | refine blk_same ?_ | refine QN_n ?_) | refine blk_other rfl ?_ | refine CW_true rfl ?_ | refine CW_false rfl ?_ | (refine CW_drawP (id := 0) [12, 13, 14] [0, 1, 2, 3, 4, 5, 6, 7, 8, 9, 10, 11, 12, 13, 14] mixed (by kernel_rfl) hs ?_; clear hs; intro hs) | refine RET1 Try.results22 rfl ?_ | refine RET2 Try.results22 rfl rfl ?_ | refine RET3 Try.results22 rfl rfl rfl ?_ | refine RET0 Try.results22 ?_ | refine RET0n Try.results22 ?_))
  obtain ⟨Kl, hKl, hgr⟩ : ∃ Kl, K = rowsE eI 3 Kl ∧ ∃ e' ∈ { e with A := A', c := c', vals := e.vals ++ [v] } :: Kl, e'.A = e.A ∧ e.vals <+: e'.vals := by
    rcases hK with ⟨h3, h4⟩ | h3
    · exact ⟨[], h3, _, List.mem_cons_self, h4, List.prefix_append _ _⟩
    · exact ⟨[e], h3, e, by simp, rfl, List.prefix_refl _⟩
  subst hKl
  refine ⟨rfl, ⟨m, b, ck, E1 ++ { e with A := A', c := c', vals := e.vals ++ [v] } :: E2, Kl ++ R⟩, rfl, rfl, ?_, ?_, ?_⟩
  · subst hk; exact ho.add_old rfl h1 h2 v A' c' _
  · intro x hx
    simp only [List.mem_append, List.mem_cons] at hx
    obtain ⟨e', he', h5, h6⟩ := hgr
    rcases hx with (hx | rfl | hx) | hx
    · exact ⟨x, by simp [hx], rfl, List.prefix_refl _⟩
    · refine ⟨e', ?_, h5, h6⟩
      rcases List.mem_cons.1 he' with rfl | he'
      · simp
      · simp [he']
    · exact ⟨x, by simp [hx], rfl, List.prefix_refl _⟩
    · exact ⟨x, by simp [hx], rfl, List.prefix_refl _⟩
  · rw [hkk, putV_mid hkv, putCk_mid hkv] at hs
    have hc : ((totE (E1 ++ { e with A := A', c := c', vals := e.vals ++ [v] } :: E2) : Nat) : Int) = (totE (E1 ++ e :: E2) : Int) + 1 := by rw [totE_mid, totE_mid]; simp; omega
    have hkk' : kvsE (E1 ++ { e with A := A', c := c', vals := e.vals ++ [v] } :: E2) = kvsE E1 ++ (k, .slice A' (e.vals ++ [v]).length c', e.born) :: kvsE E2 := by subst hk; simp [kvsE]
    show Sat W w ([Cl m [.map (some b), .int .i64 (totE (E1 ++ { e with A := A', c := c', vals := e.vals ++ [v] } :: E2))] 109, Mp keyI b (kvsE (E1 ++ { e with A := A', c := c', vals := e.vals ++ [v] } :: E2)) ck] ++ Big (rowsE eI 3 (E1 ++ { e with A := A', c := c', vals := e.vals ++ [v] } :: E2)) :: Big (rowsE eI 3 (Kl ++ R)) :: L)
    rw [hc, hkk', rowsE_append eI 3 Kl R, rowsE_append]
    rw [rowsE_append] at hs
    exact Sat.closeMu hs
theorem Add_new (W w : World) (L : List HProp) (mu : Mu Int) (l : List (Int × Int)) (k v : Int) (h1 : ∀ x ∈ mu.E, ¬ k = x.key) (hg : getK l k = []) (hs : Sat W w (muL mu ++ L)) (ho : mu.Of l) (hl : l.length ≤ 100000000) :
    Calls Try.prog 22 [Value.pointer (some ⟨mu.m, 0, none⟩), .int .i64 k, .int .i64 v].toArray w (Ret fun r w' => r = .tuple #[] ∧ ∃ mu', mu'.m = mu.m ∧ mu'.b = mu.b ∧ mu'.Of (l ++ [(k, v)]) ∧ mu.grows mu' ∧ Sat W w' (muL mu' ++ L)) := by
  refine Calls_of Try.func22 rfl 27 Try.ntmps22 rfl ?_
  have ht := ho.tot
  obtain ⟨m, b, ck, E, R⟩ := mu
  simp only at h1 ht
  have htl : totE E ≤ 100000000 := by omega
  have hs0 := hs.nilRow 3 1
  clear hs
  have hs : Sat W w (RowOf eI 3 1 none 0 ([] : List Int) :: ([Cl m [.map (some b), .int .i64 (totE E)] 109, Mp keyI b (kvsE E) ck] ++ Big (rowsE eI 3 E ++ []) :: (Big (rowsE eI 3 R) :: L))) := by
    rw [List.append_nil]; exact hs0
  clear hs0
  have hkv : ∀ p ∈ kvsE E, ¬ k = p.1 := kvsE_keys h1
  have hfv : (findV (kvsE E) k).getD (.slice none 0 0) = .slice none ([] : List Int).length 0 := by rw [findV_none hkv]; rfl
  (repeat' (first | (refine isLW ?_; first | refine LW_nil ?_ | (refine isLg ?_; first | refine LW_take rfl ?_ | refine LW_pass rfl rfl ?_ | refine LW_pass0 rfl rfl ?_ | refine LW_passV rfl rfl rfl ?_) | (refine isLload ?_; first | refine LW_loadC 0 TOK hs rfl rfl rfl rfl rfl ?_ | refine LW_loadC 1 TOK hs rfl rfl rfl rfl rfl ?_ | refine LW_loadC 2 TOK hs rfl rfl rfl rfl rfl ?_ | refine LW_loadC 3 TOK hs rfl rfl rfl rfl rfl ?_) | (refine isLstore ?_; first | (refine LW_storeC 0 TOK hs rfl rfl rfl rfl rfl rfl rfl ?_; clear hs; intro w hs) | (refine LW_storeC 1 TOK hs rfl rfl rfl rfl rfl rfl rfl ?_; clear hs; intro w hs) | (refine LW_storeC 2 TOK hs rfl rfl rfl rfl rfl rfl rfl ?_; clear hs; intro w hs) | (refine LW_storeC 3 TOK hs rfl rfl rfl rfl rfl rfl rfl ?_; clear hs; intro w hs)) | (refine isLcall ?_; first | (refine LW_appendK eI_ok hs TOK rfl rfl rfl rfl rfl rfl rfl rfl rfl (by decide) (by decide) ?_; clear hs; intro A' c' K w hK hs) | refine LW_pure TOK rfl ?_ | refine LW_pure0 TOK rfl ?_) | (refine isLidx ?_; first | refine LW_indexAddr TOK rfl rfl rfl rfl rfl (by omega) (by omega) ?_) | (refine isLbin ?_; first | refine LW_pure TOK rfl ?_ | refine LW_i64 rfl (by omega) (by omega) ?_ | (refine LW_cmp rfl (fun _ => ?_) (fun _ => ?_) <;> try (exfalso; omega)) | refine LW_nileq TOK rfl ?_ | refine LW_cmpB rfl ?_) | (refine LW_mapUpdate keyI 3 hs TOK rfl rfl rfl rfl rfl rfl rfl rfl ?_; clear hs; intro w hs) | refine LW_pure TOK rfl ?_ | refine LW_pure0 TOK rfl ?_ | refine LW_i64 rfl (by omega) (by omega) ?_ | (refine LW_box hs rfl rfl ?_; clear hs; intro _ w hs) | (refine LW_alloc TOK hs rfl rfl ?_; clear hs; intro _ w hs) | (refine LW_makeMap hs ?_; clear hs; intro _ w hs) | (refine LW_buildSlice TOK hs rfl rfl rfl rfl rfl rfl rfl ?_; clear hs; intro _ w hs) | refine LW_build TOK rfl rfl rfl rfl rfl rfl ?_) | (refine isDP ?_; first | (refine isDnil ?_; refine DP_end ?_ ?_) | (refine isDe rfl ?_; refine DP_eff rfl rfl ?_ ?_) | (refine isDg rfl ?_; first | refine DP_pass rfl rfl rfl rfl ?_ | refine DP_passU (j' := 0) rfl rfl rfl rfl rfl ?_) | (refine isDload rfl ?_; first | refine DP_loadC 0 hs TOK rfl rfl (by first | exact trivial | rfl) rfl rfl rfl rfl rfl ?_ ?_ | refine DP_loadC 1 hs TOK rfl rfl (by first | exact trivial | rfl) rfl rfl rfl rfl rfl ?_ ?_ | refine DP_loadC 2 hs TOK rfl rfl (by first | exact trivial | rfl) rfl rfl rfl rfl rfl ?_ ?_ | refine DP_loadC 3 hs TOK rfl rfl (by first | exact trivial | rfl) rfl rfl rfl rfl rfl ?_ ?_) | (refine isDbin rfl ?_; first | refine DP_pure TOK rfl rfl (by first | exact trivial | rfl) rfl ?_ | (refine DP_cmp rfl rfl (by first | exact trivial | rfl) rfl (fun _ => ?_) (fun _ => ?_) <;> try (exfalso; omega)) | refine DP_i64 rfl rfl (by first | exact trivial | rfl) rfl (by omega) (by omega) ?_ | refine DP_cmpB rfl rfl (by first | exact trivial | rfl) rfl ?_ | refine DP_nileq TOK rfl rfl (by first | exact trivial | rfl) rfl ?_) | refine DP_lookup keyI 2 hs TOK rfl rfl trivial rfl rfl rfl rfl rfl rfl rfl rfl hfv ?_ ?_ | refine DP_pure TOK rfl rfl (by first | exact trivial | rfl) rfl ?_) | (refine isI0 ?_; exact Inv.nil) | (refine isI1 ?_; first | refine Inv.keepB hs ?_ | refine Inv.keepB (Sat.start _) ?_ | refine Inv.keepC 0 hs rfl rfl ?_ | refine Inv.keepC 1 hs rfl rfl ?_ | refine Inv.keepC 2 hs rfl rfl ?_ | refine Inv.keepC 3 hs rfl rfl ?_ | refine Inv.keepM keyI 0 hs rfl ?_ | refine Inv.keepM keyI 1 hs rfl ?_ | refine Inv.keepM keyI 2 hs rfl ?_ | refine Inv.keepM keyI 3 hs rfl ?_ | refine Inv.gone (by kernel_rfl) ?_) | (with_reducible first | refine LW_nil ?_ | refine then_n ?_ | refine CW_seq ?_ | refine CW_region ?_ | refine CW_block ?_ | refine CW_skip ?_ | refine CW_label ?_ | refine CW_exit ?_ | refine CW_ret ?_ | refine then_e ?_ | refine then_r ?_ | refine blk_n ?_ | refine blk_r ?_ | refine blk_same ?_ | refine QN_n ?_) | refine blk_other rfl ?_ | refine CW_true rfl ?_ | refine CW_false rfl ?_ | (refine CW_drawP (id := 0) [12, 13, 14] [0, 1, 2, 3, 4, 5, 6, 7, 8, 9, 10, 11, 12, 13, 14] mixed (by kernel_rfl) hs ?_; clear hs; intro hs) | refine RET1 Try.results22 rfl ?_ | refine RET2 Try.results22 rfl rfl ?_ | refine RET3 Try.results22 rfl rfl rfl ?_ | refine RET0 Try.results22 ?_ | refine RET0n Try.results22 ?_))
  obtain ⟨Kl, hKl⟩ : ∃ Kl : List (MEnt Int), K = rowsE eI 3 Kl := by
    rcases hK with ⟨h3, h4⟩ | h3
    · exact ⟨[], h3⟩
    · exact ⟨[⟨k, none, 0, 0, []⟩], h3⟩
  subst hKl
  refine ⟨rfl, ⟨m, b, ck + 1, E ++ [⟨k, A', c', ck, [v]⟩], Kl ++ R⟩, rfl, rfl, ?_, ?_, ?_⟩
  · exact ho.add_new h1 hg v A' c' _
  · intro x hx
    simp only [List.mem_append] at hx
    rcases hx with hx | hx <;> exact ⟨x, by simp [hx], rfl, List.prefix_refl _⟩
  · rw [putV_new hkv, putCk_new hkv] at hs
    have hc : ((totE (E ++ [⟨k, A', c', ck, [v]⟩]) : Nat) : Int) = (totE E : Int) + 1 := by rw [totE_mid, List.append_nil]; simp
    have hkk' : kvsE (E ++ [(⟨k, A', c', ck, [v]⟩ : MEnt Int)]) = kvsE E ++ [(k, .slice A' [v].length c', ck)] := by simp [kvsE]
    show Sat W w ([Cl m [.map (some b), .int .i64 (totE (E ++ [⟨k, A', c', ck, [v]⟩]))] 109, Mp keyI b (kvsE (E ++ [⟨k, A', c', ck, [v]⟩])) (ck + 1)] ++ Big (rowsE eI 3 (E ++ [⟨k, A', c', ck, [v]⟩])) :: Big (rowsE eI 3 (Kl ++ R)) :: L)
    rw [hc, hkk', rowsE_append eI 3 Kl R, rowsE_append]
    exact Sat.closeMu (l2 := []) hs
theorem Add_call (W w : World) (L : List HProp) (mu : Mu Int) (l : List (Int × Int)) (k v : Int) (hs : Sat W w (muL mu ++ L)) (ho : mu.Of l) (hl : l.length ≤ 100000000) :
    Calls Try.prog 22 [Value.pointer (some ⟨mu.m, 0, none⟩), .int .i64 k, .int .i64 v].toArray w (Ret fun r w' => r = .tuple #[] ∧ ∃ mu', mu'.m = mu.m ∧ mu'.b = mu.b ∧ mu'.Of (l ++ [(k, v)]) ∧ mu.grows mu' ∧ Sat W w' (muL mu' ++ L)) := by
  rcases ho.find k with ⟨E1, e, E2, hE, hk, h1, h2, _⟩ | ⟨h1, hg⟩
  · exact Add_old W w L mu l E1 E2 e k v hE hk h1 h2 hs ho hl
  · exact Add_new W w L mu l k v h1 hg hs ho hl
end Go.Proofs.Ytaofhbjlbdpjhaa
