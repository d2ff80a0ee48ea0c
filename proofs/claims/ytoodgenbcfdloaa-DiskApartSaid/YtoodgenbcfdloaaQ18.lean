/- Two disks, the program's and the document's, side by side; walks: loaded. -/
import Derived.Test.YtoodgenbcfdloaaQ16
import Derived.Test.YtoodgenbcfdloaaG22
set_option linter.unusedVariables false
set_option linter.unusedSimpArgs false
namespace Go.Proofs.Ytoodgenbcfdloaa
open Go Go.Sl Go.RowKit
set_option maxRecDepth 100000
attribute [local irreducible] CW LW DW FR DP Calls

/-- A pair as it lies. -/
def eQ (x : Option Nat) (k : RDk) : List Value := .pointer (x.map fun d => ⟨d, 0, none⟩) :: eK k
theorem eQ_ok : (∀ x k, (eQ x k).length = 8) ∧ ∀ x k, ∀ u ∈ eQ x k, u.oneCell' = true := ⟨fun _ _ => rfl, fun x k u h => by
  rcases List.mem_cons.1 h with rfl | h
  · rfl
  · exact eK_ok.2 k u h⟩
/-- What loaded answers. -/
def LdP (W : World) (L : List HProp) (x : Option Nat) (k : RDk) (r : Int × DS) (v : Value) (w' : World) : Prop :=
  (r.1 ≠ 0 ∧ v = .tuple #[.agg (eQ x k).toArray, .bool true] ∧ Sat W w' L) ∨
  (r.1 = 0 ∧ ∃ d' k' pool', v = .tuple #[.agg (eQ (some d') k').toArray, .bool true] ∧ RepK r.2 k' ∧ InS pool' k'.S ∧ Sat W w' (HD d' r.2 :: Big pool' :: L))
theorem loadGo_ne : ∀ (l : List File) (fs : List Fl) (now : Names), loadGo fs now l ≠ .inl 0
  | [], _, _ => fun h => by cases h
  | f :: l, fs, now => by
    rw [loadGo_cons]
    split
    · intro h; cases h
    split
    · intro h; cases h
    · exact loadGo_ne l _ _
theorem load_lst {q s : Int} {F : List File} (h : (load q s F).1 = 0) : ∃ fs now, LSt fs now F ∧ (load q s F).2 = ⟨q.toNat, fs, now, now, [], none, false⟩ := by
  unfold load at h ⊢
  split at h
  · cases h
  rename_i hq
  rw [if_neg hq]
  cases e : loadGo [] [] F with
  | inl x =>
    rw [e] at h
    exfalso
    have hx : x = 0 := h
    subst hx
    exact absurd e (loadGo_ne F [] [])
  | inr p =>
    obtain ⟨fs, now⟩ := p
    rw [e] at h
    dsimp only at h ⊢
    split at h
    · cases h
    rename_i h2
    rw [if_neg h2]
    exact ⟨fs, now, loadGo_ok LSt.nil e, rfl⟩
set_option maxHeartbeats 8000000 in
theorem loadedF_call (W w : World) (L : List HProp) (x : Option Nat) (k : RDk) (q : Int) (F : List File) (A : Option Addr) (c : Nat) (rs : List RF) (hrs : rs.map RF.f = F) (hs : Sat W w L) (hr1 : ∀ w', Sat W w' L → Rd eF w' A rs) (hr2 : ∀ w', Sat W w' L → ∀ r ∈ rs, Rd eB w' r.A r.data) (hl : F.length ≤ 1099511627776) (hd : ∀ f ∈ F, f.2.length ≤ 140737488351232) (hnm : ∀ f ∈ F, f.1.length ≤ 140737488355328) (hq : -9223372036854775808 ≤ q ∧ q ≤ 9223372036854775807) :
    Calls Try.prog 86 [Value.agg (eQ x k).toArray, .int .i64 q, .slice A F.length c, .bool false].toArray w (Ret (LdP W L x k (load q (sumW F) F))) := by
  refine Calls_of Try.func86 rfl 59 Try.ntmps86 rfl ?_
  have hr : ∀ w', Sat W w' L → RdF w' A F := fun w' h => ⟨rs, hrs, hr1 w' h, hr2 w' h⟩
  have hrl0 : rs.length = F.length := by rw [← hrs, List.length_map]
  have hload0 : ∀ {w : World} (L' : List HProp), Sat W w (L' ++ L) → Calls Try.prog 18 [Value.int .i64 q, .slice A F.length c].toArray w (Ret fun v w' =>
      ((load q (sumW F) F).1 ≠ 0 ∧ v = .tuple #[.pointer none, .int .i64 (load q (sumW F) F).1] ∧ Sat W w' (L' ++ L)) ∨
      ((load q (sumW F) F).1 = 0 ∧ ∃ d, v = .tuple #[.pointer (some ⟨d, 0, none⟩), .int .i64 0] ∧ Sat W w' (HD d (load q (sumW F) F).2 :: (L' ++ L)))) := fun {w} L' hs => by
    have hdr : ∀ w', Sat W w' (L' ++ L) → Sat W w' L := fun w' h => by have := Sat.dropN h L'.length; simpa using this
    have := load_call W w (L' ++ L) q A c rs hs (fun w' h => hr1 w' (hdr w' h)) (fun w' h => hr2 w' (hdr w' h)) (fun r hr => ⟨hnm r.f (hrs ▸ List.mem_map.2 ⟨r, hr, rfl⟩), by have := hd r.f (hrs ▸ List.mem_map.2 ⟨r, hr, rfl⟩); show r.data.length ≤ _; have e : r.f.2.length = r.data.length := rfl; omega⟩) (by omega) hq
    rw [hrs, hrl0] at this
    exact this
  by_cases h0 : (load q (sumW F) F).1 = 0
  · have hload : ∀ {w : World} {L' : List HProp}, Sat W w (L' ++ L) → Calls Try.prog 18 [Value.int .i64 q, .slice A F.length c].toArray w (Ret fun v w' => ∃ d, v = .tuple #[.pointer (some ⟨d, 0, none⟩), .int .i64 0] ∧ Sat W w' (HD d (load q (sumW F) F).2 :: (L' ++ L))) := fun {w L'} hs => by
      refine Calls.ret (hload0 L' hs) ?_
      rintro v w' (⟨e, _⟩ | ⟨_, e⟩)
      · exact absurd h0 e
      · exact e
    have hrl : ∀ {w : World} {A' : Option Addr} {c' : Nat}, RdF w A' F → Calls Try.prog 19 [Value.int .i64 q, .slice A' F.length c'].toArray w (Ret fun v w' => ∃ TA tc th NA nc, v = .tuple #[.agg (eK ⟨q, beginS TA tc th NA nc (beginN 0 [] F), -1, false⟩).toArray, .int .i64 0] ∧ th.map (·.d) = F.map (·.2) ∧ (∀ t ∈ th, t.syn = t.d.length ∧ t.there = true) ∧
        Sat w w' [RowOf eT 111 3 TA tc th, RowOf eE 113 2 NA nc (beginN 0 [] F), Big (th.map RTh.P)] ∧ (load q (sumW F) F).2 = ⟨q.toNat, flsF F, beginN 0 [] F, beginN 0 [] F, [], none, false⟩) := fun ra => by
      refine Calls.ret (rLoad_call _ q F _ _ ra hl (fun f hf => by have := hd f hf; omega) hnm hq) ?_
      rintro v w' (⟨e, _⟩ | ⟨_, e⟩)
      · exact absurd h0 e
      · exact e
    unfold eQ
    (repeat' (first | (refine isLW ?_; first | refine LW_nil ?_ | (refine isLg ?_; first | refine LW_take rfl ?_) | (refine isLload ?_; first | refine LW_loadCAE 0 (eK ⟨q, beginS TA tc th NA nc (beginN 0 [] F), -1, false⟩) TOK hs rfl rfl rfl rfl (Nat.le_of_ble_eq_true rfl) rfl ?_) | (refine isLstore ?_; first | (refine LW_storeCA 0 TOK hs rfl rfl rfl rfl rfl (eK_ok.2 ⟨q, beginS TA tc th NA nc (beginN 0 [] F), -1, false⟩) rfl (Nat.le_of_ble_eq_true rfl) ?_; clear hs; intro w hs) | (refine LW_storeCA 6 TOK hs rfl rfl rfl rfl rfl (eQ_ok.2 (some d) ⟨q, beginS TA tc th NA nc (beginN 0 [] F), -1, false⟩) rfl (Nat.le_of_ble_eq_true rfl) ?_; clear hs; intro w hs)) | (refine isLcall ?_; first | (refine LW_call (cap := []) rfl rfl ent16 (copies_call _ F A c (hr _ (Sat.dropN hs 2)) (by omega) (fun f hf => by have := hd f hf; omega)) ?_; rintro _ w2 ⟨A2, c2, rfl, hs2⟩; replace hs := hs.and1 hs2; clear hs2) | (refine LW_call (cap := []) rfl rfl ent18 (hload (L' := [_, _, _]) hs) ?_; clear hs; rintro _ w ⟨d, rfl, hs⟩) | (refine LW_call (cap := []) rfl rfl ent19 (hrl (Sat.rdF (hs.picks [1]))) ?_; rintro _ w2 ⟨TA, tc, th, NA, nc, rfl, hth1, hth2, hs2, hres⟩; replace hs := hs.andThen hs2; clear hs2) | (refine LW_call (cap := []) rfl rfl ent20 (num_call _ 0) ?_; rintro _ _ ⟨rfl, rfl⟩) | (refine LW_call (cap := []) rfl rfl ent21 (filesAlike_call _ F F A A2 c c2 (hr _ (Sat.dropN hs 8)) (Sat.rdF (hs.picks [5])) (by omega) (fun f hf => by have := hd f hf; omega)) ?_; rw [decide_eq_true rfl]; rintro _ w2 ⟨rfl, hs2⟩; replace hs := hs.and0 hs2; clear hs2)) | (refine isLbin ?_; first | (refine LW_cmp rfl (fun _ => ?_) (fun _ => ?_) <;> try (exfalso; omega)) | refine LW_nileq TOK rfl ?_) | refine LW_pure TOK rfl ?_ | (refine LW_box hs rfl rfl ?_; clear hs; intro _ w hs) | (refine LW_alloc TOK hs rfl rfl ?_; clear hs; intro _ w hs) | refine LW_build TOK rfl rfl rfl rfl rfl rfl ?_) | (with_reducible first | refine then_n ?_ | refine CW_seq ?_ | refine CW_region ?_ | refine CW_skip ?_ | refine CW_ret ?_) | refine RETA2 6 hs TOK Try.results86 rfl rfl rfl rfl rfl rfl ?_ | refine CW_false rfl ?_))
    obtain ⟨fs, now, hst, he⟩ := load_lst h0
    rw [hres] at he
    injection he with _ e1 e2
    rw [← e1, ← e2] at hst
    refine .inr ⟨h0, d, ⟨q, beginS TA tc th NA nc (beginN 0 [] F), -1, false⟩, [RowOf eT 111 3 TA tc th, RowOf eE 113 2 NA nc (beginN 0 [] F)] ++ th.map RTh.P, rfl, ⟨?_, ?_, ?_, ?_⟩, ⟨.inr ?_, ?_, .inr ?_, .inr ?_, .inl rfl⟩, ?_⟩
    · rw [hres]
      show q = (q.toNat : Int)
      have : ¬ q < 0 := fun hq0 => by
        unfold load at h0
        rw [if_pos (.inl hq0)] at h0
        cases h0
      omega
    · rw [hres]; exact rep_begin hth1 hth2 hst
    · rw [hres]; rfl
    · rw [hres]
    · simp [beginS]
    · intro t ht
      exact .inr (List.mem_append_right _ (List.mem_map.2 ⟨t, ht, rfl⟩))
    · simp [beginS]
    · simp [beginS]
    · have h1 := Sat.dropN (hs.picks [0, 4, 4, 4]) 4
      have h2 : Sat W w ([RowOf eT 111 3 TA tc th, RowOf eE 113 2 NA nc (beginN 0 [] F)] ++ (Big (th.map RTh.P) :: HD d (load q (sumW F) F).2 :: L)) := h1
      exact (Sat.bigs (Sat.mkBig h2)).picks [1]
  · have hload : ∀ {w : World} {L' : List HProp}, Sat W w (L' ++ L) → Calls Try.prog 18 [Value.int .i64 q, .slice A F.length c].toArray w (Ret fun v w' => v = .tuple #[.pointer none, .int .i64 (load q (sumW F) F).1] ∧ Sat W w' (L' ++ L)) := fun {w L'} hs => by
      refine Calls.ret (hload0 L' hs) ?_
      rintro v w' (⟨_, e, hs⟩ | ⟨e, _⟩)
      · exact ⟨e, hs⟩
      · exact absurd e h0
    have hrl : ∀ {w : World} {A' : Option Addr} {c' : Nat}, RdF w A' F → Calls Try.prog 19 [Value.int .i64 q, .slice A' F.length c'].toArray w (Ret fun v w' => v = .tuple #[.agg (eK noK).toArray, .int .i64 (load q (sumW F) F).1] ∧ Sat w w' []) := fun ra => by
      refine Calls.ret (rLoad_call _ q F _ _ ra hl (fun f hf => by have := hd f hf; omega) hnm hq) ?_
      rintro v w' (⟨_, e, hs⟩ | ⟨e, _⟩)
      · exact ⟨e, hs⟩
      · exact absurd e h0
    obtain ⟨e, he⟩ : ∃ e, (load q (sumW F) F).1 = e := ⟨_, rfl⟩
    rw [he] at hload hrl
    have he0 : e ≠ 0 := he ▸ h0
    unfold eQ
    (repeat' (first | (refine isLW ?_; first | refine LW_nil ?_ | (refine isLg ?_; first | refine LW_take rfl ?_) | (refine isLload ?_; first | refine LW_loadCAE 3 (eQ x k) TOK hs rfl rfl rfl rfl (Nat.le_of_ble_eq_true rfl) rfl ?_) | (refine isLstore ?_; first | (refine LW_storeCA 0 TOK hs rfl rfl rfl rfl rfl (eK_ok.2 noK) rfl (Nat.le_of_ble_eq_true rfl) ?_; clear hs; intro w hs) | (refine LW_storeCA 2 TOK hs rfl rfl rfl rfl rfl (eQ_ok.2 x k) rfl (Nat.le_of_ble_eq_true rfl) ?_; clear hs; intro w hs)) | (refine isLcall ?_; first | (refine LW_call (cap := []) rfl rfl ent16 (copies_call _ F A c (hr _ (Sat.dropN hs 2)) (by omega) (fun f hf => by have := hd f hf; omega)) ?_; rintro _ w2 ⟨A2, c2, rfl, hs2⟩; replace hs := hs.and1 hs2; clear hs2) | (refine LW_call (cap := []) rfl rfl ent18 (hload (L' := [_, _, _]) hs) ?_; clear hs; rintro _ w ⟨rfl, hs⟩) | (refine LW_call (cap := []) rfl rfl ent19 (hrl (Sat.rdF (hs.picks [0]))) ?_; rintro _ w2 ⟨rfl, hs2⟩; replace hs := hs.and0 hs2; clear hs2) | (refine LW_call (cap := []) rfl rfl ent20 (num_call _ e) ?_; rintro _ _ ⟨rfl, rfl⟩) | (refine LW_call (cap := []) rfl rfl ent21 (filesAlike_call _ F F A A2 c c2 (hr _ (Sat.dropN hs 4)) (Sat.rdF (hs.picks [1])) (by omega) (fun f hf => by have := hd f hf; omega)) ?_; rw [decide_eq_true rfl]; rintro _ w2 ⟨rfl, hs2⟩; replace hs := hs.and0 hs2; clear hs2)) | (refine isLbin ?_; first | (refine LW_cmp rfl (fun _ => ?_) (fun _ => ?_) <;> try (exfalso; omega)) | refine LW_nileq TOK rfl ?_) | refine LW_pure TOK rfl ?_ | (refine LW_box hs rfl rfl ?_; clear hs; intro _ w hs) | (refine LW_alloc TOK hs rfl rfl ?_; clear hs; intro _ w hs)) | (with_reducible first | refine then_n ?_ | refine CW_seq ?_ | refine CW_region ?_ | refine CW_skip ?_ | refine CW_ret ?_ | refine then_r ?_) | refine RETA2 2 hs TOK Try.results86 rfl rfl rfl rfl rfl rfl ?_ | refine CW_true rfl ?_ | refine CW_false rfl ?_))
    all_goals exact .inl ⟨h0, rfl, Sat.dropN hs 4⟩
end Go.Proofs.Ytoodgenbcfdloaa

/- Two disks side by side; walks: loaded, of New. (Laid by wip/tools/genq18.py from Q17.) -/
set_option linter.unusedVariables false
set_option linter.unusedSimpArgs false
namespace Go.Proofs.Ytoodgenbcfdloaa
open Go Go.Sl Go.RowKit
set_option maxRecDepth 100000
attribute [local irreducible] CW LW DW FR DP Calls

set_option maxHeartbeats 8000000 in
theorem loadedN_call (W w : World) (L : List HProp) (x : Option Nat) (k : RDk) (q : Int) (hs : Sat W w L) (hq : -9223372036854775808 ≤ q ∧ q ≤ 9223372036854775807) :
    Calls Try.prog 86 [Value.agg (eQ x k).toArray, .int .i64 q, .slice none 0 0, .bool true].toArray w (Ret (LdP W L x k (load q (sumW []) []))) := by
  obtain ⟨F, hF⟩ : ∃ F : List File, [] = F := ⟨_, rfl⟩
  obtain ⟨A, hA⟩ : ∃ A : Option Addr, none = A := ⟨_, rfl⟩
  obtain ⟨c, hc⟩ : ∃ c : Nat, 0 = c := ⟨_, rfl⟩
  have hFl : F.length = 0 := by rw [← hF]; rfl
  have ew : sumW [] = 0 := rfl
  have e0 : (Value.slice none 0 0) = .slice A F.length c := by rw [hFl, hA, hc]
  rw [e0, hF]
  have hl : F.length ≤ 1099511627776 := by omega
  have hd : ∀ f ∈ F, f.2.length ≤ 140737488351232 := by rw [← hF]; intro f hf; cases hf
  have hnm : ∀ f ∈ F, f.1.length ≤ 140737488355328 := by rw [← hF]; intro f hf; cases hf
  have hr : ∀ w', Sat W w' L → RdF w' A F := fun w' _ => ⟨[], by rw [← hF]; rfl, .inl rfl, fun r hr => by cases hr⟩
  have hld : load q (sumW F) F = if q < 0 ∨ 4194304 < q then (1, newD 0) else (0, newD q.toNat) := by
    rw [← hF]
    unfold load
    split
    · rfl
    · rename_i hq0
      show (if q < sumW [] then _ else _) = _
      rw [if_neg (by rw [ew]; omega)]; rfl
  refine Calls_of Try.func86 rfl 59 Try.ntmps86 rfl ?_
  have hload0 : ∀ {w : World} (L' : List HProp), Sat W w (L' ++ L) → Calls Try.prog 56 [Value.int .i64 q].toArray w (Ret fun v w' =>
      ((load q (sumW F) F).1 ≠ 0 ∧ v = .tuple #[.pointer none, .int .i64 (load q (sumW F) F).1] ∧ Sat W w' (L' ++ L)) ∨
      ((load q (sumW F) F).1 = 0 ∧ ∃ d, v = .tuple #[.pointer (some ⟨d, 0, none⟩), .int .i64 0] ∧ Sat W w' (HD d (load q (sumW F) F).2 :: (L' ++ L)))) := fun {w} L' hs => by
    rw [hld]
    refine Calls.ret (new_call W w (L' ++ L) q hs) ?_
    rintro v w' (⟨h, rfl, hs⟩ | ⟨h, d, rfl, hs⟩)
    · rw [if_pos h]; exact .inl ⟨by decide, rfl, hs⟩
    · rw [if_neg h]; exact .inr ⟨rfl, d, rfl, hs⟩
  by_cases h0 : (load q (sumW F) F).1 = 0
  · have hload : ∀ {w : World} {L' : List HProp}, Sat W w (L' ++ L) → Calls Try.prog 56 [Value.int .i64 q].toArray w (Ret fun v w' => ∃ d, v = .tuple #[.pointer (some ⟨d, 0, none⟩), .int .i64 0] ∧ Sat W w' (HD d (load q (sumW F) F).2 :: (L' ++ L))) := fun {w L'} hs => by
      refine Calls.ret (hload0 L' hs) ?_
      rintro v w' (⟨e, _⟩ | ⟨_, e⟩)
      · exact absurd h0 e
      · exact e
    have hrl : ∀ {w : World} {A' : Option Addr} {c' : Nat}, RdF w A' F → Calls Try.prog 19 [Value.int .i64 q, .slice A' F.length c'].toArray w (Ret fun v w' => ∃ TA tc th NA nc, v = .tuple #[.agg (eK ⟨q, beginS TA tc th NA nc (beginN 0 [] F), -1, false⟩).toArray, .int .i64 0] ∧ th.map (·.d) = F.map (·.2) ∧ (∀ t ∈ th, t.syn = t.d.length ∧ t.there = true) ∧
        Sat w w' [RowOf eT 111 3 TA tc th, RowOf eE 113 2 NA nc (beginN 0 [] F), Big (th.map RTh.P)] ∧ (load q (sumW F) F).2 = ⟨q.toNat, flsF F, beginN 0 [] F, beginN 0 [] F, [], none, false⟩) := fun ra => by
      refine Calls.ret (rLoad_call _ q F _ _ ra hl (fun f hf => by have := hd f hf; omega) hnm hq) ?_
      rintro v w' (⟨e, _⟩ | ⟨_, e⟩)
      · exact absurd h0 e
      · exact e
    unfold eQ
    (repeat' (first | (refine isLW ?_; first | refine LW_nil ?_ | (refine isLg ?_; first | refine LW_take rfl ?_) | (refine isLload ?_; first | refine LW_loadCAE 0 (eK ⟨q, beginS TA tc th NA nc (beginN 0 [] F), -1, false⟩) TOK hs rfl rfl rfl rfl (Nat.le_of_ble_eq_true rfl) rfl ?_) | (refine isLstore ?_; first | (refine LW_storeCA 0 TOK hs rfl rfl rfl rfl rfl (eK_ok.2 ⟨q, beginS TA tc th NA nc (beginN 0 [] F), -1, false⟩) rfl (Nat.le_of_ble_eq_true rfl) ?_; clear hs; intro w hs) | (refine LW_storeCA 6 TOK hs rfl rfl rfl rfl rfl (eQ_ok.2 (some d) ⟨q, beginS TA tc th NA nc (beginN 0 [] F), -1, false⟩) rfl (Nat.le_of_ble_eq_true rfl) ?_; clear hs; intro w hs)) | (refine isLcall ?_; first | (refine LW_call (cap := []) rfl rfl ent16 (copies_call _ F A c (hr _ (Sat.dropN hs 2)) (by omega) (fun f hf => by have := hd f hf; omega)) ?_; rintro _ w2 ⟨A2, c2, rfl, hs2⟩; replace hs := hs.and1 hs2; clear hs2) | (refine LW_call (cap := []) rfl rfl ent56 (hload (L' := [_, _, _]) hs) ?_; clear hs; rintro _ w ⟨d, rfl, hs⟩) | (refine LW_call (cap := []) rfl rfl ent19 (hrl (Sat.rdF (hs.picks [1]))) ?_; rintro _ w2 ⟨TA, tc, th, NA, nc, rfl, hth1, hth2, hs2, hres⟩; replace hs := hs.andThen hs2; clear hs2) | (refine LW_call (cap := []) rfl rfl ent20 (num_call _ 0) ?_; rintro _ _ ⟨rfl, rfl⟩) | (refine LW_call (cap := []) rfl rfl ent21 (filesAlike_call _ F F A A2 c c2 (hr _ (Sat.dropN hs 8)) (Sat.rdF (hs.picks [5])) (by omega) (fun f hf => by have := hd f hf; omega)) ?_; rw [decide_eq_true rfl]; rintro _ w2 ⟨rfl, hs2⟩; replace hs := hs.and0 hs2; clear hs2)) | (refine isLbin ?_; first | (refine LW_cmp rfl (fun _ => ?_) (fun _ => ?_) <;> try (exfalso; omega)) | refine LW_nileq TOK rfl ?_) | refine LW_pure TOK rfl ?_ | (refine LW_box hs rfl rfl ?_; clear hs; intro _ w hs) | (refine LW_alloc TOK hs rfl rfl ?_; clear hs; intro _ w hs) | refine LW_build TOK rfl rfl rfl rfl rfl rfl ?_) | (with_reducible first | refine then_n ?_ | refine CW_seq ?_ | refine CW_region ?_ | refine CW_skip ?_ | refine CW_ret ?_) | refine RETA2 6 hs TOK Try.results86 rfl rfl rfl rfl rfl rfl ?_ | refine CW_true rfl ?_ | refine CW_false rfl ?_))
    obtain ⟨fs, now, hst, he⟩ := load_lst h0
    rw [hres] at he
    injection he with _ e1 e2
    rw [← e1, ← e2] at hst
    refine .inr ⟨h0, d, ⟨q, beginS TA tc th NA nc (beginN 0 [] F), -1, false⟩, [RowOf eT 111 3 TA tc th, RowOf eE 113 2 NA nc (beginN 0 [] F)] ++ th.map RTh.P, rfl, ⟨?_, ?_, ?_, ?_⟩, ⟨.inr ?_, ?_, .inr ?_, .inr ?_, .inl rfl⟩, ?_⟩
    · rw [hres]
      show q = (q.toNat : Int)
      have : ¬ q < 0 := fun hq0 => by
        unfold load at h0
        rw [if_pos (.inl hq0)] at h0
        cases h0
      omega
    · rw [hres]; exact rep_begin hth1 hth2 hst
    · rw [hres]; rfl
    · rw [hres]
    · simp [beginS]
    · intro t ht
      exact .inr (List.mem_append_right _ (List.mem_map.2 ⟨t, ht, rfl⟩))
    · simp [beginS]
    · simp [beginS]
    · have h1 := Sat.dropN (hs.picks [0, 4, 4, 4]) 4
      have h2 : Sat W w ([RowOf eT 111 3 TA tc th, RowOf eE 113 2 NA nc (beginN 0 [] F)] ++ (Big (th.map RTh.P) :: HD d (load q (sumW F) F).2 :: L)) := h1
      exact (Sat.bigs (Sat.mkBig h2)).picks [1]
  · have hload : ∀ {w : World} {L' : List HProp}, Sat W w (L' ++ L) → Calls Try.prog 56 [Value.int .i64 q].toArray w (Ret fun v w' => v = .tuple #[.pointer none, .int .i64 (load q (sumW F) F).1] ∧ Sat W w' (L' ++ L)) := fun {w L'} hs => by
      refine Calls.ret (hload0 L' hs) ?_
      rintro v w' (⟨_, e, hs⟩ | ⟨e, _⟩)
      · exact ⟨e, hs⟩
      · exact absurd e h0
    have hrl : ∀ {w : World} {A' : Option Addr} {c' : Nat}, RdF w A' F → Calls Try.prog 19 [Value.int .i64 q, .slice A' F.length c'].toArray w (Ret fun v w' => v = .tuple #[.agg (eK noK).toArray, .int .i64 (load q (sumW F) F).1] ∧ Sat w w' []) := fun ra => by
      refine Calls.ret (rLoad_call _ q F _ _ ra hl (fun f hf => by have := hd f hf; omega) hnm hq) ?_
      rintro v w' (⟨_, e, hs⟩ | ⟨e, _⟩)
      · exact ⟨e, hs⟩
      · exact absurd e h0
    obtain ⟨e, he⟩ : ∃ e, (load q (sumW F) F).1 = e := ⟨_, rfl⟩
    rw [he] at hload hrl
    have he0 : e ≠ 0 := he ▸ h0
    unfold eQ
    (repeat' (first | (refine isLW ?_; first | refine LW_nil ?_ | (refine isLg ?_; first | refine LW_take rfl ?_) | (refine isLload ?_; first | refine LW_loadCAE 3 (eQ x k) TOK hs rfl rfl rfl rfl (Nat.le_of_ble_eq_true rfl) rfl ?_) | (refine isLstore ?_; first | (refine LW_storeCA 0 TOK hs rfl rfl rfl rfl rfl (eK_ok.2 noK) rfl (Nat.le_of_ble_eq_true rfl) ?_; clear hs; intro w hs) | (refine LW_storeCA 2 TOK hs rfl rfl rfl rfl rfl (eQ_ok.2 x k) rfl (Nat.le_of_ble_eq_true rfl) ?_; clear hs; intro w hs)) | (refine isLcall ?_; first | (refine LW_call (cap := []) rfl rfl ent16 (copies_call _ F A c (hr _ (Sat.dropN hs 2)) (by omega) (fun f hf => by have := hd f hf; omega)) ?_; rintro _ w2 ⟨A2, c2, rfl, hs2⟩; replace hs := hs.and1 hs2; clear hs2) | (refine LW_call (cap := []) rfl rfl ent56 (hload (L' := [_, _, _]) hs) ?_; clear hs; rintro _ w ⟨rfl, hs⟩) | (refine LW_call (cap := []) rfl rfl ent19 (hrl (Sat.rdF (hs.picks [0]))) ?_; rintro _ w2 ⟨rfl, hs2⟩; replace hs := hs.and0 hs2; clear hs2) | (refine LW_call (cap := []) rfl rfl ent20 (num_call _ e) ?_; rintro _ _ ⟨rfl, rfl⟩) | (refine LW_call (cap := []) rfl rfl ent21 (filesAlike_call _ F F A A2 c c2 (hr _ (Sat.dropN hs 4)) (Sat.rdF (hs.picks [1])) (by omega) (fun f hf => by have := hd f hf; omega)) ?_; rw [decide_eq_true rfl]; rintro _ w2 ⟨rfl, hs2⟩; replace hs := hs.and0 hs2; clear hs2)) | (refine isLbin ?_; first | (refine LW_cmp rfl (fun _ => ?_) (fun _ => ?_) <;> try (exfalso; omega)) | refine LW_nileq TOK rfl ?_) | refine LW_pure TOK rfl ?_ | (refine LW_box hs rfl rfl ?_; clear hs; intro _ w hs) | (refine LW_alloc TOK hs rfl rfl ?_; clear hs; intro _ w hs)) | (with_reducible first | refine then_n ?_ | refine CW_seq ?_ | refine CW_region ?_ | refine CW_skip ?_ | refine CW_ret ?_ | refine then_r ?_) | refine RETA2 2 hs TOK Try.results86 rfl rfl rfl rfl rfl rfl ?_ | refine CW_true rfl ?_ | refine CW_false rfl ?_))
    all_goals exact .inl ⟨h0, rfl, Sat.dropN hs 4⟩
end Go.Proofs.Ytoodgenbcfdloaa
