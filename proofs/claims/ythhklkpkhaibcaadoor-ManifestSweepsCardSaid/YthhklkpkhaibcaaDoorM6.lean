/- Walks: ManifestSweeps. -/
import Derived.Test.YthhklkpkhaibcaaDoorM5
import Derived.Test.YthhklkpkhaibcaaDoorSlDraw6
set_option linter.unusedVariables false
set_option linter.unusedSimpArgs false
namespace Go.Proofs.YthhklkpkhaibcaaDoor
open Go Go.Sl Go.RowKit
set_option maxRecDepth 100000
attribute [local irreducible] CW LW DW FR DP Calls
/-- Behind the manifest's choice. -/
def mswA (W : World) (FA : Option Addr) (fl fc : Nat) (n keep : Int) (C : Option Addr) (cl cc : Nat) (a : Act) (w : World) : Prop :=
  ∃ (m2 : Mn) (A2 : Option Addr) (c2 : Nat) (R : List HProp) (b5 : Nat) (τ : Nat → Value), a = FR 225 [(1, .slice FA fl fc), (2, .int .i64 n), (3, .int .i64 keep), (4, .slice C cl cc), (5, .pointer (some ⟨b5, 0, none⟩))] τ [] ∧ OkM m2 ∧ m2.In ∧ (∀ w', Sat W w' R → Rd eSg w' A2 m2.segs) ∧ Sat W w (Cl b5 (eM m2 A2 c2) 32 :: R)
structure MsB (W : World) (m2 : Mn) (A2 : Option Addr) (As : List RF) (AA : Option Addr) (R2 : List HProp) : Prop where
  ok : OkM m2
  inn : m2.In
  rd : ∀ w', Sat W w' R2 → Rd eSg w' A2 m2.segs ∧ Rd eF w' AA As ∧ ∀ r ∈ As, Rd eB w' r.A r.data
  len : As.length ≤ 43
  dl : ∀ r ∈ As, r.data.length ≤ 4096
  nl : ∀ r ∈ As, r.n.length ≤ 140737488355328
  big : ∃ f ∈ As.map RF.f, swp m2.segs f.1 = true
/-- Behind the disk's loading. -/
def mswB (W : World) (n keep : Int) (C : Option Addr) (cl cc : Nat) (a : Act) (w : World) : Prop :=
  ∃ (d b5 : Nat) (m2 : Mn) (A2 : Option Addr) (c2 : Nat) (As : List RF) (AA : Option Addr) (ac : Nat) (R2 : List HProp) (D0 : DS) (τ : Nat → Value), a = FR 225 [(2, .int .i64 n), (3, .int .i64 keep), (4, .slice C cl cc), (5, .pointer (some ⟨b5, 0, none⟩)), (11, .slice AA As.length ac), (12, .pointer (some ⟨d, 0, none⟩)), (13, .int .i64 0)] τ [] ∧ MsB W m2 A2 As AA R2 ∧ load 4194304 (sumW (As.map RF.f)) (As.map RF.f) = (0, D0) ∧ Sat W w (HD d D0 :: Cl b5 (eM m2 A2 c2) 32 :: R2)
/-- Behind the sweep. -/
def mswC (W : World) (keep : Int) (C : Option Addr) (cc : Nat) (a : Act) (w : World) : Prop :=
  ∃ (d b5 : Nat) (m2 : Mn) (A2 : Option Addr) (c2 : Nat) (As : List RF) (AA : Option Addr) (ac : Nat) (R2 : List HProp) (D2 : DS) (G : List Nm) (e : Int) (B : Option Addr) (cb : Nat) (cuts : List (Int × Int)) (τ : Nat → Value), a = FR 225 [(3, .int .i64 keep), (4, .slice C cuts.length cc), (5, .pointer (some ⟨b5, 0, none⟩)), (11, .slice AA As.length ac), (12, .pointer (some ⟨d, 0, none⟩)), (13, .int .i64 e), (14, .slice B G.length cb)] τ [] ∧ MsB W m2 A2 As AA R2 ∧ (∀ k cs, Swept (As.map RF.f) m2.segs k cs (e, D2, G)) ∧ Good D2 ∧ D2.fs.length ≤ 43 ∧ D2.chs.length ≤ 43 ∧ G.length ≤ 43 ∧ Rd eP W C cuts ∧ cuts.length ≤ 40 ∧ (-9223372036854775808 ≤ e ∧ e ≤ 9223372036854775807) ∧ Sat W w (RowOf eN 9 1 B cb G :: HD d D2 :: Cl b5 (eM m2 A2 c2) 32 :: R2)
theorem load_out {l : List File} {D : DS} (hl : sumLen l ≤ 9000000000000000000) (h : load 4194304 (sumW l) l = (0, D)) : Good D ∧ ∃ fs n0, LSt fs n0 l ∧ D = ⟨4194304, fs, n0, n0, [], none, false⟩ := by
  rw [sumW_eq l (by omega)] at h
  have := load_good (q := 4194304) (files := l) (by rw [h])
  rw [h] at this
  obtain ⟨g, fs, n0, h1, h2⟩ := this
  exact ⟨g, fs, n0, h1, h2⟩
theorem load_fit {l : List File} {D : DS} (hl : sumLen l ≤ 9000000000000000000) (h : load 4194304 (sumW l) l = (0, D)) : D.fs.length = l.length ∧ D.chs.length = 0 ∧ D.list.length = l.length ∧ D.down = false := by
  obtain ⟨_, fs, n0, h1, rfl⟩ := load_out hl h
  refine ⟨by rw [h1.fsE, List.length_map], rfl, ?_, rfl⟩
  unfold DS.list
  rw [if_neg (fun h => by cases h)]
  exact h1.keys.length_eq.trans (List.length_map _)
theorem MsB.load {W : World} {m2 : Mn} {A2 : Option Addr} {As : List RF} {AA : Option Addr} {R2 : List HProp} (h : MsB W m2 A2 As AA R2) {ac b5 c2 : Nat} {w : World} (hs : Sat W w (Cl b5 (eM m2 A2 c2) 32 :: R2)) :
    Calls Tryd.prog 15 [Value.int .i64 4194304, .slice AA As.length ac].toArray w (Ret fun v w' =>
      ((load 4194304 (sumW (As.map RF.f)) (As.map RF.f)).1 ≠ 0 ∧ v = .tuple #[.pointer none, .int .i64 (load 4194304 (sumW (As.map RF.f)) (As.map RF.f)).1] ∧ Sat W w' (Cl b5 (eM m2 A2 c2) 32 :: R2)) ∨
      ((load 4194304 (sumW (As.map RF.f)) (As.map RF.f)).1 = 0 ∧ ∃ d, v = .tuple #[.pointer (some ⟨d, 0, none⟩), .int .i64 0] ∧ Sat W w' (HD d (load 4194304 (sumW (As.map RF.f)) (As.map RF.f)).2 :: Cl b5 (eM m2 A2 c2) 32 :: R2))) :=
  load_call W w _ 4194304 AA ac As hs (fun w' k => (h.rd w' (Sat.drop1 k)).2.1) (fun w' k => (h.rd w' (Sat.drop1 k)).2.2) (fun r hr => ⟨h.nl r hr, by have := h.dl r hr; omega⟩) (by have := h.len; omega) (by omega)
theorem all_app3 {α : Type} {P : α → Prop} {l : List α} {a b c : α} (h : ∀ x ∈ l, P x) (ha : P a) (hb : P b) (hc : P c) : ∀ x ∈ l ++ [a, b, c], P x := fun x hx => by
  rcases List.mem_append.1 hx with hx | hx
  · exact h x hx
  · simp only [List.mem_cons, List.not_mem_nil, or_false] at hx
    rcases hx with rfl | rfl | rfl
    · exact ha
    · exact hb
    · exact hc
structure RdW (W : World) (X : List HProp) {α : Type} (enc : α → List Value) (A : Option Addr) (xs : List α) : Prop where
  of : ∀ {w : World}, Sat W w X → Rd enc w A xs
theorem Sat.mswP {W w : World} {y d x g b : HProp} {R : List HProp} (h : Sat W w (y :: d :: x :: g :: b :: R)) : Sat W w (d :: b :: R) := Sat.dropN (h.picks [0, 1, 1]) 3
set_option maxHeartbeats 16000000 in
theorem ManifestSweeps_call (W : World) (m : Mn) (A : Option Addr) (c : Nat) (hi : m.In) (hmc : m.segs.length ≤ c) (rs : Rd eSg W A m.segs) (us : List RF) (FA : Option Addr) (fc : Nat) (ra : Rd eF W FA us) (ra2 : ∀ r ∈ us, Rd eB W r.A r.data) (hfc : us.length ≤ fc) (hd : ∀ r ∈ us, r.data.length ≤ r.c ∧ r.data.length ≤ 140737488355328) (hnl : ∀ r ∈ us, r.n.length ≤ 140737488355328)
    (n keep : Int) (hn : -9223372036854775808 ≤ n ∧ n ≤ 9223372036854775807) (hk : -9223372036854775808 ≤ keep ∧ keep ≤ 9223372036854775807) (C : Option Addr) (cc : Nat) (cuts : List (Int × Int)) (rc : Rd eP W C cuts) (hcl : cuts.length ≤ 140737488355328) (hcc : cuts.length ≤ cc) (ht : Tab W) :
    Calls Tryd.prog 5 [Value.agg (eM m A c).toArray, .slice FA us.length fc, .int .i64 n, .int .i64 keep, .slice C cuts.length cc].toArray W (Ret fun v w' => v = .bool true ∧ Sat W w' []) := by
  refine Calls_of Tryd.func5 rfl 225 Tryd.ntmps5 rfl ?_
  have hs := Sat.start W
  have hml := hi.len
  obtain ⟨m1, hm1⟩ : ∃ m1 : Mn, { m with segs := m.segs.take 300 } = m1 := ⟨_, rfl⟩
  have h1i : m1.In := by rw [← hm1]; exact ⟨hi.gen, hi.v, hi.next, hi.top, by dsimp only; rw [List.length_take]; omega⟩
  have hcut : ∀ (w : World), Calls Tryd.prog 11 [Value.agg (eM m A c).toArray].toArray w (Ret fun v w' => v = .agg (eM m1 A c).toArray ∧ Sat w w' []) := fun w => by rw [← hm1]; exact cutSegs_call w m A c hi hmc
  have hr1 : Rd eSg W A m1.segs := by rw [← hm1]; exact rs.take 300
  have smallIn : smallM.In := ⟨by decide, by decide, by decide, by decide, by decide⟩
  (repeat' (first | refine CW_late3 (mswA W FA us.length fc n keep C cuts.length cc) ?_ ?_))
  case refine_2 =>
    intro hM
    (repeat' (first | refine hM _ _ ?_ | (refine isLW ?_; first | refine LW_nil ?_ | (refine isLload ?_; first | refine LW_loadCAE 0 (eM m A c) TOK hs rfl rfl rfl rfl (Nat.le_of_ble_eq_true rfl) rfl ?_ | refine LW_loadCAE 0 (eM m1 A c) TOK hs rfl rfl rfl rfl (Nat.le_of_ble_eq_true rfl) rfl ?_) | (refine isLstore ?_; first | (refine LW_storeCA 0 TOK hs rfl rfl rfl rfl rfl (eM_one m1 A c) rfl (Nat.le_of_ble_eq_true rfl) ?_; clear hs; intro w hs) | (refine LW_storeCA 1 TOK hs rfl rfl rfl rfl rfl (eM_one smallM As 1) rfl (Nat.le_of_ble_eq_true rfl) ?_; clear hs; intro w hs)) | (refine isLcall ?_; first | (refine LW_call (cap := []) rfl rfl ent11 (hcut _) ?_; rintro _ w2 ⟨rfl, hs2⟩; replace hs := hs.and0 hs2; clear hs2) | (refine LW_call (cap := []) rfl rfl ent12 (Check_call W _ _ m1 A c h1i (hr1.of hs) hs) ?_; clear hs; rintro _ w ⟨e, rfl, he1, he2, hs⟩) | (refine LW_call (cap := []) rfl rfl ent13 (small_call _) ?_; rintro _ w2 ⟨As, rfl, hs2⟩; replace hs := hs.and1 hs2; clear hs2)) | (refine isLbin ?_; first | (refine LW_cmp rfl (fun _ => ?_) (fun _ => ?_) <;> try (exfalso; omega))) | (refine LW_box hs rfl rfl ?_; clear hs; intro b5 w2 hs) | refine LW_pure TOK rfl ?_) | (with_reducible first | refine then_n ?_ | refine CW_seq ?_ | refine CW_region ?_ | refine CW_skip ?_) | refine CW_true rfl ?_ | refine CW_false rfl ?_))
    · have hne : ¬ e = 0 := by assumption
      exact ⟨smallM, As, 1, [RowOf eSg 60 3 As 1 smallM.segs], b5, _, FR_forget _ ⟨rfl, rfl, rfl, rfl, rfl, trivial⟩, smallM_ok, smallIn, fun w' h => h.rd 0 rfl, hs.picks [1]⟩
    · have heq : ¬ ¬ e = 0 := by assumption
      exact ⟨m1, A, c, [], b5, _, FR_forget _ ⟨rfl, rfl, rfl, rfl, rfl, trivial⟩, he2.1 (Classical.not_not.1 heq), h1i, fun w' h => hr1.of h, hs⟩
  clear hs hcut hr1 h1i hm1 hi hmc rs
  rintro _ w ⟨m2, A2, c2, R, b5, τ, rfl, hok, hin, hrd, hs⟩
  obtain ⟨F0, hF0⟩ : ∃ F0, cutF (us.map RF.f) = F0 := ⟨_, rfl⟩
  have hF0l : F0.length ≤ 40 := by rw [← hF0, cutF_len]; omega
  have hF0d : ∀ f ∈ F0, f.2.length ≤ 4096 ∧ f.1.length ≤ 140737488355328 := fun f hf => by
    rw [← hF0] at hf
    unfold cutF at hf
    obtain ⟨g, hg, rfl⟩ := List.mem_map.1 hf
    obtain ⟨r, hr, rfl⟩ := List.mem_map.1 (List.mem_of_mem_take hg)
    exact ⟨by dsimp only; rw [List.length_take]; omega, hnl r hr⟩
  have hcf : ∀ {w : World} {L : List HProp}, Sat W w L → Calls Tryd.prog 14 [Value.slice FA us.length fc].toArray w (Ret fun v w' => ∃ A' c', v = .slice A' F0.length c' ∧ Sat w w' [HF A' c' F0]) := fun {w L} h => by
    rw [← hF0]
    exact cutFiles_call w us FA fc (ra.of h) (fun r hr => (ra2 r hr).of h) hfc hd
  (repeat' (first | refine CW_late3 (mswB W n keep C cuts.length cc) ?_ ?_))
  case refine_2 =>
    intro hM
    (repeat' (first | (refine isLW ?_; first | refine LW_nil ?_ | (refine isLcall ?_; first | (refine LW_call (cap := []) rfl rfl ent14 (hcf hs) ?_; rintro _ w2 ⟨A1, c1, rfl, hs2⟩; replace hs := hs.and1 hs2; clear hs2; obtain ⟨rs0, hrs0, hs⟩ := Sat.openHF hs; have hrl := len_of_map hrs0) | (refine LW_append 2 (xs := rs0) (ys := [⟨bigN, none, 0, []⟩, ⟨maniN, some ⟨bx, 0, none⟩, 1, [120]⟩, ⟨s0N, none, 0, []⟩]) eF_ok.1 hs TOK (by rw [hrl]; rfl) rfl (hs.rdC (t := 42) 0 rfl) eF_ok.2 rfl rfl rfl rfl rfl rfl rfl (by simp only [List.length_cons, List.length_nil]; unfold maxLen; omega) (by simp only [List.length_cons, List.length_nil]; omega) ?_; clear hs; intro AA ac w hs)) | refine LW_build TOK rfl rfl rfl rfl rfl rfl ?_ | (refine LW_convMark 0 TOK hs rfl rfl rfl rfl rfl rfl ?_; clear hs; intro w hs) | (refine LW_buildSlice (t := 40) TOK hs rfl rfl rfl rfl rfl rfl rfl ?_; clear hs; intro bx w hs) | (refine LW_buildSlice (t := 33) TOK hs rfl rfl rfl rfl rfl rfl rfl ?_; clear hs; intro by3 w hs) | refine LW_pure TOK rfl ?_) | (with_reducible first | refine then_n ?_ | refine CW_seq ?_ | refine CW_region ?_)))
    have hs0 : Sat W w (Cl by3 _ 42 :: ClM bx [.int .u8 120] 5 :: RowOf eF 42 2 AA ac (rs0 ++ [⟨bigN, none, 0, []⟩, ⟨maniN, some ⟨bx, 0, none⟩, 1, [120]⟩, ⟨s0N, none, 0, []⟩]) :: Big (rs0.map RF.P) :: Cl b5 (eM m2 A2 c2) 32 :: R) := hs
    clear hs
    have hs := hs0.drop1.picks [3]
    clear hs0
    obtain ⟨As, hAs⟩ : ∃ As, rs0 ++ [(⟨bigN, none, 0, []⟩ : RF), ⟨maniN, some ⟨bx, 0, none⟩, 1, [120]⟩, ⟨s0N, none, 0, []⟩] = As := ⟨_, rfl⟩
    rw [hAs] at hs ⊢
    obtain ⟨R2, hR2⟩ : ∃ R2, ClM bx [.int .u8 120] 5 :: RowOf eF 42 2 AA ac As :: Big (rs0.map RF.P) :: R = R2 := ⟨_, rfl⟩
    replace hs : Sat W w (Cl b5 (eM m2 A2 c2) 32 :: R2) := by rw [← hR2]; exact hs
    have hr0 : ∀ r ∈ rs0, r.f ∈ F0 := fun r hr => hrs0 ▸ List.mem_map.2 ⟨r, hr, rfl⟩
    have hB : MsB W m2 A2 As AA R2 := by
      refine ⟨hok, hin, fun w' h => ?_, ?_, ?_, ?_, ⟨(bigN, []), ?_, swp_big (fun s hs => hok.small hs)⟩⟩
      · rw [← hR2] at h
        refine ⟨hrd w' (Sat.dropN h 3), h.rd 1 rfl, ?_⟩
        rw [← hAs]
        exact all_app3 (bigRd (h.picks [2])) (.inl rfl) (h.rdM (xs := [120]) (t := 5) 0 rfl) (.inl rfl)
      · rw [← hAs, List.length_append, hrl]
        simp only [List.length_cons, List.length_nil]; omega
      · rw [← hAs]
        exact all_app3 (fun r hr => (hF0d r.f (hr0 r hr)).1) (Nat.le_of_ble_eq_true rfl) (Nat.le_of_ble_eq_true rfl) (Nat.le_of_ble_eq_true rfl)
      · rw [← hAs]
        exact all_app3 (fun r hr => (hF0d r.f (hr0 r hr)).2) (Nat.le_of_ble_eq_true rfl) (Nat.le_of_ble_eq_true rfl) (Nat.le_of_ble_eq_true rfl)
      · rw [← hAs]; simp [RF.f]
    have hld := fun {w : World} (h : Sat W w (Cl b5 (eM m2 A2 c2) 32 :: R2)) => hB.load (ac := ac) h
    obtain ⟨⟨e, D0⟩, hlo⟩ : ∃ r, load 4194304 (sumW (As.map RF.f)) (As.map RF.f) = r := ⟨_, rfl⟩
    rw [hlo] at hld
    dsimp only at hld
    by_cases h0 : e = 0
    · subst h0
      have hld2 : ∀ {w : World}, Sat W w (Cl b5 (eM m2 A2 c2) 32 :: R2) → Calls Tryd.prog 15 [Value.int .i64 4194304, .slice AA As.length ac].toArray w (Ret fun v w' => ∃ d, v = .tuple #[.pointer (some ⟨d, 0, none⟩), .int .i64 0] ∧ Sat W w' (HD d D0 :: Cl b5 (eM m2 A2 c2) 32 :: R2)) := fun h => by
        refine Calls.ret (hld h) ?_
        rintro v w' (⟨e1, _⟩ | ⟨_, e1⟩)
        · exact absurd rfl e1
        · exact e1
      clear hld hcf hrd
      (repeat' (first | refine hM _ _ ?_ | (refine isLW ?_; first | refine LW_nil ?_ | (refine isLcall ?_; first | (refine LW_call (cap := []) rfl rfl ent15 (hld2 hs) ?_; clear hs; rintro _ w ⟨d, rfl, hs⟩)) | (refine isLbin ?_; first | (refine LW_cmp rfl (fun _ => ?_) (fun _ => ?_) <;> try (exfalso; omega))) | refine LW_pure TOK rfl ?_) | (with_reducible first | refine then_n ?_ | refine CW_seq ?_ | refine CW_region ?_ | refine CW_skip ?_) | refine CW_false rfl ?_))
      exact ⟨d, b5, m2, A2, c2, As, AA, ac, R2, D0, _, FR_forget _ ⟨rfl, rfl, rfl, rfl, rfl, rfl, rfl, trivial⟩, hB, hlo, hs⟩
    · have hld2 : ∀ {w : World}, Sat W w (Cl b5 (eM m2 A2 c2) 32 :: R2) → Calls Tryd.prog 15 [Value.int .i64 4194304, .slice AA As.length ac].toArray w (Ret fun v w' => v = .tuple #[.pointer none, .int .i64 e] ∧ Sat W w' (Cl b5 (eM m2 A2 c2) 32 :: R2)) := fun h => by
        refine Calls.ret (hld h) ?_
        rintro v w' (⟨_, e1, hs⟩ | ⟨e1, _⟩)
        · exact ⟨e1, hs⟩
        · exact absurd e1 h0
      have hB2 : ∀ (b3 by_ : Nat), MsB W m2 A2 (fbL by_) (some ⟨b3, 0, none⟩) (Cl b3 ((fbL by_).flatMap eF) 42 :: ClM by_ [.int .u8 121] 5 :: R2) := fun b3 by_ => by
        refine ⟨hok, hin, fun w' h => ⟨(hB.rd w' (Sat.dropN h 2)).1, h.rdC (t := 42) 0 rfl, fun r hr => ?_⟩, by show 3 ≤ 43; decide, fun r hr => ?_, fun r hr => ?_, ⟨(bigN, []), by simp [fbL, RF.f], swp_big (fun s hs => hok.small hs)⟩⟩
        · simp only [fbL, List.mem_cons, List.not_mem_nil, or_false] at hr
          rcases hr with rfl | rfl | rfl
          · exact .inl rfl
          · exact .inl rfl
          · exact h.rdM (xs := [121]) (t := 5) 1 rfl
        · simp only [fbL, List.mem_cons, List.not_mem_nil, or_false] at hr
          rcases hr with rfl | rfl | rfl <;> exact Nat.le_of_ble_eq_true rfl
        · simp only [fbL, List.mem_cons, List.not_mem_nil, or_false] at hr
          rcases hr with rfl | rfl | rfl <;> exact Nat.le_of_ble_eq_true rfl
      have hfb : ∀ by_ : Nat, (fbL by_).map RF.f = fbF := fun _ => rfl
      obtain ⟨⟨e2, DF⟩, hlf⟩ : ∃ r, load 4194304 (sumW fbF) fbF = r := ⟨_, rfl⟩
      have he2 : e2 = 0 := by have := fb_load; rw [hlf] at this; exact this
      subst he2
      have hld3 : ∀ {w : World} {b3 by_ : Nat}, Sat W w (Cl b5 (eM m2 A2 c2) 32 :: Cl b3 ((fbL by_).flatMap eF) 42 :: ClM by_ [.int .u8 121] 5 :: R2) → Calls Tryd.prog 15 [Value.int .i64 4194304, .slice (some ⟨b3, 0, none⟩) 3 3].toArray w (Ret fun v w' => ∃ d, v = .tuple #[.pointer (some ⟨d, 0, none⟩), .int .i64 0] ∧ Sat W w' (HD d DF :: Cl b5 (eM m2 A2 c2) 32 :: Cl b3 ((fbL by_).flatMap eF) 42 :: ClM by_ [.int .u8 121] 5 :: R2)) := fun {w b3 by_} h => by
        have := (hB2 b3 by_).load (ac := 3) h
        rw [hfb, hlf] at this
        refine Calls.ret this ?_
        rintro v w' (⟨e1, _⟩ | ⟨_, e1⟩)
        · exact absurd rfl e1
        · exact e1
      clear hld hcf hrd
      (repeat' (first | refine hM _ _ ?_ | (refine isLW ?_; first | refine LW_nil ?_ | (refine isLcall ?_; first | (refine LW_call (cap := []) rfl rfl ent15 (hld2 hs) ?_; clear hs; rintro _ w ⟨rfl, hs⟩) | (refine LW_call (cap := []) rfl rfl ent15 (hld3 (hs.picks [2])) ?_; clear hs; rintro _ w ⟨d, rfl, hs⟩)) | (refine isLbin ?_; first | (refine LW_cmp rfl (fun _ => ?_) (fun _ => ?_) <;> try (exfalso; omega))) | refine LW_build TOK rfl rfl rfl rfl rfl rfl ?_ | (refine LW_convMark 0 TOK hs rfl rfl rfl rfl rfl rfl ?_; clear hs; intro w hs) | (refine LW_buildSlice (t := 40) TOK hs rfl rfl rfl rfl rfl rfl rfl ?_; clear hs; intro bz w hs) | (refine LW_buildSlice (t := 33) TOK hs rfl rfl rfl rfl rfl rfl rfl ?_; clear hs; intro b3 w hs; replace hs : Sat W w (Cl b3 ((fbL bz).flatMap eF) 42 :: ClM bz [.int .u8 121] 5 :: Cl b5 (eM m2 A2 c2) 32 :: R2) := hs) | refine LW_pure TOK rfl ?_) | (with_reducible first | refine then_n ?_ | refine CW_seq ?_ | refine CW_region ?_) | refine CW_true rfl ?_))
      exact ⟨d, b5, m2, A2, c2, fbL bz, some ⟨b3, 0, none⟩, 3, _, DF, _, FR_forget _ ⟨rfl, rfl, rfl, rfl, rfl, rfl, rfl, trivial⟩, hB2 b3 bz, by rw [hfb]; exact hlf, hs⟩
  clear hs hcf hrd hok hin hF0d hF0l hF0
  rintro _ w ⟨d, b5, m2, A2, c2, As, AA, ac, R2, D0, τ, rfl, hB, hlo, hs⟩
  have hAl := hB.len
  have hsl : sumLen (As.map RF.f) ≤ 9000000000000000000 := by
    have h1 := sumLen_le (l := As.map RF.f) (k := 4096) (fun f hf => by obtain ⟨r, hr, rfl⟩ := List.mem_map.1 hf; exact hB.dl r hr)
    rw [List.length_map] at h1
    omega
  obtain ⟨hg0, fs, n0, hL, hD0⟩ := load_out hsl hlo
  obtain ⟨f1, f2, f3, f4⟩ := load_fit hsl hlo
  rw [List.length_map] at f1 f3
  have harm : (D0.arm n).las = n0 ∧ (D0.arm n).fs = fs ∧ (D0.arm n).chs = [] ∧ (D0.arm n).now = n0 ∧ (D0.arm n).down = false ∧ (D0.arm n).list.length = D0.list.length := by
    unfold DS.arm
    rw [if_neg (by rw [f4]; decide), hD0]
    exact ⟨rfl, rfl, rfl, rfl, rfl, rfl⟩
  obtain ⟨D1, hD1⟩ : ∃ D1, D0.arm n = D1 := ⟨_, rfl⟩
  have hg1 : Good D1 := hD1 ▸ hg0.arm n
  rw [hD1] at harm
  obtain ⟨a1, a2, a3, a4, a5, a6⟩ := harm
  have hSw := fun k cs => swept_of (D := D1) hL ⟨a1, a2, a3, by rw [a4, keep_nil]⟩ a5 hB.big k cs
  have hgood := sweepM_good (l := m2.segs) hg1
  obtain ⟨⟨e, D2, G⟩, hsw⟩ : ∃ r, sweepM D1 m2.segs = r := ⟨_, rfl⟩
  have hfs1 : D1.fs.length ≤ 43 := by rw [a2]; rw [hD0] at f1; dsimp only at f1; omega
  have hswc : ∀ {w : World}, Sat W w (HD d D1 :: Cl b5 (eM m2 A2 c2) 32 :: R2) → Calls Tryd.prog 17 [Value.pointer (some ⟨d, 0, none⟩), .agg (eM m2 A2 c2).toArray].toArray w (Ret fun v w' => ∃ B cb, v = .tuple #[.slice B G.length cb, .int .i64 e] ∧ Sat W w' (RowOf eN 9 1 B cb G :: HD d D2 :: Cl b5 (eM m2 A2 c2) 32 :: R2)) := fun {w} h => by
    have := Sweep_call W w _ d D1 m2 A2 c2 h hg1 (by rw [a3]; exact Nat.zero_le _) (by omega) hB.inn (fun w' k => (hB.rd w' (Sat.drop1 k)).1) ht hB.ok
    rw [hsw] at this
    exact this
  rw [hsw] at hgood hSw
  obtain ⟨g1, g2, g3, g4⟩ := hgood
  dsimp only at g1 g2 g3 g4
  have hein : -9223372036854775808 ≤ e ∧ e ≤ 9223372036854775807 := by
    by_cases he : e = 0
    · omega
    · have := ((hSw 0 []).bad he).1
      dsimp only at this
      omega
  rw [a3] at g3
  (repeat' (first | refine CW_late4 (mswC W keep C cc) ?_ ?_))
  case refine_2 =>
    intro hM
    have harmc : ∀ {w : World}, Sat W w (HD d D0 :: Cl b5 (eM m2 A2 c2) 32 :: R2) → Calls Tryd.prog 16 [Value.pointer (some ⟨d, 0, none⟩), .int .i64 n].toArray w (Ret fun v w' => v = .tuple #[] ∧ Sat W w' (HD d D1 :: Cl b5 (eM m2 A2 c2) 32 :: R2)) := fun h => by
      rw [← hD1]; exact arm_call W _ _ d D0 n hn h
    by_cases h40 : 40 < cuts.length
    · (repeat' (first | refine hM _ _ ?_ | (refine isLW ?_; first | refine LW_nil ?_ | (refine isLg ?_; first | refine LW_take rfl ?_) | (refine isLload ?_; first | refine LW_loadCAE 1 (eM m2 A2 c2) TOK hs rfl rfl rfl rfl (Nat.le_of_ble_eq_true rfl) rfl ?_) | (refine isLcall ?_; first | (refine LW_call (cap := []) rfl rfl ent16 (harmc hs) ?_; clear hs; rintro _ w ⟨rfl, hs⟩) | (refine LW_call (cap := []) rfl rfl ent17 (hswc hs) ?_; clear hs; rintro _ w ⟨B, cb, rfl, hs⟩) | refine LW_pure TOK rfl ?_) | (refine isLbin ?_; first | (refine LW_cmp rfl (fun _ => ?_) (fun _ => ?_) <;> try (exfalso; omega)) | refine LW_nileq TOK rfl ?_) | refine LW_sliceH TOK rfl rfl rfl rfl rfl (by omega) (by omega) ?_ | refine LW_pure TOK rfl ?_) | (with_reducible first | refine then_n ?_ | refine CW_seq ?_ | refine CW_region ?_ | refine CW_skip ?_) | refine CW_true rfl ?_ | refine CW_false rfl ?_))
      refine ⟨d, b5, m2, A2, c2, As, AA, ac, R2, D2, G, e, B, cb, cuts.take 40, _, FR_forget _ ⟨rfl, ?_, rfl, rfl, rfl, rfl, rfl, trivial⟩, hB, hSw, g1, by omega, by simp only [List.length_nil] at g3; omega, by omega, rc.take 40, by rw [List.length_take]; omega, hein, hs⟩
      rw [List.length_take, Nat.min_eq_left (by omega)]; rfl
    · (repeat' (first | refine hM _ _ ?_ | (refine isLW ?_; first | refine LW_nil ?_ | (refine isLg ?_; first | refine LW_take rfl ?_) | (refine isLload ?_; first | refine LW_loadCAE 1 (eM m2 A2 c2) TOK hs rfl rfl rfl rfl (Nat.le_of_ble_eq_true rfl) rfl ?_) | (refine isLcall ?_; first | (refine LW_call (cap := []) rfl rfl ent16 (harmc hs) ?_; clear hs; rintro _ w ⟨rfl, hs⟩) | (refine LW_call (cap := []) rfl rfl ent17 (hswc hs) ?_; clear hs; rintro _ w ⟨B, cb, rfl, hs⟩) | refine LW_pure TOK rfl ?_) | (refine isLbin ?_; first | (refine LW_cmp rfl (fun _ => ?_) (fun _ => ?_) <;> try (exfalso; omega)) | refine LW_nileq TOK rfl ?_) | refine LW_pure TOK rfl ?_) | (with_reducible first | refine then_n ?_ | refine CW_seq ?_ | refine CW_region ?_ | refine CW_skip ?_) | refine CW_false rfl ?_))
      exact ⟨d, b5, m2, A2, c2, As, AA, ac, R2, D2, G, e, B, cb, cuts, _, FR_forget _ ⟨rfl, rfl, rfl, rfl, rfl, rfl, rfl, trivial⟩, hB, hSw, g1, by omega, by simp only [List.length_nil] at g3; omega, by omega, rc, by omega, hein, hs⟩
  clear hs hswc hSw hlo hL hD0 hD1 hg0 hg1 hsw g1 g2 g3 g4 a1 a2 a3 a4 a5 a6 f1 f2 f3 f4 hsl hfs1 hein rc hcl hcc hAl hB
  rintro _ w ⟨d, b5, m2, A2, c2, As, AA, ac, R2, D2, G, e, B, cb, cuts, τ, rfl, hB, hSw, g1, g2, g3, g4, rc, hcl, hein, hs⟩
  have hSw := hSw keep cuts
  have hfit : Fit D2 := ⟨g1, by omega, by omega⟩
  obtain ⟨X, hX⟩ : ∃ X, D2.crash keep cuts = X := ⟨_, rfl⟩
  obtain ⟨Y, hY⟩ : ∃ Y, D2.files = Y := ⟨_, rfl⟩
  have hXl : X.length ≤ 2199023255552 := by
    rw [← hX]
    unfold DS.crash
    rw [leftL_len]
    have h1 := (g1.st.kept (clamp keep 0 D2.chs.length).toNat).nd
    have h2 := len_le_of_nodup h1 (l2 := List.range D2.fs.length) (fun x hx => List.mem_range.2 (g1.st.ltKept hx))
    unfold idsL at h2
    rw [List.length_map, List.length_range] at h2
    unfold keptN
    omega
  have hYl : Y.length ≤ 43 := by
    rw [← hY]
    unfold DS.files filesOf
    rw [List.length_map]
    have := now_le g1
    omega
  have hYd : ∀ f ∈ Y, f.2.length ≤ 4194304 := fun f h => by
    rw [← hY] at h
    unfold DS.files filesOf at h
    obtain ⟨p, hp, rfl⟩ := List.mem_map.1 h
    exact dat_bd g1 (g1.subNow (List.mem_map.2 ⟨p, hp, rfl⟩))
  have hst := hSw.stay
  have hgo := hSw.gone
  have hsm := hSw.sum
  dsimp only at hst hgo hsm
  rw [hX, hY] at hst
  rw [hX] at hgo
  rw [hY, List.length_map] at hsm
  have hcr : ∀ {w : World} {L : List HProp}, Sat W w (HD d D2 :: L) → Calls Tryd.prog 18 [Value.pointer (some ⟨d, 0, none⟩), .int .i64 keep, .slice C cuts.length cc].toArray w (Ret fun v w' => ∃ A c, v = .slice A X.length c ∧ Sat W w' (HF A c X :: HD d D2 :: L)) := fun {w L} h => by rw [← hX]; exact crash_call W w L d D2 keep C cc cuts h hfit hk (fun w' h => rc.of h) (by omega)
  have hfi : ∀ {w : World} {L : List HProp}, Sat W w (HD d D2 :: L) → Calls Tryd.prog 19 [Value.pointer (some ⟨d, 0, none⟩)].toArray w (Ret fun v w' => ∃ A c, v = .slice A Y.length c ∧ Sat W w' (HF A c Y :: HD d D2 :: L)) := fun {w L} h => by rw [← hY]; exact files_call W w L d D2 h hfit
  have hAl := hB.len
  (repeat' (first | (refine isLW ?_; first | refine LW_nil ?_ | (refine isLcall ?_; first | (refine LW_call (cap := []) rfl rfl ent18 (hcr (hs.picks [1])) ?_; clear hs; rintro _ w ⟨LA, lc, rfl, hs⟩) | (refine LW_call (cap := []) rfl rfl ent19 (hfi (hs.picks [1])) ?_; clear hs; rintro _ w ⟨NA, nc, rfl, hs⟩)) | refine LW_pure TOK rfl ?_) | (with_reducible first | refine then_n ?_ | refine CW_seq ?_ | refine CW_region ?_ | refine CW_block ?_)))
  obtain ⟨X2, hX2⟩ : ∃ X2, HF NA nc Y :: HD d D2 :: HF LA lc X :: RowOf eN 9 1 B cb G :: Cl b5 (eM m2 A2 c2) 32 :: R2 = X2 := ⟨_, rfl⟩
  replace hs : Sat W w (HF NA nc Y :: HD d D2 :: HF LA lc X :: RowOf eN 9 1 B cb G :: Cl b5 (eM m2 A2 c2) 32 :: R2) := hs
  have hrA : RdW W (HF NA nc Y :: HD d D2 :: HF LA lc X :: RowOf eN 9 1 B cb G :: Cl b5 (eM m2 A2 c2) 32 :: R2) eF AA As := ⟨fun h => (hB.rd _ (Sat.dropN h 5)).2.1⟩
  refine CW_loop (γ := Nat) (fun g => [(5, .pointer (some ⟨b5, 0, none⟩)), (11, .slice AA As.length ac), (12, .pointer (some ⟨d, 0, none⟩)), (13, .int .i64 e), (14, .slice B G.length cb), (15, .slice LA X.length lc), (16, .slice NA Y.length nc), (17, .int .i64 (g : Int))]) (fun g w' => Sat W w' (HF NA nc Y :: HD d D2 :: HF LA lc X :: RowOf eN 9 1 B cb G :: Cl b5 (eM m2 A2 c2) 32 :: R2) ∧ g ≤ As.length) (fun g => As.length - g) 0 ⟨rfl, rfl, rfl, rfl, rfl, rfl, rfl, rfl, trivial⟩ ⟨hs, Nat.zero_le _⟩ ?_
  clear hs hcr hX2
  rintro i τ w ⟨hs, hi⟩
  by_cases hlt : i < As.length
  case pos =>
    have hmem : rd As (i : Int) ∈ As := by rw [rd_at hlt]; exact List.getElem_mem hlt
    obtain ⟨r, hr⟩ : ∃ r, rd As (i : Int) = r := ⟨_, rfl⟩
    rw [hr] at hmem
    have hnml := hB.nl r hmem
    have hdal := hB.dl r hmem
    have hrd : ∀ {w' : World}, Sat W w' (HF NA nc Y :: HD d D2 :: HF LA lc X :: RowOf eN 9 1 B cb G :: Cl b5 (eM m2 A2 c2) 32 :: R2) → Rd eB w' r.A r.data := fun h => (hB.rd _ (Sat.dropN h 5)).2.2 r hmem
    obtain ⟨⟨k, o⟩, hko⟩ : ∃ q, numG r.n = q := ⟨_, rfl⟩
    have hnum : ∀ {w : World} {L : List HProp}, Sat W w L → Calls Tryd.prog 6 [sv r.n].toArray w (Ret fun v w' => v = .tuple #[.int .i64 k, .bool o] ∧ Sat W w' L) := fun {w L} h => by
      have := Num_call W w L r.n (by omega) ht h
      rw [hko] at this
      exact this
    obtain ⟨q, hq⟩ : ∃ q, named m2.segs k = q := ⟨_, rfl⟩
    have hnmd : ∀ {w : World}, Sat W w (HF NA nc Y :: HD d D2 :: HF LA lc X :: RowOf eN 9 1 B cb G :: Cl b5 (eM m2 A2 c2) 32 :: R2) → Calls Tryd.prog 20 [Value.agg (eM m2 A2 c2).toArray, .int .i64 k].toArray w (Ret fun v w' => v = .bool q ∧ Sat w w' []) := fun {w} h => by
      have := named_call w m2 A2 c2 k hB.inn.len (hB.rd _ (Sat.dropN h 5)).1
      rw [hq] at this
      exact this
    have hsw : swp m2.segs r.n = (decide (r.n = tmpN) || (o && !q)) := by unfold swp; rw [hko]; dsimp only; rw [hq]
    by_cases hm : swp m2.segs r.n = true
    · have hm2 := hm
      rw [hsw] at hm2
      have hcase : r.n = tmpN ∨ (¬ r.n = tmpN ∧ o = true ∧ q = false) := by
        by_cases h : r.n = tmpN
        · exact .inl h
        · rw [decide_eq_false h] at hm2
          cases o <;> cases q <;> first | exact .inr ⟨h, rfl, rfl⟩ | (exact absurd hm2 (by decide))
      rcases hcase with hx | ⟨hx, rfl, rfl⟩
      case' inl => (repeat' (first | refine LW_strEq (a := r.n) (b := tmpN) rfl rfl rfl rfl (fun _ => ?_) (fun hne => absurd hx hne) | (refine isLW ?_; first | refine LW_nil ?_ | (refine isLg ?_; first | refine LW_pass rfl rfl ?_ | refine LW_passV rfl rfl rfl ?_) | (refine isLload ?_; first | refine LW_loadRd (v := sv r.n) (hrA.of hs) (fun _ => rfl) TOK rfl (by assumption) rfl rfl (by omega) (by omega) (by rw [hr]; rfl) ?_) | (refine isLcall ?_; first | (refine LW_call (cap := []) rfl rfl ent6 (hnum hs) ?_; clear hs; rintro _ w ⟨rfl, hs⟩) | refine LW_pure TOK rfl ?_) | (refine isLidx ?_; first | (refine LW_indexRd (hrA.of hs) TOK rfl rfl rfl rfl rfl (by omega) (by omega) ?_; intro _ _ _)) | (refine isLbin ?_; first | refine LW_i64 rfl (by omega) (by omega) ?_ | (refine LW_cmp rfl (fun _ => ?_) (fun _ => ?_) <;> try (exfalso; omega))) | refine LW_pure TOK rfl ?_) | (with_reducible first | refine then_n ?_ | refine CW_seq ?_ | refine CW_region ?_ | refine CW_block ?_ | refine CW_skip ?_ | refine CW_exit ?_ | refine then_e ?_ | refine blk_same ?_) | refine CW_true rfl ?_))
      case' inr => (repeat' (first | refine LW_strEq (a := r.n) (b := tmpN) rfl rfl rfl rfl (fun hne => absurd hne hx) (fun _ => ?_) | (refine isLW ?_; first | refine LW_nil ?_ | (refine isLg ?_; first | refine LW_take rfl ?_) | (refine isLload ?_; first | refine LW_loadRd (v := sv r.n) (hrA.of hs) (fun _ => rfl) TOK rfl (by assumption) rfl rfl (by omega) (by omega) (by rw [hr]; rfl) ?_ | refine LW_loadCAE 4 (eM m2 A2 c2) TOK hs rfl rfl rfl rfl (Nat.le_of_ble_eq_true rfl) rfl ?_) | (refine isLcall ?_; first | (refine LW_call (cap := []) rfl rfl ent6 (hnum hs) ?_; clear hs; rintro _ w ⟨rfl, hs⟩) | (refine LW_call (cap := []) rfl rfl ent20 (hnmd hs) ?_; rintro _ w2 ⟨rfl, hs2⟩; replace hs := hs.and0 hs2; clear hs2) | refine LW_pure TOK rfl ?_) | (refine isLidx ?_; first | (refine LW_indexRd (hrA.of hs) TOK rfl rfl rfl rfl rfl (by omega) (by omega) ?_; intro _ _ _)) | (refine isLbin ?_; first | refine LW_i64 rfl (by omega) (by omega) ?_ | (refine LW_cmp rfl (fun _ => ?_) (fun _ => ?_) <;> try (exfalso; omega))) | refine LW_pure TOK rfl ?_) | (with_reducible first | refine then_n ?_ | refine CW_seq ?_ | refine CW_region ?_ | refine CW_block ?_ | refine CW_skip ?_ | refine CW_exit ?_ | refine then_e ?_ | refine blk_same ?_) | refine CW_true rfl ?_))
      all_goals exact ⟨i + 1, _, FR_forget _ ⟨rfl, rfl, rfl, rfl, rfl, rfl, rfl, (by push_cast; rfl), trivial⟩, ⟨hs, hlt⟩, by omega⟩
    · rw [Bool.not_eq_true] at hm
      have hm2 := hm
      rw [hsw] at hm2
      have hx : ¬ r.n = tmpN := fun h => by rw [decide_eq_true h] at hm2; cases hm2
      rw [decide_eq_false hx, Bool.false_or] at hm2
      obtain ⟨hl1, hl2⟩ := hst r.f (List.mem_map.2 ⟨r, hmem, rfl⟩) hm
      have hby : ∀ {w : World} {Z : List File} {ZA : Option Addr} {zc : Nat}, Z.length ≤ 2199023255552 → lk Z r.n = some r.data → RdF w ZA Z → Calls Tryd.prog 21 [Value.slice ZA Z.length zc, sv r.n].toArray w (Ret fun v w' => ∃ B1 k1, v = .tuple #[.slice B1 r.data.length k1, .bool true] ∧ Rd eB w' B1 r.data ∧ Sat w w' []) := fun {w Z ZA zc} hz hlk hf => by
        refine Calls.ret (bytesOf_call w Z ZA zc r.n hf hz) ?_
        rintro v w' ⟨h1, ⟨h2, _⟩ | ⟨b, B1, k1, h2, h3, h4⟩⟩
        · rw [hlk] at h2; cases h2
        · rw [hlk] at h2
          obtain rfl := Option.some.inj h2
          exact ⟨B1, k1, h3, h4, h1⟩
      have hsb : ∀ {w : World} {A B : Option Addr} {c c' : Nat}, Rd eB w A r.data → Rd eB w B r.data → Calls Tryd.prog 22 [Value.slice A r.data.length c, .slice B r.data.length c'].toArray w (Ret fun v w' => v = .bool true ∧ Sat w w' []) := fun {w A B c c'} h1 h2 => by
        have := alike_call w r.data r.data A B c c' h1 h2 (by omega)
        rwa [decide_eq_true rfl] at this
      have hcase : o = false ∨ (o = true ∧ q = true) := by
        cases o <;> cases q <;> first | exact .inl rfl | exact .inr ⟨rfl, rfl⟩ | (exact absurd hm2 (by decide))
      rcases hcase with rfl | ⟨rfl, rfl⟩
      case' inl => (repeat' (first | refine LW_strEq (a := r.n) (b := tmpN) rfl rfl rfl rfl (fun hne => absurd hne hx) (fun _ => ?_) | (refine isLW ?_; first | refine LW_nil ?_ | (refine isLg ?_; first | refine LW_take rfl ?_ | refine LW_pass rfl rfl ?_) | (refine isLload ?_; first | refine LW_loadRd (v := sv r.n) (hrA.of hs) (fun _ => rfl) TOK rfl (by assumption) rfl rfl (by omega) (by omega) (by rw [hr]; rfl) ?_ | refine LW_loadRd (v := .slice r.A r.data.length r.c) (hrA.of hs) (fun _ => rfl) TOK rfl (by assumption) rfl rfl (by omega) (by omega) (by rw [hr]; rfl) ?_) | (refine isLcall ?_; first | (refine LW_call (cap := []) rfl rfl ent6 (hnum hs) ?_; clear hs; rintro _ w ⟨rfl, hs⟩) | (refine LW_call (cap := []) rfl rfl ent21 (hby hXl hl1 (Sat.rdF (hs.picks [2]))) ?_; rintro _ w2 ⟨B1, k1, rfl, hb1, hs2⟩; replace hs := hs.and0 hs2; clear hs2) | (refine LW_call (cap := []) rfl rfl ent21 (hby (by omega) hl2 (Sat.rdF hs)) ?_; rintro _ w2 ⟨B2, k2, rfl, hb2, hs2⟩; replace hb1 := hb1.of hs2; replace hs := hs.and0 hs2; clear hs2) | (refine LW_call (cap := []) rfl rfl ent22 (hsb hb1 (hrd hs)) ?_; rintro _ w2 ⟨rfl, hs2⟩; replace hb2 := hb2.of hs2; replace hs := hs.and0 hs2; clear hs2) | (refine LW_call (cap := []) rfl rfl ent22 (hsb hb2 (hrd hs)) ?_; rintro _ w2 ⟨rfl, hs2⟩; replace hs := hs.and0 hs2; clear hs2) | refine LW_pure TOK rfl ?_) | (refine isLidx ?_; first | (refine LW_indexRd (hrA.of hs) TOK rfl rfl rfl rfl rfl (by omega) (by omega) ?_; intro _ _ _)) | (refine isLbin ?_; first | refine LW_i64 rfl (by omega) (by omega) ?_ | (refine LW_cmp rfl (fun _ => ?_) (fun _ => ?_) <;> try (exfalso; omega))) | refine LW_pure TOK rfl ?_) | (with_reducible first | refine then_n ?_ | refine CW_seq ?_ | refine CW_region ?_ | refine CW_block ?_ | refine CW_skip ?_ | refine blk_n ?_) | refine CW_true rfl ?_ | refine CW_false rfl ?_))
      case' inr => (repeat' (first | refine LW_strEq (a := r.n) (b := tmpN) rfl rfl rfl rfl (fun hne => absurd hne hx) (fun _ => ?_) | (refine isLW ?_; first | refine LW_nil ?_ | (refine isLg ?_; first | refine LW_take rfl ?_) | (refine isLload ?_; first | refine LW_loadRd (v := sv r.n) (hrA.of hs) (fun _ => rfl) TOK rfl (by assumption) rfl rfl (by omega) (by omega) (by rw [hr]; rfl) ?_ | refine LW_loadCAE 4 (eM m2 A2 c2) TOK hs rfl rfl rfl rfl (Nat.le_of_ble_eq_true rfl) rfl ?_ | refine LW_loadRd (v := .slice r.A r.data.length r.c) (hrA.of hs) (fun _ => rfl) TOK rfl (by assumption) rfl rfl (by omega) (by omega) (by rw [hr]; rfl) ?_) | (refine isLcall ?_; first | (refine LW_call (cap := []) rfl rfl ent6 (hnum hs) ?_; clear hs; rintro _ w ⟨rfl, hs⟩) | (refine LW_call (cap := []) rfl rfl ent20 (hnmd hs) ?_; rintro _ w2 ⟨rfl, hs2⟩; replace hs := hs.and0 hs2; clear hs2) | (refine LW_call (cap := []) rfl rfl ent21 (hby hXl hl1 (Sat.rdF (hs.picks [2]))) ?_; rintro _ w2 ⟨B1, k1, rfl, hb1, hs2⟩; replace hs := hs.and0 hs2; clear hs2) | (refine LW_call (cap := []) rfl rfl ent21 (hby (by omega) hl2 (Sat.rdF hs)) ?_; rintro _ w2 ⟨B2, k2, rfl, hb2, hs2⟩; replace hb1 := hb1.of hs2; replace hs := hs.and0 hs2; clear hs2) | (refine LW_call (cap := []) rfl rfl ent22 (hsb hb1 (hrd hs)) ?_; rintro _ w2 ⟨rfl, hs2⟩; replace hb2 := hb2.of hs2; replace hs := hs.and0 hs2; clear hs2) | (refine LW_call (cap := []) rfl rfl ent22 (hsb hb2 (hrd hs)) ?_; rintro _ w2 ⟨rfl, hs2⟩; replace hs := hs.and0 hs2; clear hs2) | refine LW_pure TOK rfl ?_) | (refine isLidx ?_; first | (refine LW_indexRd (hrA.of hs) TOK rfl rfl rfl rfl rfl (by omega) (by omega) ?_; intro _ _ _)) | (refine isLbin ?_; first | refine LW_i64 rfl (by omega) (by omega) ?_ | (refine LW_cmp rfl (fun _ => ?_) (fun _ => ?_) <;> try (exfalso; omega))) | refine LW_pure TOK rfl ?_) | (with_reducible first | refine then_n ?_ | refine CW_seq ?_ | refine CW_region ?_ | refine CW_block ?_ | refine CW_skip ?_ | refine blk_n ?_) | refine CW_true rfl ?_ | refine CW_false rfl ?_))
      all_goals exact ⟨i + 1, _, FR_forget _ ⟨rfl, rfl, rfl, rfl, rfl, rfl, rfl, (by push_cast; rfl), trivial⟩, ⟨hs, hlt⟩, by omega⟩
  clear hst
  by_cases he : e = 0
  case neg =>
    obtain ⟨q1, q2, q3⟩ := hSw.bad he
    dsimp only at q1 q2 q3
    subst q1
    have hG0 : G.length = 0 := by rw [q2]; rfl
    (repeat' (first | (refine isLW ?_; first | refine LW_nil ?_ | (refine isLg ?_; first | refine LW_take rfl ?_) | (refine isLcall ?_; first | (refine LW_call (cap := []) rfl rfl ent23 (down_call W _ _ d D2 (hs.picks [1])) ?_; clear hs; rintro _ w ⟨rfl, hs⟩; rw [q3]) | refine LW_pure TOK rfl ?_) | (refine isLbin ?_; first | (refine LW_cmp rfl (fun _ => ?_) (fun _ => ?_) <;> try (exfalso; omega))) | refine LW_pure TOK rfl ?_) | (with_reducible first | refine then_n ?_ | refine CW_seq ?_ | refine CW_region ?_ | refine CW_exit ?_ | refine CW_ret ?_ | refine then_e ?_ | refine then_r ?_ | refine blk_same ?_) | refine CW_true rfl ?_ | refine CW_false rfl ?_ | refine RET1 Tryd.results5 rfl ?_))
    exact ⟨rfl, hs.nil⟩
  subst he
  have hgo := hgo rfl
  have hsm := hsm rfl
  have hsome := hSw.some rfl
  have hag := hSw.again rfl
  dsimp only at hsome hag
  have hGn : 0 < G.length := List.length_pos_iff.2 hsome
  (repeat' (first | (refine isLW ?_; first | refine LW_nil ?_ | (refine isLcall ?_; first | refine LW_pure TOK rfl ?_) | (refine isLbin ?_; first | (refine LW_cmp rfl (fun _ => ?_) (fun _ => ?_) <;> try (exfalso; omega))) | refine LW_pure TOK rfl ?_) | (with_reducible first | refine then_n ?_ | refine CW_seq ?_ | refine CW_region ?_ | refine CW_block ?_ | refine CW_skip ?_ | refine CW_exit ?_ | refine then_e ?_ | refine blk_same ?_) | refine CW_false rfl ?_))
  refine CW_loop (γ := Nat) (fun g => [(5, .pointer (some ⟨b5, 0, none⟩)), (11, .slice AA As.length ac), (12, .pointer (some ⟨d, 0, none⟩)), (14, .slice B G.length cb), (15, .slice LA X.length lc), (16, .slice NA Y.length nc), (24, .int .i64 (g : Int))]) (fun g w' => Sat W w' (HF NA nc Y :: HD d D2 :: HF LA lc X :: RowOf eN 9 1 B cb G :: Cl b5 (eM m2 A2 c2) 32 :: R2) ∧ g ≤ G.length) (fun g => G.length - g) 0 ⟨rfl, rfl, rfl, rfl, rfl, rfl, rfl, trivial⟩ ⟨hs, Nat.zero_le _⟩ ?_
  clear hs hlt hi
  rintro i τ w ⟨hs, hi⟩
  by_cases hlt : i < G.length
  case pos =>
    have hlk := hgo (rd G (i : Int)) (by rw [rd_at hlt]; exact List.getElem_mem hlt)
    have hby : ∀ {w : World}, RdF w LA X → Calls Tryd.prog 21 [Value.slice LA X.length lc, sv (rd G (i : Int))].toArray w (Ret fun v w' => v = .tuple #[.slice none 0 0, .bool false] ∧ Sat w w' []) := fun {w} hf => by
      refine Calls.ret (bytesOf_call w X LA lc (rd G (i : Int)) hf hXl) ?_
      rintro v w' ⟨h1, ⟨_, h2⟩ | ⟨b, B1, k1, h2, _⟩⟩
      · exact ⟨h2, h1⟩
      · rw [hlk] at h2; cases h2
    (repeat' (first | (refine isLW ?_; first | refine LW_nil ?_ | (refine isLload ?_; first | refine LW_loadRd0 (hs.rd 3 rfl) (fun _ => rfl) TOK rfl (by assumption) rfl rfl (by omega) (by omega) rfl ?_) | (refine isLcall ?_; first | (refine LW_call (cap := []) rfl rfl ent21 (hby (Sat.rdF (hs.picks [2]))) ?_; rintro _ w2 ⟨rfl, hs2⟩; replace hs := hs.and0 hs2; clear hs2) | refine LW_pure TOK rfl ?_) | (refine isLidx ?_; first | (refine LW_indexRd (hs.rd 3 rfl) TOK rfl rfl rfl rfl rfl (by omega) (by omega) ?_; intro _ _ _)) | (refine isLbin ?_; first | refine LW_i64 rfl (by omega) (by omega) ?_ | (refine LW_cmp rfl (fun _ => ?_) (fun _ => ?_) <;> try (exfalso; omega))) | refine LW_pure TOK rfl ?_) | (with_reducible first | refine then_n ?_ | refine CW_seq ?_ | refine CW_region ?_ | refine CW_block ?_ | refine CW_skip ?_ | refine blk_n ?_) | refine CW_true rfl ?_ | refine CW_false rfl ?_))
    exact ⟨i + 1, _, FR_forget _ ⟨rfl, rfl, rfl, rfl, rfl, rfl, (by push_cast; rfl), trivial⟩, ⟨hs, hlt⟩, by omega⟩
  have hswc : ∀ {w : World}, Sat W w (HD d D2 :: HF NA nc Y :: HF LA lc X :: RowOf eN 9 1 B cb G :: Cl b5 (eM m2 A2 c2) 32 :: R2) → Calls Tryd.prog 17 [Value.pointer (some ⟨d, 0, none⟩), .agg (eM m2 A2 c2).toArray].toArray w (Ret fun v w' => ∃ B7 cb2, v = .tuple #[.slice B7 0 cb2, .int .i64 0] ∧ Sat W w' (RowOf eN 9 1 B7 cb2 [] :: HD d D2 :: HF NA nc Y :: HF LA lc X :: RowOf eN 9 1 B cb G :: Cl b5 (eM m2 A2 c2) 32 :: R2)) := fun {w} h => by
    have := Sweep_call W w _ d D2 m2 A2 c2 h g1 (by omega) (by omega) hB.inn (fun w' k => (hB.rd w' (Sat.dropN k 4)).1) ht hB.ok
    rw [hag] at this
    exact this
  have hsf : ∀ {w : World} {A B : Option Addr} {c c' : Nat}, RdF w A Y → RdF w B Y → Calls Tryd.prog 24 [Value.slice A Y.length c, .slice B Y.length c'].toArray w (Ret fun v w' => v = .bool true ∧ Sat w w' []) := fun {w A B c c'} h1 h2 => by
    have := filesAlike_call w Y Y A B c c' h1 h2 (by omega) (fun f hf => by have := hYd f hf; omega)
    rwa [decide_eq_true rfl] at this
  (repeat' (first | (refine isLW ?_; first | refine LW_nil ?_ | (refine isLg ?_; first | refine LW_take rfl ?_) | (refine isLload ?_; first | refine LW_loadCAE 4 (eM m2 A2 c2) TOK hs rfl rfl rfl rfl (Nat.le_of_ble_eq_true rfl) rfl ?_) | (refine isLcall ?_; first | (refine LW_call (cap := []) rfl rfl ent17 (hswc (hs.picks [1])) ?_; clear hs; rintro _ w ⟨B9, cb9, rfl, hs⟩) | (refine LW_call (cap := []) rfl rfl ent19 (hfi (hs.picks [1])) ?_; clear hs; rintro _ w ⟨A9, c9, rfl, hs⟩) | (refine LW_call (cap := []) rfl rfl ent24 (hsf (Sat.rdF (hs.picks [3])) (Sat.rdF hs)) ?_; rintro _ w2 ⟨rfl, hs2⟩; replace hs := hs.and0 hs2; clear hs2) | refine LW_pure TOK rfl ?_) | (refine isLbin ?_; first | refine LW_i64 rfl (by omega) (by omega) ?_ | (refine LW_cmp rfl (fun _ => ?_) (fun _ => ?_) <;> try (exfalso; omega))) | refine LW_pure TOK rfl ?_) | (with_reducible first | refine then_n ?_ | refine CW_seq ?_ | refine CW_region ?_ | refine CW_skip ?_ | refine CW_exit ?_ | refine CW_ret ?_ | refine then_e ?_ | refine blk_same ?_) | refine CW_false rfl ?_ | refine RET1 Tryd.results5 rfl ?_))
  exact ⟨rfl, hs.nil⟩
end Go.Proofs.YthhklkpkhaibcaaDoor
