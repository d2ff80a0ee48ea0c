/- Plain: what a changing call leaves as it was. -/
import Derived.Test.YtoodgenbcfdloaaG4
import Derived.Test.YtoodgenbcfdloaaG17
set_option linter.unusedVariables false
set_option linter.unusedSimpArgs false
namespace Go.Proofs.Ytoodgenbcfdloaa
theorem turn_none {D : DS} (h : D.left = none) : D.turn = (0, D) := by
  obtain ⟨q, fs, now, las, chs, left, down⟩ := D
  dsimp only at h
  subst h
  rfl
/-- Not armed: a call that is refused changes nothing. -/
theorem act_refused {D : DS} (h : D.left = none) (k : Int) (a b : Nm) (n : Int) (data : List UInt8) : (D.act k a b n data).1 ≠ 0 → (D.act k a b n data).2 = D := by
  have ht := turn_none h
  unfold DS.act DS.create DS.append DS.sync DS.trunc DS.rename DS.remove DS.syncdir DS.note
  simp only [ht, if_true]
  intro hne
  repeat' (first | (split at hne <;> split <;> first | (exfalso; exact hne rfl) | rfl | contradiction | skip) | rfl)
structure Same (D D' : DS) : Prop where
  left : D.left = none → D'.left = none
  down : D.left = none → D'.down = D.down
  quota : D'.quota = D.quota
  chs : D'.chs.length ≤ D.chs.length + 1
  fs : D'.fs.length ≤ D.fs.length + 1
theorem same_refl (D : DS) : Same D D := ⟨id, fun _ => rfl, rfl, Nat.le_succ _, Nat.le_succ _⟩
theorem same_turn (D : DS) : Same D D.turn.2 := by
  obtain ⟨e1, e2, e3, e4, e5⟩ := turn_fields D
  exact ⟨fun h => by rw [turn_none h]; exact h, fun h => by rw [turn_none h], e5, by rw [e4]; exact Nat.le_succ _, by rw [e1]; exact Nat.le_succ _⟩
theorem turn_same {D D' : DS} (hl : D'.left = D.turn.2.left) (hd : D'.down = D.turn.2.down) (hq : D'.quota = D.quota) (hc : D'.chs.length ≤ D.chs.length + 1) (hf : D'.fs.length ≤ D.fs.length + 1) : Same D D' :=
  ⟨fun h => by rw [hl, turn_none h]; exact h, fun h => by rw [hd, turn_none h], hq, hc, hf⟩
theorem same_note (D : DS) (c : Chg) : Same D (D.note c).2 := by
  obtain ⟨e1, e2, e3, e4, e5⟩ := turn_fields D
  unfold DS.note
  split
  · exact turn_same rfl rfl e5 (by show (D.turn.2.chs ++ [c]).length ≤ _; rw [e4]; simp) (by show D.turn.2.fs.length ≤ _; rw [e1]; omega)
  · exact same_turn D
theorem same_setF (D : DS) (i : Nat) (f : Fl) : Same D (D.turn.2.setF i f) := by
  obtain ⟨e1, e2, e3, e4, e5⟩ := turn_fields D
  exact turn_same rfl rfl e5 (by show D.turn.2.chs.length ≤ _; rw [e4]; omega) (by show (D.turn.2.fs.set i f).length ≤ _; rw [List.length_set, e1]; omega)
theorem act_same (D : DS) (k : Int) (a b : Nm) (n : Int) (data : List UInt8) : Same D (D.act k a b n data).2 := by
  obtain ⟨e1, e2, e3, e4, e5⟩ := turn_fields D
  unfold DS.act
  split
  · unfold DS.create
    split
    · exact same_refl D
    split
    · split
      · exact turn_same rfl rfl e5 (by show (D.turn.2.chs ++ [_]).length ≤ _; rw [e4]; simp) (by show (D.turn.2.fs ++ [_]).length ≤ _; rw [e1]; simp)
      · exact same_turn D
    · exact same_refl D
  split
  · unfold DS.append
    split
    · split
      · exact same_refl D
      split
      · exact same_setF D _ _
      · exact same_turn D
    · exact same_refl D
  split
  · unfold DS.sync
    split
    · split
      · exact same_setF D _ _
      · exact same_turn D
    · exact same_refl D
  split
  · unfold DS.trunc
    split
    · split
      · exact same_refl D
      split
      · exact same_setF D _ _
      · exact same_turn D
    · exact same_refl D
  split
  · unfold DS.rename
    split
    · exact same_refl D
    split
    · exact same_refl D
    split
    · exact same_refl D
    · exact same_note D _
  split
  · unfold DS.remove
    split
    · exact same_note D _
    · exact same_refl D
  · unfold DS.syncdir
    split
    · exact same_refl D
    split
    · exact turn_same rfl rfl e5 (by show ([] : List Chg).length ≤ _; simp) (by show D.turn.2.fs.length ≤ _; rw [e1]; omega)
    · exact same_turn D
end Go.Proofs.Ytoodgenbcfdloaa

/- Walks: DiskStays. -/
set_option linter.unusedVariables false
set_option linter.unusedSimpArgs false
namespace Go.Proofs.Ytoodgenbcfdloaa
open Go Go.Sl Go.RowKit
set_option maxRecDepth 100000
attribute [local irreducible] CW LW DW FR DP Calls

theorem freeH_call (W w : World) (L : List HProp) (d : Nat) (D : DS) (hs : Sat W w (HD d D :: L)) (hf : Fit D) :
    Calls Try.prog 32 [Value.pointer (some ⟨d, 0, none⟩)].toArray w (Ret fun v w' => v = .int .i64 D.free ∧ Sat W w' (HD d D :: L)) := by
  obtain ⟨R, ho, hs⟩ := Sat.openD hs
  have h1 := hf.good.room
  have h2 := hf.good.quota
  have h3 := hf.chs
  refine Sl.Calls.ret (free_call W w L R d D hs ho hf.bd (by omega) h2 (by omega)) ?_
  rintro v w' ⟨rfl, hs⟩
  exact ⟨rfl, Sat.closeD ho hs⟩
/-- A script that may be read. -/
structure Scr (W : World) (A : Option Addr) (ops : List Op) : Prop where
  rd : Rd eO W A ops
  ok : ∀ o ∈ ops, o.Ok
  data : ∀ o ∈ ops, Rd eB W o.dA o.data
  cuts : ∀ o ∈ ops, Rd eP W o.cA o.cuts
  len : ops.length ≤ 1099511627776
/-- What holds of a disk behind i steps. -/
structure Run (D : DS) (i : Nat) : Prop where
  good : Good D
  left : D.left = none
  down : D.down = false
  chs : D.chs.length ≤ i
  fs : D.fs.length ≤ i + 1
theorem Run.fit {D : DS} {i : Nat} (h : Run D i) (hi : i ≤ 1099511627776) : Fit D := ⟨h.good, by have := h.chs; omega, by have := h.fs; omega⟩
theorem Run.next {D : DS} {i : Nat} (h : Run D i) : Run D (i + 1) := ⟨h.good, h.left, h.down, Nat.le_succ_of_le h.chs, Nat.le_succ_of_le h.fs⟩
theorem Run.act {D : DS} {i : Nat} (h : Run D i) (k : Int) (a b : Nm) (n : Int) (data : List UInt8) : Run (D.act k a b n data).2 (i + 1) := by
  have s := act_same D k a b n data
  have := h.chs
  have := h.fs
  exact ⟨h.good.act k a b n data, s.left h.left, by rw [s.down h.left]; exact h.down, by have := s.chs; omega, by have := s.fs; omega⟩
theorem rdy_run {q : Nat} (h0 : 16 ≤ q) (h1 : q ≤ 4194304) : Run (rdyD q) 0 := ⟨rdy_good h0 h1, rfl, rfl, by simp [rdyD], by simp [rdyD]⟩
def prop' (q : Int) : Nat := if q < 16 ∨ 4194304 < q then 64 else q.toNat
theorem prop_in (q : Int) : 16 ≤ prop' q ∧ prop' q ≤ 4194304 ∧ (if q < 16 ∨ 4194304 < q then (64 : Int) else q) = (prop' q : Int) := by
  unfold prop'
  split <;> omega
def yN : Nm := [121]
theorem rdy_z (q : Nat) : (rdyD q).create zN = (62, rdyD q) := by rfl
theorem rdy_y (q : Nat) : (rdyD q).remove yN = (63, rdyD q) := by rfl
theorem sz_files {D : DS} (h : Fit D) : D.files.length ≤ 4611686018427387904 ∧ ∀ f ∈ D.files, f.2.length ≤ 4611686018427387904 := by
  refine ⟨by have := now_len h; unfold DS.files filesOf; rw [List.length_map]; omega, fun f hf => ?_⟩
  unfold DS.files filesOf at hf
  obtain ⟨p, hp, rfl⟩ := List.mem_map.1 hf
  have := dat_bd h.good (h.good.subNow (List.mem_map.2 ⟨p, hp, rfl⟩))
  unfold DS.dat DS.fl at this
  dsimp only
  omega
theorem left_len (f : Fl) (c : Int × Int) (h : f.syn ≤ f.data.length) : (leftF f c).length ≤ f.data.length := by
  unfold leftF
  have h1 := clamp_in c.1 ((f.data.length : Int) - f.syn) (by omega)
  have h2 := clamp_in c.2 ((f.data.length : Int) - f.syn - clamp c.1 0 ((f.data.length : Int) - f.syn)) (by omega)
  dsimp only
  rw [List.length_append, List.length_take, List.length_replicate]
  omega
theorem leftL_mem {fs : List Fl} {cuts : List (Int × Int)} : ∀ {l : Names} {k : Nat} {f : File}, f ∈ leftL fs cuts k l → ∃ p ∈ l, ∃ c, f = (p.1, leftF (fs.getD p.2 default) c)
  | p :: l, k, f, h => by
    rcases List.mem_cons.1 h with rfl | h
    · exact ⟨p, List.mem_cons_self, _, rfl⟩
    · obtain ⟨q, hq, c, e⟩ := leftL_mem h
      exact ⟨q, List.mem_cons_of_mem _ hq, c, e⟩
theorem Good.keptIds {D : DS} (h : Good D) {keep : Int} {i : Nat} (hi : i ∈ idsL (keptN D keep)) : i ∈ D.ids := by
  rcases List.mem_append.1 ((h.st.kept _).sub i hi) with h1 | h1
  · exact List.mem_append_left _ h1
  · exact List.mem_append_right _ ((madeL_take _ _).subset h1)
theorem sz_crash {D : DS} (h : Fit D) (keep : Int) (cuts : List (Int × Int)) : (D.crash keep cuts).length ≤ 2199023255552 ∧ ∀ f ∈ D.crash keep cuts, f.2.length ≤ 4194304 := by
  constructor
  · unfold DS.crash
    rw [leftL_len]
    have h1 := (h.good.st.kept (clamp keep 0 D.chs.length).toNat).nd
    have h2 := len_le_of_nodup h1 (l2 := List.range D.fs.length) (fun x hx => List.mem_range.2 (h.good.idlt x (h.good.keptIds hx)))
    have h3 := h.fs
    unfold idsL at h2
    rw [List.length_map, List.length_range] at h2
    unfold keptN
    omega
  · intro f hf
    obtain ⟨p, hp, c, rfl⟩ := leftL_mem hf
    have hid : p.2 ∈ D.ids := h.good.keptIds (List.mem_map.2 ⟨p, hp, rfl⟩)
    have h1 := dat_bd h.good hid
    have h2 := left_len (D.fs.getD p.2 default) c (h.good.fl p.2)
    unfold DS.dat DS.fl at h1
    dsimp only
    omega
set_option maxHeartbeats 2000000 in
theorem DiskStays_call (W : World) (q : Int) (A : Option Addr) (c : Nat) (ops : List Op) (keep : Int) (C : Option Addr) (cc : Nat) (cuts : List (Int × Int)) (hsc : Scr W A ops) (hk : -9223372036854775808 ≤ keep ∧ keep ≤ 9223372036854775807) (rc : Rd eP W C cuts) (hcl : cuts.length ≤ 140737488355328) :
    Calls Try.prog 5 [Value.int .i64 q, .slice A ops.length c, .int .i64 keep, .slice C cuts.length cc].toArray W (Ret fun v w' => v = .bool true ∧ Sat W w' []) := by
  refine Calls_of Try.func5 rfl 90 Try.ntmps5 rfl ?_
  have hs := Sat.start W
  obtain ⟨ra, hok, hdat, _, hlen⟩ := hsc
  obtain ⟨hq0, hq1, hqe⟩ := prop_in q
  obtain ⟨qq, hqq⟩ : ∃ qq, prop' q = qq := ⟨_, rfl⟩
  rw [hqq] at hq0 hq1 hqe
  have hrun := rdy_run hq0 hq1
  have hfit := hrun.fit (by omega)
  (repeat' (first | (refine isLW ?_; first | refine LW_nil ?_ | (refine isLg ?_; first | refine LW_take rfl ?_) | (refine isLcall ?_; first | (refine LW_call (cap := []) rfl rfl ent31 (proper_call _ q) ?_; rintro _ _ ⟨rfl, rfl⟩; rw [hqe]) | (refine LW_call (cap := []) rfl rfl ent15 (ready_call W _ [] qq hq0 hq1 hs) ?_; clear hs; rintro _ w ⟨d, rfl, hs⟩) | (refine LW_call (cap := []) rfl rfl ent20 (num_call _ _) ?_; rintro _ _ ⟨rfl, rfl⟩) | (refine LW_call (cap := []) rfl rfl ent36 (create_call W _ _ d (rdyD qq) zN hs hfit (by decide)) ?_; clear hs; rintro _ w ⟨rfl, hs⟩; rw [rdy_z] at hs ⊢) | (refine LW_call (cap := []) rfl rfl ent37 (remove_call W _ _ d (rdyD qq) yN hs hfit (by decide)) ?_; clear hs; rintro _ w ⟨rfl, hs⟩; rw [rdy_y] at hs ⊢)) | (refine isLbin ?_; first | (refine LW_cmp rfl (fun _ => ?_) (fun _ => ?_) <;> try (exfalso; omega)) | refine LW_nileq TOK rfl ?_) | refine LW_pure TOK rfl ?_) | (with_reducible first | refine then_n ?_ | refine CW_seq ?_ | refine CW_region ?_ | refine CW_block ?_ | refine CW_skip ?_) | refine CW_false rfl ?_))
  refine CW_loop (γ := Nat × DS) (fun g => [(1, .slice A ops.length c), (2, .int .i64 keep), (3, .slice C cuts.length cc), (9, .pointer (some ⟨d, 0, none⟩)), (10, .int .i64 (g.1 : Int))]) (fun g w' => Sat W w' [HD d g.2] ∧ Run g.2 g.1 ∧ g.1 ≤ ops.length) (fun g => ops.length - g.1) (0, rdyD qq) ⟨rfl, rfl, rfl, rfl, rfl, trivial⟩ ⟨hs, hrun, Nat.zero_le _⟩ ?_
  clear hs hrun hfit
  rintro ⟨i, D⟩ τ w ⟨hs, hrun, hi⟩
  dsimp only at hs hrun hi ⊢
  by_cases hlt : i < ops.length
  · have hrd := rd_at hlt
    have hmem := List.getElem_mem hlt
    have hok := hok _ hmem
    have hdat := hdat _ hmem
    obtain ⟨o, ho⟩ : ∃ o, ops[i] = o := ⟨_, rfl⟩
    rw [ho] at hrd hok hdat
    have hfit := hrun.fit (by omega)
    have hrun2 := hrun.act o.kind o.a o.b o.n o.data
    have hfit2 := hrun2.fit (by omega)
    have href := act_refused hrun.left o.kind o.a o.b o.n o.data
    obtain ⟨sz1, sz2⟩ := sz_files hfit
    obtain ⟨sz3, sz4⟩ := sz_crash hfit keep cuts
    have sz4 : ∀ f ∈ D.crash keep cuts, f.2.length ≤ 4611686018427387904 := fun f hf => by have := sz4 f hf; omega
    obtain ⟨r2, hr2⟩ : ∃ r2, D.act o.kind o.a o.b o.n o.data = r2 := ⟨_, rfl⟩
    rw [hr2] at hrun2 hfit2 href
    by_cases hch : 1 ≤ o.kind ∧ o.kind ≤ 7
    · (repeat' (first | (refine LW_cmp (p := ¬ r2.1 = 0) rfl (fun hne => ?_) (fun hne => ?_)) | (refine isLW ?_; first | refine LW_nil ?_ | (refine isLg ?_; first | refine LW_take rfl ?_ | refine LW_pass rfl rfl ?_ | refine LW_passV rfl rfl rfl ?_) | (refine isLload ?_; first | refine LW_loadRdA (vs := eO o) (ra.of hs) (fun _ => rfl) TOK rfl (by assumption) rfl rfl rfl (by omega) (by omega) (by rw [hrd]) ?_ | refine LW_loadCAE 3 (eO o) TOK hs rfl rfl rfl rfl (Nat.le_of_ble_eq_true rfl) rfl ?_) | (refine isLstore ?_; first | (refine LW_storeCA 0 TOK hs rfl rfl rfl rfl rfl (eO_ok.2 o) rfl (Nat.le_of_ble_eq_true rfl) ?_; clear hs; intro w hs)) | (refine isLcall ?_; first | (refine LW_call (cap := []) rfl rfl ent29 (files_call W _ _ d D (hs.picks [1]) hfit) ?_; clear hs; rintro _ w ⟨A1, c1, rfl, hs⟩) | (refine LW_call (cap := []) rfl rfl ent23 (crash_call W _ _ d D keep C cc cuts (hs.picks [1]) hfit hk (fun w' h => rc.of h) hcl) ?_; clear hs; rintro _ w ⟨A2, c2, rfl, hs⟩) | (refine LW_call (cap := []) rfl rfl ent32 (freeH_call W _ _ d D (hs.picks [1]) hfit) ?_; clear hs; rintro _ w ⟨rfl, hs⟩) | (refine LW_call (cap := []) rfl rfl ent33 (changing_call W _ _ o hs) ?_; clear hs; rintro _ w ⟨rfl, hs⟩; rw [decide_eq_true hch]) | (refine LW_call (cap := []) rfl rfl ent34 (act_call W _ _ d D o hs hfit hok (fun w' h => hdat.of h)) ?_; clear hs; rintro _ w ⟨rfl, hs⟩; rw [hr2] at hs ⊢) | refine LW_pure TOK rfl ?_) | (refine isLidx ?_; first | (refine LW_indexRd (ra.of hs) TOK rfl rfl rfl rfl rfl (by omega) (by omega) ?_; intro _ _ _)) | (refine isLbin ?_; first | refine LW_i64 rfl (by omega) (by omega) ?_ | (refine LW_cmp rfl (fun _ => ?_) (fun _ => ?_) <;> try (exfalso; omega))) | refine LW_pure TOK rfl ?_ | (refine LW_alloc TOK hs rfl rfl ?_; clear hs; intro _ w hs)) | (with_reducible first | refine then_n ?_ | refine CW_seq ?_ | refine CW_region ?_ | refine CW_block ?_ | refine CW_skip ?_ | refine blk_n ?_) | refine CW_true rfl ?_ | refine CW_false rfl ?_))
      · have e := href hne
        rw [e] at hs hrun2
        clear hfit2 href
        (repeat' (first | (refine isLW ?_; first | refine LW_nil ?_ | (refine isLg ?_; first | refine LW_take rfl ?_) | (refine isLcall ?_; first | (refine LW_call (cap := []) rfl rfl ent29 (files_call W _ _ d D hs hfit) ?_; clear hs; rintro _ w ⟨A3, c3, rfl, hs⟩) | (refine LW_call (cap := []) rfl rfl ent21 (filesAlike_call _ _ _ _ _ _ _ (Sat.rdF hs) (Sat.rdF (hs.picks [3])) (by omega) (by assumption)) ?_; rintro _ w2 ⟨rfl, hs2⟩; replace hs := hs.and0 hs2; clear hs2; rw [decide_eq_true rfl]) | (refine LW_call (cap := []) rfl rfl ent23 (crash_call W _ _ d D keep C cc cuts (hs.picks [1]) hfit hk (fun w' h => rc.of h) hcl) ?_; clear hs; rintro _ w ⟨A4, c4, rfl, hs⟩) | (refine LW_call (cap := []) rfl rfl ent32 (freeH_call W _ _ d D (hs.picks [1]) hfit) ?_; clear hs; rintro _ w ⟨rfl, hs⟩)) | (refine isLbin ?_; first | refine LW_i64 rfl (by omega) (by omega) ?_ | (refine LW_cmp rfl (fun _ => ?_) (fun _ => ?_) <;> try (exfalso; omega))) | refine LW_pure TOK rfl ?_) | (with_reducible first | refine then_n ?_ | refine CW_region ?_ | refine CW_skip ?_ | refine blk_n ?_) | refine CW_false rfl ?_))
        exact ⟨(i + 1, D), _, FR_forget _ ⟨rfl, rfl, rfl, rfl, rfl, trivial⟩, ⟨hs.only 0 rfl, hrun2, hlt⟩, by dsimp only; omega⟩
      · (repeat' (first | fail))
        exact ⟨(i + 1, r2.2), _, FR_forget _ ⟨rfl, rfl, rfl, rfl, rfl, trivial⟩, ⟨hs.only 0 rfl, hrun2, hlt⟩, by dsimp only; omega⟩
    · have hrun3 := hrun.next
      (repeat' (first | (refine isLW ?_; first | refine LW_nil ?_ | (refine isLg ?_; first | refine LW_take rfl ?_) | (refine isLload ?_; first | refine LW_loadRdA (vs := eO o) (ra.of hs) (fun _ => rfl) TOK rfl (by assumption) rfl rfl rfl (by omega) (by omega) (by rw [hrd]) ?_ | refine LW_loadCAE 3 (eO o) TOK hs rfl rfl rfl rfl (Nat.le_of_ble_eq_true rfl) rfl ?_ | refine LW_loadC 3 TOK hs rfl rfl rfl rfl rfl ?_) | (refine isLstore ?_; first | (refine LW_storeCA 0 TOK hs rfl rfl rfl rfl rfl (eO_ok.2 o) rfl (Nat.le_of_ble_eq_true rfl) ?_; clear hs; intro w hs)) | (refine isLcall ?_; first | (refine LW_call (cap := []) rfl rfl ent29 (files_call W _ _ d D (hs.picks [1]) hfit) ?_; clear hs; rintro _ w ⟨A1, c1, rfl, hs⟩) | (refine LW_call (cap := []) rfl rfl ent23 (crash_call W _ _ d D keep C cc cuts (hs.picks [1]) hfit hk (fun w' h => rc.of h) hcl) ?_; clear hs; rintro _ w ⟨A2, c2, rfl, hs⟩) | (refine LW_call (cap := []) rfl rfl ent32 (freeH_call W _ _ d D (hs.picks [1]) hfit) ?_; clear hs; rintro _ w ⟨rfl, hs⟩) | (refine LW_call (cap := []) rfl rfl ent33 (changing_call W _ _ o hs) ?_; clear hs; rintro _ w ⟨rfl, hs⟩; rw [decide_eq_false hch]) | (refine LW_call (cap := []) rfl rfl ent26 (read_call W _ _ d D o.a hs hfit hok.a) ?_; clear hs; rintro _ w ⟨A7, c7, rfl, hs⟩; replace hs := hs.drop1) | (refine LW_call (cap := []) rfl rfl ent38 (list_call W _ _ d D hs hfit) ?_; clear hs; rintro _ w ⟨A8, c8, rfl, hs⟩; replace hs := hs.drop1) | (refine LW_call (cap := []) rfl rfl ent29 (files_call W _ _ d D hs hfit) ?_; clear hs; rintro _ w ⟨A3, c3, rfl, hs⟩) | (refine LW_call (cap := []) rfl rfl ent21 (filesAlike_call _ _ _ _ _ _ _ (Sat.rdF hs) (Sat.rdF (hs.picks [3])) (by omega) (by assumption)) ?_; rintro _ w2 ⟨rfl, hs2⟩; replace hs := hs.and0 hs2; clear hs2; rw [decide_eq_true rfl]) | refine LW_pure TOK rfl ?_) | (refine isLidx ?_; first | (refine LW_indexRd (ra.of hs) TOK rfl rfl rfl rfl rfl (by omega) (by omega) ?_; intro _ _ _)) | (refine isLbin ?_; first | refine LW_i64 rfl (by omega) (by omega) ?_ | (refine LW_cmp rfl (fun _ => ?_) (fun _ => ?_) <;> try (exfalso; omega))) | refine LW_pure TOK rfl ?_ | (refine LW_alloc TOK hs rfl rfl ?_; clear hs; intro _ w hs)) | (with_reducible first | refine then_n ?_ | refine CW_seq ?_ | refine CW_region ?_ | refine CW_block ?_ | refine CW_skip ?_ | refine blk_n ?_) | refine CW_true rfl ?_ | refine CW_false rfl ?_))
      all_goals exact ⟨(i + 1, D), _, FR_forget _ ⟨rfl, rfl, rfl, rfl, rfl, trivial⟩, ⟨hs.only 0 rfl, hrun3, hlt⟩, by dsimp only; omega⟩
  · (repeat' (first | (refine isLW ?_; first | refine LW_nil ?_ | (refine isLcall ?_; first | refine LW_pure TOK rfl ?_) | (refine isLbin ?_; first | (refine LW_cmp rfl (fun _ => ?_) (fun _ => ?_) <;> try (exfalso; omega))) | refine LW_pure TOK rfl ?_) | (with_reducible first | refine then_n ?_ | refine CW_seq ?_ | refine CW_region ?_ | refine CW_exit ?_ | refine CW_ret ?_ | refine then_e ?_ | refine blk_same ?_) | refine CW_false rfl ?_ | refine RET1 Try.results5 rfl ?_))
    exact ⟨rfl, hs.drop1⟩
end Go.Proofs.Ytoodgenbcfdloaa
