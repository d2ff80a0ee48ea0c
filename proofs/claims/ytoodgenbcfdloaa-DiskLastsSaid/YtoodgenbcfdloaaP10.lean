/- Plain: what the caller knows stays true behind each call that is not refused; and a crash keeps what is sure. -/
import Derived.Test.YtoodgenbcfdloaaP9
set_option linter.unusedVariables false
set_option linter.unusedSimpArgs false
namespace Go.Proofs.Ytoodgenbcfdloaa
open Go
section
variable {D : DS} {l : List Wd}
theorem WOk.core {D' : DS} {w : Wd} {i : Nat} (h : WOk D w i) (c : Core D D') : WOk D' w i :=
  ⟨by rw [c.now]; exact h.now, by rw [c.dat]; exact h.dat, fun e => by rw [c.dat, c.fl]; exact h.nxt e, fun e => by rw [c.dat, c.fl, c.las, c.chs]; exact h.sur e⟩
theorem fresh_ok {n : Nm} {b : By} {i : Nat} (h1 : fnd D.now n = some i) (h2 : b.d = D.dat i) : WOk D (freshW n b) i := ⟨h1, h2, fun e => (by cases e), fun e => (by cases e)⟩
theorem dat_app {D : DS} {x : Fl} {i : Nat} (h : i < D.fs.length) : ({ D with fs := D.fs ++ [x] } : DS).fl i = D.fl i := by
  unfold DS.fl; exact getD_app_lt h
theorem path_ne {n : Nm} (h : pathB n = true) : ¬ ([] : Nm) = n := fun e => pathB_ne h e.symm
/-- The words but those of two names, behind a change that concerns these two alone. -/
theorem keep_ok (h : Good D) (hw : WI D l) {c : Chg} {x : Nm} (hx : ∀ w ∈ l, ¬ w.n = x → ¬ w.n = c.b → ¬ c.a = w.n) {fs' : List Fl} (hf : ∀ i, i < D.fs.length → fs'.getD i default = D.fs.getD i default) {w : Wd} (hm : w ∈ l) (h1 : ¬ w.n = x) (h2 : ¬ w.n = c.b) :
    ∃ i, WOk ({ D with fs := fs', now := doC D.now c, chs := D.chs ++ [c] } : DS) w i := by
  obtain ⟨i, k⟩ := hw.ok w hm
  have hlt := h.ltFnd k.now
  have e : ({ D with fs := fs', now := doC D.now c, chs := D.chs ++ [c] } : DS).fl i = D.fl i := hf i hlt
  have e2 : ({ D with fs := fs', now := doC D.now c, chs := D.chs ++ [c] } : DS).dat i = D.dat i := by unfold DS.dat; rw [e]
  have ha := hx w hm h1 h2
  have hb : ¬ c.b = w.n := fun e => h2 e.symm
  refine ⟨i, by show fnd (doC D.now c) w.n = _; rw [fnd_doC ha hb]; exact k.now, by rw [e2]; exact k.dat, fun g => by rw [e2, e]; exact k.nxt g, fun g => ?_⟩
  obtain ⟨g1, g2, g3, g4⟩ := k.sur g
  rw [e2, e]
  refine ⟨g1, g2, g3, fun c' hc' => ?_⟩
  rcases List.mem_append.1 (show c' ∈ D.chs ++ [c] from hc') with hc' | hc'
  · exact g4 c' hc'
  · simp at hc'; subst hc'; exact ⟨ha, hb⟩
theorem wi_create (h : Good D) (hw : WI D l) (a : Nm) (n : Int) (b : Nm) (y : By) (h0 : (D.create a).1 = 0) : WI (D.create a).2 (notedW l 1 a b n y) := by
  unfold DS.create at h0 ⊢
  split at h0
  · cases h0
  rename_i h1
  rw [if_neg h1]
  split at h0
  · rename_i h2
    rw [if_pos h2]
    split at h0
    · rename_i h3
      rw [if_pos h3]
      obtain ⟨_, hp, hf⟩ := find_63 h2
      have ct := core_turn D
      refine WI.core (D := { D with fs := D.fs ++ [⟨[], 0⟩], now := doC D.now ⟨[], a, some D.fs.length⟩, chs := D.chs ++ [⟨[], a, some D.fs.length⟩] }) ?_ ⟨by show D.turn.2.fs ++ _ = _; rw [ct.fs], by show doC D.turn.2.now _ = _; rw [ct.now], ct.las, by show D.turn.2.chs ++ _ = _; rw [ct.chs]⟩
      have hno : ∀ w ∈ l, ¬ w.n = a := fun w hm e => by
        obtain ⟨i, k⟩ := hw.ok w hm
        rw [← e, k.now] at hf; cases hf
      have hdo : doC D.now ⟨[], a, some D.fs.length⟩ = wi D.now a D.fs.length := by
        unfold doC; dsimp only; rw [if_pos rfl, if_pos rfl, if_neg (pathB_ne hp)]
      have hpath : ∀ w ∈ l, ¬ ([] : Nm) = w.n := fun w hm => by
        obtain ⟨i, k⟩ := hw.ok w hm
        exact path_ne (h.keptNow.path _ (fnd_mem k.now))
      show WI _ (lessW l a ++ [freshW a nilBy])
      refine ⟨?_, ?_, ?_⟩
      · rw [List.map_append, List.nodup_append]
        refine ⟨nd_lessW hw.nd a, by simp, fun x hx z hz e => ?_⟩
        obtain ⟨w, hm, rfl⟩ := List.mem_map.1 hx
        simp [freshW] at hz
        exact (mem_lessW.1 hm).2 (e.trans hz)
      · intro p hp'
        rw [show ({ D with fs := D.fs ++ [⟨[], 0⟩], now := doC D.now ⟨[], a, some D.fs.length⟩, chs := D.chs ++ [⟨[], a, some D.fs.length⟩] } : DS).now = wi D.now a D.fs.length from hdo] at hp'
        rcases mem_wi.1 hp' with rfl | ⟨hp', hne⟩
        · exact ⟨freshW a nilBy, by simp, rfl⟩
        · obtain ⟨w, hm, e⟩ := hw.all p hp'
          exact ⟨w, List.mem_append_left _ (mem_lessW.2 ⟨hm, by rw [e]; exact hne⟩), e⟩
      · intro w hm
        rcases List.mem_append.1 hm with hm | hm
        · exact keep_ok (x := a) h hw (fun w hm _ _ => hpath w hm) (fun i hi => getD_app_lt hi) (mem_lessW.1 hm).1 (mem_lessW.1 hm).2 (mem_lessW.1 hm).2
        · simp at hm; subst hm
          refine ⟨D.fs.length, fresh_ok ?_ ?_⟩
          · show fnd (doC D.now _) a = _
            rw [hdo, fnd_wi h.keptNow.srt, if_pos rfl]
          · show [] = ((D.fs ++ [(⟨[], 0⟩ : Fl)]).getD D.fs.length default).data
            simp [List.getD]
    · rename_i h3; exact absurd h0 h3
  · rename_i h2; exact absurd h0 h1
/-- The words behind a change of one file. -/
theorem wi_set (h : Good D) (hw : WI D l) {a : Nm} {i : Nat} (hi : fnd D.now a = some i) (f : Fl) {j : Nat} (hj : placeW l a = some j) {z : Wd} (hz : z.n = a) (hok : ∀ w, w ∈ l → w.n = a → WOk D w i → WOk (D.setF i f) z i) {D' : DS} (hc : Core (D.setF i f) D') : WI D' (l.set j z) := by
  refine WI.core ?_ hc
  obtain ⟨p1, p2, p3⟩ := placeW_some hj
  have hlt := h.ltFnd hi
  refine ⟨by rw [names_setW p1 (hz.trans p2.symm)]; exact hw.nd, fun p hp => ?_, fun w hm => ?_⟩
  · obtain ⟨w, hm, e⟩ := hw.all p hp
    have : p.1 ∈ (l.set j z).map (·.n) := by
      rw [names_setW p1 (hz.trans p2.symm)]
      exact List.mem_map.2 ⟨w, hm, e⟩
    obtain ⟨w', hm', e'⟩ := List.mem_map.1 this
    exact ⟨w', hm', e'⟩
  · rcases mem_setW hw.nd p1 hm with rfl | ⟨hm, hne⟩
    · obtain ⟨i', k⟩ := hw.ok _ p3
      have : i' = i := by have := k.now; rw [p2, hi] at this; cases this; rfl
      subst this
      exact ⟨i', hok _ p3 p2 k⟩
    · obtain ⟨m, k⟩ := hw.ok w hm
      have hmi : ¬ m = i := fun e => by
        subst e
        exact hne ((fnd_inj h.keptNow.nd k.now hi).trans p2.symm)
      have e1 : (D.setF i f).fl m = D.fl m := by rw [fl_set D i m f hlt, if_neg hmi]
      have e2 : (D.setF i f).dat m = D.dat m := by unfold DS.dat; rw [e1]
      exact ⟨m, k.now, by rw [e2]; exact k.dat, fun g => by rw [e2, e1]; exact k.nxt g, fun g => by rw [e2, e1]; exact k.sur g⟩
theorem placed (hw : WI D l) {a : Nm} {i : Nat} (hi : fnd D.now a = some i) : ∃ j, placeW l a = some j ∧ j < l.length ∧ (l.getD j default).n = a ∧ l.getD j default ∈ l ∧ WOk D (l.getD j default) i := by
  obtain ⟨w, hm, e⟩ := hw.all _ (fnd_mem hi)
  cases hp : placeW l a with
  | none => exact absurd e (placeW_none hp w hm)
  | some j =>
    obtain ⟨p1, p2, p3⟩ := placeW_some hp
    obtain ⟨i', k⟩ := hw.ok _ p3
    have : i' = i := by have := k.now; rw [p2, hi] at this; cases this; rfl
    subst this
    exact ⟨j, rfl, p1, p2, p3, k⟩
theorem set_dat (D : DS) {i : Nat} (f : Fl) (hi : i < D.fs.length) : (D.setF i f).fl i = f ∧ (D.setF i f).dat i = f.data := by
  have e : (D.setF i f).fl i = f := by rw [fl_set D i i f hi, if_pos rfl]
  exact ⟨e, by unfold DS.dat; rw [e]⟩
theorem core_setF {D : DS} {i : Nat} {f g : Fl} (e : f = g) : Core (D.setF i f) (D.turn.2.setF i g) := by
  subst e
  have ct := core_turn D
  exact ⟨by show D.turn.2.fs.set i f = D.fs.set i f; rw [ct.fs], ct.now, ct.las, ct.chs⟩
theorem wi_append (h : Good D) (hw : WI D l) (a : Nm) (data : List UInt8) (n : Int) (b : Nm) (y : By) (hy : ∀ j, placeW l a = some j → y.d = (l.getD j default).dat.d ++ data) (h0 : (D.append a data).1 = 0) : WI (D.append a data).2 (notedW l 2 a b n y) := by
  unfold DS.append at h0 ⊢
  split at h0
  · rename_i h1
    rw [if_pos h1]
    split at h0
    · cases h0
    rename_i h2
    rw [if_neg h2]
    split at h0
    · rename_i h3
      rw [if_pos h3]
      have hi := (find_ok h1).2.2
      obtain ⟨j, p0, p1, p2, p3, k⟩ := placed hw hi
      have hlt := h.ltFnd hi
      show WI _ (match placeW l a with | none => l | some i => _)
      rw [p0]
      dsimp only
      rw [if_pos rfl]
      refine wi_set (z := { l.getD j default with dat := y }) h hw hi _ p0 p2 (fun w hm hn kk => ?_) (core_setF rfl)
      obtain ⟨e1, e2⟩ := set_dat D ⟨D.dat (D.find a).2 ++ data, (D.fl (D.find a).2).syn⟩ hlt
      refine ⟨by rw [p2]; exact hi, by rw [e2, hy j p0, k.dat], fun g => ?_, fun g => ?_⟩
      · obtain ⟨g1, g2⟩ := k.nxt g
        rw [e2, e1]; exact ⟨g1.trans (List.prefix_append _ _), g2⟩
      · obtain ⟨g1, g2, g3, g4⟩ := k.sur g
        rw [e2, e1]; exact ⟨g1.trans (List.prefix_append _ _), g2, g3, g4⟩
    · rename_i h3; exact absurd h0 h3
  · rename_i h1; exact absurd h0 h1
theorem wi_sync (h : Good D) (hw : WI D l) (a : Nm) (n : Int) (b : Nm) (y : By) (h0 : (D.sync a).1 = 0) : WI (D.sync a).2 (notedW l 3 a b n y) := by
  unfold DS.sync at h0 ⊢
  split at h0
  · rename_i h1
    rw [if_pos h1]
    split at h0
    · rename_i h3
      rw [if_pos h3]
      have hi := (find_ok h1).2.2
      obtain ⟨j, p0, p1, p2, p3, k⟩ := placed hw hi
      have hlt := h.ltFnd hi
      show WI _ (match placeW l a with | none => l | some i => _)
      rw [p0]
      dsimp only
      rw [if_neg (by decide), if_pos rfl]
      refine wi_set (z := { l.getD j default with nxt := (l.getD j default).dat, hn := true }) h hw hi _ p0 p2 (fun w hm hn kk => ?_) (core_setF rfl)
      obtain ⟨e1, e2⟩ := set_dat D ⟨D.dat (D.find a).2, (D.dat (D.find a).2).length⟩ hlt
      refine ⟨by rw [p2]; exact hi, by rw [e2]; exact k.dat, fun g => ?_, fun g => ?_⟩
      · rw [e2, e1, k.dat]; exact ⟨List.prefix_refl _, Nat.le_refl _⟩
      · obtain ⟨g1, g2, g3, g4⟩ := k.sur g
        rw [e2, e1]; exact ⟨g1, g1.length_le, g3, g4⟩
    · rename_i h3; exact absurd h0 h3
  · rename_i h1; exact absurd h0 h1
theorem wi_trunc (h : Good D) (hw : WI D l) (a : Nm) (n : Int) (b : Nm) (y : By) (h0 : (D.trunc a n).1 = 0) : WI (D.trunc a n).2 (notedW l 4 a b n y) := by
  unfold DS.trunc at h0 ⊢
  split at h0
  · rename_i h1
    rw [if_pos h1]
    split at h0
    · cases h0
    rename_i h2
    rw [if_neg h2]
    split at h0
    · rename_i h3
      rw [if_pos h3]
      have hi := (find_ok h1).2.2
      obtain ⟨j, p0, p1, p2, p3, k⟩ := placed hw hi
      have hlt := h.ltFnd hi
      show WI _ (match placeW l a with | none => l | some i => _)
      rw [p0]
      dsimp only
      rw [if_neg (by decide), if_neg (by decide), if_pos rfl, if_pos (by rw [k.dat]; omega)]
      refine wi_set h hw hi _ p0 rfl (fun w hm hn kk => ?_) (core_setF rfl)
      obtain ⟨e1, e2⟩ := set_dat D ⟨(D.dat (D.find a).2).take n.toNat, min (D.fl (D.find a).2).syn n.toNat⟩ hlt
      exact fresh_ok hi (by rw [e2]; show (l.getD j default).dat.d.take _ = _; rw [k.dat])
    · rename_i h3; exact absurd h0 h3
  · rename_i h1; exact absurd h0 h1
theorem note_zero {D : DS} {c : Chg} (h0 : (D.note c).1 = 0) : Core { D with now := doC D.now c, chs := D.chs ++ [c] } (D.note c).2 := by
  unfold DS.note at h0 ⊢
  split at h0
  · rename_i h3
    rw [if_pos h3]
    have ct := core_turn D
    exact ⟨ct.fs, by show doC D.turn.2.now c = _; rw [ct.now], ct.las, by show D.turn.2.chs ++ [c] = _; rw [ct.chs]⟩
  · rename_i h3; exact absurd h0 h3
theorem wi_remove (h : Good D) (hw : WI D l) (a : Nm) (n : Int) (b : Nm) (y : By) (h0 : (D.remove a).1 = 0) : WI (D.remove a).2 (notedW l 6 a b n y) := by
  unfold DS.remove at h0 ⊢
  split at h0
  · rename_i h1
    rw [if_pos h1]
    refine WI.core ?_ (note_zero h0)
    have hi := (find_ok h1).2.2
    have hp := (find_ok h1).2.1
    have hdo : doC D.now ⟨a, [], none⟩ = wo D.now a := by
      unfold doC; dsimp only; rw [if_neg (pathB_ne hp), if_pos rfl]
    have hpath : ∀ w ∈ l, ¬ w.n = ([] : Nm) := fun w hm => by
      obtain ⟨i, k⟩ := hw.ok w hm
      exact pathB_ne (h.keptNow.path _ (fnd_mem k.now))
    show WI _ (lessW l a)
    refine ⟨nd_lessW hw.nd a, fun p hp' => ?_, fun w hm => ?_⟩
    · rw [show ({ D with now := doC D.now ⟨a, [], none⟩, chs := D.chs ++ [⟨a, [], none⟩] } : DS).now = wo D.now a from hdo] at hp'
      obtain ⟨hp', hne⟩ := mem_wo.1 hp'
      obtain ⟨w, hm, e⟩ := hw.all p hp'
      exact ⟨w, mem_lessW.2 ⟨hm, by rw [e]; exact hne⟩, e⟩
    · obtain ⟨hm, hne⟩ := mem_lessW.1 hm
      exact keep_ok (x := a) (c := ⟨a, [], none⟩) (fs' := D.fs) h hw (fun w hm g _ e => g e.symm) (fun i hi => rfl) hm hne (hpath w hm)
  · rename_i h1; exact absurd h0 h1
theorem wi_rename (h : Good D) (hw : WI D l) (a b : Nm) (n : Int) (y : By) (h0 : (D.rename a b).1 = 0) : WI (D.rename a b).2 (notedW l 5 a b n y) := by
  unfold DS.rename at h0 ⊢
  split at h0
  · cases h0
  rename_i h1
  rw [if_neg h1]
  split at h0
  · cases h0
  rename_i h2
  rw [if_neg h2]
  split at h0
  · cases h0
  rename_i h3
  rw [if_neg h3]
  refine WI.core ?_ (note_zero h0)
  obtain ⟨i, hi⟩ : ∃ i, fnd D.now a = some i := by
    cases e : fnd D.now a with
    | none => exact absurd e h3
    | some i => exact ⟨i, rfl⟩
  have hpa : pathB a = true := by cases e : pathB a; · exact absurd (.inl e) h2
                                  · rfl
  have hpb : pathB b = true := by cases e : pathB b; · exact absurd (.inr e) h2
                                  · rfl
  have hdo : doC D.now ⟨a, b, none⟩ = wi (wo D.now a) b i := by
    unfold doC; dsimp only; rw [if_neg (pathB_ne hpa), if_neg (pathB_ne hpb), if_neg (pathB_ne hpa), hi]
  obtain ⟨j, p0, p1, p2, p3, k⟩ := placed hw hi
  have e : notedW l 5 a b n y = lessW (lessW l a) b ++ [freshW b (l.getD j default).dat] := by
    unfold notedW
    rw [if_neg (by decide), if_pos rfl, p0]
  rw [e]
  have hsa : Srt (wo D.now a) := h.keptNow.srt.mkwo a
  refine ⟨?_, fun p hp' => ?_, fun w hm => ?_⟩
  · rw [List.map_append, List.nodup_append]
    refine ⟨nd_lessW (nd_lessW hw.nd a) b, by simp, fun x hx z hz e => ?_⟩
    obtain ⟨w, hm, rfl⟩ := List.mem_map.1 hx
    simp [freshW] at hz
    exact (mem_lessW.1 hm).2 (e.trans hz)
  · rw [show ({ D with now := doC D.now ⟨a, b, none⟩, chs := D.chs ++ [⟨a, b, none⟩] } : DS).now = wi (wo D.now a) b i from hdo] at hp'
    rcases mem_wi.1 hp' with rfl | ⟨hp', hne⟩
    · exact ⟨_, List.mem_append_right _ (List.mem_singleton.2 rfl), rfl⟩
    · obtain ⟨hp', hne2⟩ := mem_wo.1 hp'
      obtain ⟨w, hm, e⟩ := hw.all p hp'
      exact ⟨w, List.mem_append_left _ (mem_lessW.2 ⟨mem_lessW.2 ⟨hm, by rw [e]; exact hne2⟩, by rw [e]; exact hne⟩), e⟩
  · rcases List.mem_append.1 hm with hm | hm
    · obtain ⟨hm, hne⟩ := mem_lessW.1 hm
      obtain ⟨hm, hne2⟩ := mem_lessW.1 hm
      exact keep_ok (x := a) (c := ⟨a, b, none⟩) (fs' := D.fs) h hw (fun w hm g _ e => g e.symm) (fun i hi => rfl) hm hne2 hne
    · simp at hm; subst hm
      refine ⟨i, fresh_ok ?_ k.dat⟩
      show fnd (doC D.now _) b = _
      rw [hdo, fnd_wi hsa, if_pos rfl]
theorem wi_syncdir (h : Good D) (hw : WI D l) (a b : Nm) (n : Int) (y : By) (h0 : D.syncdir.1 = 0) : WI D.syncdir.2 (notedW l 7 a b n y) := by
  unfold DS.syncdir at h0 ⊢
  split at h0
  · cases h0
  rename_i h1
  rw [if_neg h1]
  split at h0
  · rename_i h3
    rw [if_pos h3]
    have ct := core_turn D
    refine WI.core (D := { D with las := D.now, chs := [] }) ?_ ⟨ct.fs, ct.now, rfl, rfl⟩
    show WI _ (l.map sureW)
    have hn : ∀ w, (sureW w).n = w.n := fun w => by unfold sureW; split <;> rfl
    refine ⟨?_, fun p hp => ?_, fun w hm => ?_⟩
    · rw [List.map_map]
      have : ((fun x : Wd => x.n) ∘ sureW) = fun x => x.n := by funext w; exact hn w
      rw [this]; exact hw.nd
    · obtain ⟨w, hm, e⟩ := hw.all p hp
      exact ⟨sureW w, List.mem_map.2 ⟨w, hm, rfl⟩, (hn w).trans e⟩
    · obtain ⟨v, hv, rfl⟩ := List.mem_map.1 hm
      obtain ⟨i, k⟩ := hw.ok v hv
      refine ⟨i, ?_⟩
      unfold sureW
      split
      · rename_i hh
        obtain ⟨g1, g2⟩ := k.nxt hh
        exact ⟨k.now, k.dat, k.nxt, fun _ => ⟨g1, g2, k.now, fun c hc => by cases hc⟩⟩
      · refine ⟨k.now, k.dat, k.nxt, fun g => ?_⟩
        obtain ⟨g1, g2, g3, g4⟩ := k.sur g
        exact ⟨g1, g2, k.now, fun c hc => by cases hc⟩
  · rename_i h3; exact absurd h0 h3
theorem wi_act (h : Good D) (hw : WI D l) (k : Int) (a b : Nm) (n : Int) (data : List UInt8) (y : By) (h1 : 1 ≤ k) (h7 : k ≤ 7) (hy : k = 2 → ∀ j, placeW l a = some j → y.d = (l.getD j default).dat.d ++ data) (h0 : (D.act k a b n data).1 = 0) : WI (D.act k a b n data).2 (notedW l k a b n y) := by
  unfold DS.act at h0 ⊢
  split at h0
  · rename_i e; rw [if_pos e]; subst e; exact wi_create h hw a n b y h0
  rename_i e1; rw [if_neg e1]
  split at h0
  · rename_i e; rw [if_pos e]; subst e; exact wi_append h hw a data n b y (hy rfl) h0
  rename_i e2; rw [if_neg e2]
  split at h0
  · rename_i e; rw [if_pos e]; subst e; exact wi_sync h hw a n b y h0
  rename_i e3; rw [if_neg e3]
  split at h0
  · rename_i e; rw [if_pos e]; subst e; exact wi_trunc h hw a n b y h0
  rename_i e4; rw [if_neg e4]
  split at h0
  · rename_i e; rw [if_pos e]; subst e; exact wi_rename h hw a b n y h0
  rename_i e5; rw [if_neg e5]
  split at h0
  · rename_i e; rw [if_pos e]; subst e; exact wi_remove h hw a n b y h0
  rename_i e6; rw [if_neg e6]
  have : k = 7 := by omega
  subst this
  exact wi_syncdir h hw a b n y h0
/- CRASHES -/
theorem leftL_get {fs : List Fl} {cuts : List (Int × Int)} : ∀ {l : Names} {k : Nat} {p : Nm × Nat}, p ∈ l → ∃ c, (p.1, leftF (fs.getD p.2 default) c) ∈ leftL fs cuts k l
  | q :: l, k, p, h => by
    rcases List.mem_cons.1 h with rfl | h
    · exact ⟨_, List.mem_cons_self⟩
    · obtain ⟨c, hc⟩ := leftL_get (k := k + 1) h
      exact ⟨c, List.mem_cons_of_mem _ hc⟩
theorem left_prefix {f : Fl} {c : Int × Int} {s : List UInt8} (h1 : s <+: f.data) (h2 : s.length ≤ f.syn) : s <+: leftF f c := by
  unfold leftF
  refine List.IsPrefix.trans ?_ (List.prefix_append _ _)
  rw [List.prefix_take_iff]
  exact ⟨h1, by omega⟩
/-- What is sure outlives every crash. -/
theorem crash_has (hw : WI D l) (keep : Int) (cuts : List (Int × Int)) : ∀ w ∈ l, w.hsu = true → ∃ f ∈ D.crash keep cuts, f.1 = w.n ∧ w.sur.d <+: f.2 := by
  intro w hm hs
  obtain ⟨i, k⟩ := hw.ok w hm
  obtain ⟨g1, g2, g3, g4⟩ := k.sur hs
  have h1 : fnd (keptN D keep) w.n = some i := by
    unfold keptN
    rw [fnd_foldC fun c hc => g4 c (List.mem_of_mem_take hc)]
    exact g3
  obtain ⟨c, hc⟩ := leftL_get (fs := D.fs) (cuts := cuts) (k := 0) (fnd_mem h1)
  exact ⟨_, hc, rfl, left_prefix g1 g2⟩
/- FILES THAT WERE LOADED -/
theorem enumF_mem {fs : List Fl} : ∀ {l : List File} {k : Nat} {p : Nm × Nat}, p ∈ enumF k l → ∃ j, ∃ h : j < l.length, p = (l[j].1, k + j)
  | f :: l, k, p, h => by
    rcases List.mem_cons.1 h with rfl | h
    · exact ⟨0, by simp, rfl⟩
    · obtain ⟨j, hj, e⟩ := enumF_mem (fs := fs) h
      exact ⟨j + 1, by simpa using hj, by rw [e]; simp; omega⟩
theorem enumF_get : ∀ {l : List File} {k j : Nat} (h : j < l.length), (l[j].1, k + j) ∈ enumF k l
  | f :: l, k, 0, _ => List.mem_cons_self
  | f :: l, k, j + 1, h => by
    have := enumF_get (l := l) (k := k + 1) (j := j) (by simpa using h)
    rw [show k + 1 + j = k + (j + 1) by omega] at this
    exact List.mem_cons_of_mem _ this
theorem known_wi {q : Nat} (hq : q ≤ 4194304) {F : List File} (hf : Fine F) (hsum : sumLen F ≤ q) {ws : List Wd} (hn : ws.map (·.n) = F.map (·.1)) (hd : ws.map (·.dat.d) = F.map (·.2)) (h1 : ∀ w ∈ ws, w.hn = false ∧ w.sur.d = w.dat.d) : WI (loadedD q F) ws := by
  have hg := loaded_good hq hf hsum
  have hlen : ws.length = F.length := by have := congrArg List.length hn; simpa using this
  refine ⟨?_, fun p hp => ?_, fun w hm => ?_⟩
  · rw [hn]
    have := List.pairwise_map.2 hf.srt
    exact this.imp fun h e => by rw [e] at h; exact List.lt_irrefl _ h
  · obtain ⟨j, hj, rfl⟩ := enumF_mem (fs := []) hp
    have h2 : F[j].1 ∈ ws.map (·.n) := hn ▸ List.mem_map.2 ⟨_, List.getElem_mem hj, rfl⟩
    obtain ⟨w, hm, e⟩ := List.mem_map.1 h2
    exact ⟨w, hm, e⟩
  · obtain ⟨j, hj, rfl⟩ := List.getElem_of_mem hm
    have hjF : j < F.length := by omega
    have e1 : ws[j].n = F[j].1 := by
      have := congrArg (fun x => x[j]?) hn
      simpa [hj, hjF] using this
    have e2 : ws[j].dat.d = F[j].2 := by
      have := congrArg (fun x => x[j]?) hd
      simpa [hj, hjF] using this
    have e3 : fnd (loadedD q F).now ws[j].n = some j := by
      rw [e1]
      refine fnd_of_mem hg.srtL ?_
      have := enumF_get (l := F) (k := 0) hjF
      rwa [Nat.zero_add] at this
    have e4 : (loadedD q F).fl j = ⟨F[j].2, F[j].2.length⟩ := by
      show (flsF F).getD j default = _
      unfold flsF
      simp [List.getD, hjF]
    have e5 : (loadedD q F).dat j = F[j].2 := by unfold DS.dat; rw [e4]
    obtain ⟨k1, k2⟩ := h1 _ hm
    refine ⟨j, e3, by rw [e5, e2], fun g => (by rw [k1] at g; cases g), fun _ => ?_⟩
    rw [e5, e4, k2, e2]
    exact ⟨List.prefix_refl _, Nat.le_refl _, e3, fun c hc => by cases hc⟩
end
end Go.Proofs.Ytoodgenbcfdloaa
