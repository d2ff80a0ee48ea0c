/- The document's disk as a disk: what it holds, call by call. -/
import Derived.Test.YtoodgenbcfdloaaQ6
import Derived.Test.YtoodgenbcfdloaaG18
import Derived.Test.YtoodgenbcfdloaaP8
set_option linter.unusedVariables false
set_option linter.unusedSimpArgs false
namespace Go.Proofs.Ytoodgenbcfdloaa
open Go Go.Sl Go.RowKit

/-- A thing of the document's, that has the number k. -/
def ThOk (D : DS) (k : Nat) (t : RTh) : Prop := (k ∈ D.ids → t.d = D.dat k ∧ t.syn = (D.fl k).syn ∧ t.there = true) ∧ (k ∉ D.ids → t.d = [] ∧ t.there = false)
/-- The document's state is that of a disk. -/
structure Rep (D : DS) (S : RSt) : Prop where
  na : S.na = D.now
  la : S.la = D.las
  ch : S.ch = D.chs
  len : S.th.length = D.fs.length
  thing : ∀ k (h : k < S.th.length), ThOk D k S.th[k]
section
variable {D D' : DS} {S : RSt}
theorem Rep.congr (h : Rep D S) (h1 : D'.fs = D.fs) (h2 : D'.now = D.now) (h3 : D'.las = D.las) (h4 : D'.chs = D.chs) : Rep D' S := by
  have hi : D'.ids = D.ids := by unfold DS.ids; rw [h3, h4]
  have hf : ∀ k, D'.fl k = D.fl k := fun k => by unfold DS.fl; rw [h1]
  have hd : ∀ k, D'.dat k = D.dat k := fun k => by unfold DS.dat; rw [hf]
  refine ⟨by rw [h2]; exact h.na, by rw [h3]; exact h.la, by rw [h4]; exact h.ch, by rw [h1]; exact h.len, fun k hk => ?_⟩
  have := h.thing k hk
  unfold ThOk at this ⊢
  rw [hi, hf, hd]; exact this
theorem takenT_eq (th : List RTh) (f : Nat → Nat) (hf : ∀ k (h : k < th.length), (if th[k].there = true then th[k].d.length else 0) = f k) : takenT th = ((List.range th.length).map f).sum := by
  unfold takenT
  congr 1
  apply List.ext_getElem (by simp)
  intro k h1 h2
  simp only [List.getElem_map, List.getElem_range]
  exact hf k (by simpa using h1)
theorem sum_if : ∀ {l : List Nat} (n : Nat) (f : Nat → Nat), l.Nodup → (∀ i ∈ l, i < n) → ((List.range n).map fun k => if k ∈ l then f k else 0).sum = (l.map f).sum
  | [], n, f, _, _ => by
    have : ∀ l : List Nat, (l.map fun _ => 0).sum = 0 := fun l => by induction l <;> simp_all
    simp [this]
  | x :: l, n, f, hn, hlt => by
    have hx := List.nodup_cons.1 hn
    have ih := sum_if n f hx.2 (fun i hi => hlt i (List.mem_cons_of_mem _ hi))
    have := sum_one (f := fun k => if k ∈ l then f k else 0) (g := fun k => if k ∈ x :: l then f k else 0) (j := x) (fun i hi => by simp [hi]) (l := List.range n) List.nodup_range (List.mem_range.2 (hlt x List.mem_cons_self))
    simp only [hx.1, if_false, List.mem_cons, true_or, if_true] at this
    simp only [List.mem_cons, List.map_cons, List.sum_cons]
    omega
theorem Rep.taken (h : Rep D S) (hg : Good D) : takenT S.th = D.taken := by
  rw [taken_eq, takenT_eq S.th (fun k => if k ∈ D.ids then (D.dat k).length else 0), h.len, sum_if _ _ hg.idN hg.idlt]
  intro k hk
  obtain ⟨h1, h2⟩ := h.thing k hk
  by_cases hm : k ∈ D.ids
  · obtain ⟨e1, _, e3⟩ := h1 hm
    rw [if_pos e3, if_pos hm, e1]
  · obtain ⟨_, e3⟩ := h2 hm
    rw [if_neg (by simp [e3]), if_neg hm]
theorem Rep.get (h : Rep D S) (hg : Good D) {i : Nat} (hi : i ∈ D.ids) : ∃ hk : i < S.th.length, S.th[i].d = D.dat i ∧ S.th[i].syn = (D.fl i).syn ∧ S.th[i].there = true := by
  have hk : i < S.th.length := by rw [h.len]; exact hg.idlt i hi
  exact ⟨hk, (h.thing i hk).1 hi⟩
/-- One file turned. -/
theorem Rep.set (h : Rep D S) (hg : Good D) {i : Nat} (hi : i ∈ D.ids) (f : Fl) {t : RTh} (hd : t.d = f.data) (hs : t.syn = f.syn) (ht : t.there = true) {A : Option Addr} {c : Nat} : Rep (D.setF i f) { S with TA := A, tc := c, th := S.th.set i t } := by
  have hlt := hg.idlt i hi
  refine ⟨h.na, h.la, h.ch, ?_, fun k hk => ?_⟩
  · show (S.th.set i t).length = (D.fs.set i f).length
    rw [List.length_set, List.length_set, h.len]
  · have hk' : k < S.th.length := by simpa using hk
    show ThOk (D.setF i f) k (S.th.set i t)[k]
    rw [List.getElem_set]
    by_cases e : i = k
    · subst e
      rw [if_pos rfl]
      refine ⟨fun _ => ?_, fun hn => absurd hi hn⟩
      have e1 : (D.setF i f).fl i = f := by rw [fl_set D i i f hlt, if_pos rfl]
      exact ⟨by unfold DS.dat; rw [e1]; exact hd, by rw [e1]; exact hs, ht⟩
    · rw [if_neg e]
      have := h.thing k hk'
      have e1 : (D.setF i f).fl k = D.fl k := by rw [fl_set D i k f hlt, if_neg (fun h => e h.symm)]
      have e2 : (D.setF i f).dat k = D.dat k := by unfold DS.dat; rw [e1]
      unfold ThOk at this ⊢
      rw [e1, e2]; exact this
/-- One name change more. -/
theorem Rep.noted (h : Rep D S) {c : Chg} (hm : c.made = none) {A1 A2 : Option Addr} {c1 c2 : Nat} : Rep (D.noted c) (namedS S c A1 c1 A2 c2) := by
  refine ⟨by show doC S.na c = doC D.now c; rw [h.na], h.la, by show S.ch ++ [c] = D.chs ++ [c]; rw [h.ch], h.len, fun k hk => ?_⟩
  have := h.thing k hk
  have e : (D.noted c).ids = D.ids := by
    show idsL D.las ++ madeL (D.chs ++ [c]) = _
    have : madeL (D.chs ++ [c]) = madeL D.chs := by simp [madeL, hm]
    rw [this]; rfl
  unfold ThOk at this ⊢
  rw [e]; exact this
/-- A file made. -/
theorem Rep.made (h : Rep D S) (hg : Good D) (n : Nm) {A A1 A2 : Option Addr} {c c1 c2 : Nat} : Rep (DS.noted { D with fs := D.fs ++ [⟨[], 0⟩] } ⟨[], n, some D.fs.length⟩) (namedS { S with TA := A, tc := c, th := S.th ++ [⟨none, 0, [], 0, true⟩] } ⟨[], n, some D.fs.length⟩ A1 c1 A2 c2) := by
  refine ⟨by show doC S.na _ = doC D.now _; rw [h.na], h.la, by show S.ch ++ _ = D.chs ++ _; rw [h.ch], by show (S.th ++ _).length = (D.fs ++ _).length; rw [List.length_append, List.length_append, h.len]; rfl, fun k hk => ?_⟩
  have hk' : k < (S.th ++ [(⟨none, 0, [], 0, true⟩ : RTh)]).length := hk
  have e : (DS.noted { D with fs := D.fs ++ [⟨[], 0⟩] } ⟨[], n, some D.fs.length⟩).ids = D.ids ++ [D.fs.length] := by
    show idsL D.las ++ madeL (D.chs ++ [_]) = _
    have : madeL (D.chs ++ [(⟨[], n, some D.fs.length⟩ : Chg)]) = madeL D.chs ++ [D.fs.length] := by simp [madeL]
    rw [this, ← List.append_assoc]; rfl
  show ThOk _ k (S.th ++ [(⟨none, 0, [], 0, true⟩ : RTh)])[k]
  unfold ThOk
  rw [e]
  by_cases hlt : k < S.th.length
  · rw [List.getElem_append_left hlt]
    obtain ⟨g1, g2⟩ := h.thing k hlt
    have hlf : k < D.fs.length := by rw [← h.len]; exact hlt
    have e1 : (DS.noted { D with fs := D.fs ++ [⟨[], 0⟩] } ⟨[], n, some D.fs.length⟩).fl k = D.fl k := getD_app_lt hlf
    have e2 : (DS.noted { D with fs := D.fs ++ [⟨[], 0⟩] } ⟨[], n, some D.fs.length⟩).dat k = D.dat k := by unfold DS.dat; rw [e1]
    rw [e1, e2]
    refine ⟨fun hm => g1 ?_, fun hm => g2 fun hm' => hm (List.mem_append_left _ hm')⟩
    rcases List.mem_append.1 hm with hm | hm
    · exact hm
    · simp at hm; omega
  · have hke : k = D.fs.length := by rw [List.length_append, List.length_singleton, h.len] at hk'; rw [h.len] at hlt; omega
    subst hke
    rw [List.getElem_append_right (by rw [h.len]; omega)]
    refine ⟨fun _ => ?_, fun hm => absurd (by simp) hm⟩
    simp only [List.getElem_singleton]
    have e1 : (DS.noted { D with fs := D.fs ++ [⟨[], 0⟩] } ⟨[], n, some D.fs.length⟩).fl D.fs.length = ⟨[], 0⟩ := by
      show (D.fs ++ [(⟨[], 0⟩ : Fl)]).getD D.fs.length default = _
      simp [List.getD]
    refine ⟨?_, ?_, by first | rfl | trivial⟩
    · unfold DS.dat; rw [e1]
    · rw [e1]
theorem lastT_get (na : Names) : ∀ (l : List RTh) (k j : Nat) (h : j < (lastT na k l).length) (h' : j < l.length), (lastT na k l)[j] = lastTh na (k + j) l[j]
  | t :: l, k, 0, _, _ => rfl
  | t :: l, k, j + 1, h, h' => by
    have := lastT_get na l (k + 1) j (by simpa [lastT] using h) (by simpa using h')
    show (lastT na (k + 1) l)[j]'_ = _
    rw [this, show k + 1 + j = k + (j + 1) by omega]; rfl
/-- Behind a SyncDir. -/
theorem Rep.lasting (h : Rep D S) (hg : Good D) {A : Option Addr} {c : Nat} : Rep { D with las := D.now, chs := [] } (lastS S A c) := by
  refine ⟨h.na, h.na, rfl, by show (lastT S.na 0 S.th).length = _; rw [lastT_len]; exact h.len, fun k hk => ?_⟩
  have hk1 : k < (lastT S.na 0 S.th).length := hk
  have hk2 : k < S.th.length := by rwa [lastT_len] at hk1
  show ThOk _ k (lastT S.na 0 S.th)[k]
  rw [lastT_get S.na S.th 0 k hk1 hk2, Nat.zero_add]
  have e : ({ D with las := D.now, chs := [] } : DS).ids = idsL D.now := by
    show idsL D.now ++ madeL [] = _
    simp [madeL]
  unfold ThOk lastTh
  rw [e]
  obtain ⟨g1, _⟩ := h.thing k hk2
  by_cases hm : k ∈ idsL D.now
  · have hb : (S.na.any fun p => decide (p.2 = k)) = true := by
      rw [h.na, List.any_eq_true]
      obtain ⟨p, hp, e⟩ := List.mem_map.1 hm
      exact ⟨p, hp, by simpa using e⟩
    rw [if_pos hb]
    obtain ⟨e1, e2, _⟩ := g1 (hg.subNow hm)
    exact ⟨fun _ => ⟨e1, e2, rfl⟩, fun hn => absurd hm hn⟩
  · have hb : ¬ (S.na.any fun p => decide (p.2 = k)) = true := fun hb => by
      rw [h.na, List.any_eq_true] at hb
      obtain ⟨p, hp, e⟩ := hb
      exact hm (List.mem_map.2 ⟨p, hp, by simpa using e⟩)
    rw [if_neg hb]
    exact ⟨fun hn => absurd hn hm, fun _ => ⟨rfl, rfl⟩⟩
end
/-- A disk that was just loaded. -/
theorem rep_begin {F : List File} {q : Nat} {th : List RTh} {TA NA : Option Addr} {tc nc : Nat} (h1 : th.map (·.d) = F.map (·.2)) (h2 : ∀ t ∈ th, t.syn = t.d.length ∧ t.there = true) (hst : LSt (flsF F) (beginN 0 [] F) F) :
    Rep ⟨q, flsF F, beginN 0 [] F, beginN 0 [] F, [], none, false⟩ (beginS TA tc th NA nc (beginN 0 [] F)) := by
  have hlen : th.length = F.length := by have := congrArg List.length h1; simpa using this
  refine ⟨rfl, rfl, rfl, by show th.length = _; rw [flsF_len, hlen], fun k hk => ?_⟩
  have hk1 : k < th.length := hk
  have hkF : k < F.length := by omega
  have hd : th[k].d = F[k].2 := by
    have := congrArg (fun x => x[k]?) h1
    simpa [hk1, hkF] using this
  obtain ⟨e1, e2⟩ := h2 _ (List.getElem_mem hk1)
  have hfl : (flsF F).getD k default = ⟨F[k].2, F[k].2.length⟩ := by
    unfold flsF; simp [List.getD, hkF]
  have hid : k ∈ idsL (beginN 0 [] F) := by
    obtain ⟨i, g1, g2⟩ := hst.look F[k] (List.getElem_mem hkF)
    have hnd : (idsL (beginN 0 [] F)).length = F.length := by
      have := hst.keys.length_eq
      simpa [idsL] using this
    have hsub : ∀ x ∈ idsL (beginN 0 [] F), x ∈ List.range F.length := fun x hx => by
      have := hst.lt x hx
      rw [flsF_len] at this
      exact List.mem_range.2 this
    rcases Classical.em (k ∈ idsL (beginN 0 [] F)) with h | h
    · exact h
    · have h3 := len_le_of_nodup (l1 := k :: idsL (beginN 0 [] F)) (l2 := List.range F.length) (List.nodup_cons.2 ⟨h, hst.nd⟩) (fun x hx => by
        rcases List.mem_cons.1 hx with rfl | hx
        · exact List.mem_range.2 hkF
        · exact hsub x hx)
      rw [List.length_cons, List.length_range, hnd] at h3
      omega
  show ThOk _ k th[k]
  refine ⟨fun _ => ⟨?_, ?_, e2⟩, fun hn => absurd ?_ hn⟩
  · show th[k].d = ((flsF F).getD k default).data
    rw [hfl, hd]
  · show th[k].syn = ((flsF F).getD k default).syn
    rw [hfl, e1, hd]
  · show k ∈ idsL (beginN 0 [] F) ++ madeL []
    exact List.mem_append_left _ hid
end Go.Proofs.Ytoodgenbcfdloaa
