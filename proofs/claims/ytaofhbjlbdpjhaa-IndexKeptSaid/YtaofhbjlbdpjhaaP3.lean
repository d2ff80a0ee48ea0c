/- Plain laws: what a range gives is what the reference sorts; keys that are told; lists cut at a key. -/
import Derived.Test.YtaofhbjlbdpjhaaP1
import Derived.Test.YtaofhbjlbdpjhaaF21
set_option linter.unusedVariables false
set_option linter.unusedSimpArgs false
namespace Go.Proofs.Ytaofhbjlbdpjhaa
open Go Go.Sl Go.RowKit

theorem getK_app {α : Type} (a b : List (Int × α)) (k : Int) : getK (a ++ b) k = getK a k ++ getK b k := by simp [getK]
theorem getK_map {α : Type} (k j : Int) (vs : List α) : getK (vs.map fun v => (k, v)) j = if k = j then vs else [] := by
  unfold getK
  by_cases h : k = j
  · subst h; simp [List.filter_map, Function.comp_def]
  · simp [List.filter_map, Function.comp_def, h]
theorem getK_seqP {α : Type} (l : List (Int × α)) (j : Int) : ∀ {ks : List Int}, ks.Nodup → getK (seqP l ks) j = if j ∈ ks then getK l j else []
  | [], _ => by simp [seqP, getK]
  | k :: ks, h => by
    rw [List.nodup_cons] at h
    rw [seqP_cons, getK_app, getK_map, getK_seqP l j h.2]
    by_cases e : k = j
    · subst e; simp [h.1]
    · have : j ∈ k :: ks ↔ j ∈ ks := by
        rw [List.mem_cons]
        exact ⟨fun x => x.resolve_left (fun y => e y.symm), .inr⟩
      simp [e, this]
theorem seqP_asc (l : List (Int × Int)) : ∀ {ks : List Int}, ks.Pairwise (fun u v => u ≤ v) → Asc (seqP l ks)
  | [], _ => List.Pairwise.nil
  | k :: ks, h => by
    rw [List.pairwise_cons] at h
    have ih := seqP_asc l h.2
    unfold Asc at ih ⊢
    rw [seqP_cons, List.pairwise_append]
    refine ⟨?_, ih, ?_⟩
    · rw [List.pairwise_map]
      exact List.pairwise_iff_getElem.2 fun _ _ _ _ _ => Int.le_refl _
    · intro a ha b hb
      obtain ⟨v, _, rfl⟩ := List.mem_map.1 ha
      unfold seqP at hb
      rw [List.mem_flatMap] at hb
      obtain ⟨k2, hk2, hb⟩ := hb
      obtain ⟨v2, _, rfl⟩ := List.mem_map.1 hb
      exact h.1 k2 hk2
/-- Two lists that rise and hold the same values of each key are one. -/
theorem asc_unique : ∀ {a b : List (Int × Int)}, Asc a → Asc b → (∀ k, getK a k = getK b k) → a = b
  | [], [], _, _, _ => rfl
  | [], y :: b, _, _, h => by
    have := h y.1
    simp [getK] at this
  | x :: a, [], _, _, h => by
    have := h x.1
    simp [getK] at this
  | x :: a, y :: b, ha, hb, h => by
    have hx := h x.1
    have hy := h y.1
    have ha' := List.pairwise_cons.1 ha
    have hb' := List.pairwise_cons.1 hb
    have mem : ∀ {l : List (Int × Int)} {k : Int}, getK l k ≠ [] → ∃ p ∈ l, p.1 = k := by
      intro l k hne
      obtain ⟨v, hv⟩ := List.exists_mem_of_ne_nil _ hne
      unfold getK at hv
      obtain ⟨p, hp, _⟩ := List.mem_map.1 hv
      rw [List.mem_filter, decide_eq_true_eq] at hp
      exact ⟨p, hp.1, hp.2⟩
    have hle : y.1 ≤ x.1 := by
      obtain ⟨p, hp, hpk⟩ := mem (l := y :: b) (k := x.1) (by rw [← hx]; simp [getK])
      rcases List.mem_cons.1 hp with rfl | hp
      · omega
      · have := hb'.1 p hp; omega
    have hge : x.1 ≤ y.1 := by
      obtain ⟨p, hp, hpk⟩ := mem (l := x :: a) (k := y.1) (by rw [hy]; simp [getK])
      rcases List.mem_cons.1 hp with rfl | hp
      · omega
      · have := ha'.1 p hp; omega
    have hk : x.1 = y.1 := by omega
    have e1 : ∀ (z : Int × Int) (l : List (Int × Int)) (k : Int), getK (z :: l) k = if z.1 = k then z.2 :: getK l k else getK l k := by
      intro z l k
      by_cases e : z.1 = k <;> simp [getK, e]
    have h2 : x.2 = y.2 := by
      rw [e1, e1, if_pos rfl, if_pos hk.symm] at hx
      injection hx
    have hxy : x = y := Prod.ext hk h2
    subst hxy
    rw [asc_unique ha'.2 hb'.2 fun k => by
      have := h k
      rw [e1, e1] at this
      by_cases e : x.1 = k
      · rw [if_pos e, if_pos e] at this; injection this
      · rw [if_neg e, if_neg e] at this; exact this]
theorem getK_ins {out : List (Int × Int)} (h : Asc out) (p : Int × Int) (k : Int) : getK (ins out p) k = getK out k ++ if p.1 = k then [p.2] else [] := by
  unfold ins
  rw [getK_app]
  have e1 : ∀ (z : Int × Int) (l : List (Int × Int)), getK (z :: l) k = (if z.1 = k then [z.2] else []) ++ getK l k := by
    intro z l
    by_cases e : z.1 = k <;> simp [getK, e]
  rw [e1]
  have e2 : getK out k = getK (out.take (insK out p out.length)) k ++ getK (out.drop (insK out p out.length)) k := by
    rw [← getK_app, List.take_append_drop]
  rw [e2]
  by_cases e : p.1 = k
  · have : getK (out.drop (insK out p out.length)) k = [] := by
      refine getK_nil_of fun q hq hqk => ?_
      obtain ⟨j, hj, rfl⟩ := List.mem_iff_getElem.1 hq
      rw [List.getElem_drop] at hqk
      rw [List.length_drop] at hj
      have := insK_above out p out.length (insK out p out.length + j) (by omega) (by omega)
      rw [rd_at (by omega)] at this
      omega
    rw [this]; simp
  · simp [e]
theorem getK_srt (lo hi : Int) (k : Int) (l : List (Int × Int)) : getK (srt lo hi l) k = if lo ≤ k ∧ k ≤ hi then getK l k else [] := by
  have key : ∀ (l : List (Int × Int)) (out : List (Int × Int)), Asc out → getK (l.foldl (fun out p => if p.1 < lo ∨ hi < p.1 then out else ins out p) out) k = getK out k ++ if lo ≤ k ∧ k ≤ hi then getK l k else [] := by
    intro l
    induction l with
    | nil => intro out _; simp [getK]
    | cons p l ih =>
      intro out h
      rw [List.foldl_cons]
      have e1 : getK (p :: l) k = (if p.1 = k then [p.2] else []) ++ getK l k := by
        by_cases e : p.1 = k <;> simp [getK, e]
      by_cases hp : p.1 < lo ∨ hi < p.1
      · rw [if_pos hp, ih out h, e1]
        by_cases e : p.1 = k
        · subst e
          have : ¬ (lo ≤ p.1 ∧ p.1 ≤ hi) := by omega
          simp [this]
        · simp [e]
      · rw [if_neg hp, ih _ (ins_asc h p), getK_ins h, e1]
        by_cases e : p.1 = k
        · subst e
          have : lo ≤ p.1 ∧ p.1 ≤ hi := by omega
          simp [this]
        · simp [e]
  have := key l [] List.Pairwise.nil
  unfold srt
  rw [this]; simp [getK]
section
variable {mu : Mu Int} {l : List (Int × Int)}
theorem keys_nodup (ho : mu.Of l) : (sortI (mu.E.map (·.key))).Nodup := (List.mergeSort_perm _ _).nodup_iff.2 ho.keys
theorem keys_mem (ho : mu.Of l) (k : Int) : k ∈ sortI (mu.E.map (·.key)) ↔ getK l k ≠ [] := by
  have h1 : k ∈ sortI (mu.E.map (·.key)) ↔ k ∈ mu.E.map (·.key) := (List.mergeSort_perm _ _).mem_iff
  rw [h1, List.mem_map]
  constructor
  · rintro ⟨e, he, rfl⟩
    rw [← ho.vals e he]; exact ho.ne e he
  · intro hne
    rcases ho.find k with ⟨E1, e, E2, hE, hk, _⟩ | ⟨_, hg⟩
    · exact ⟨e, by rw [hE]; simp, hk⟩
    · exact (hne hg).elim
theorem given_srt (ho : mu.Of l) (lo hi : Int) : given mu l lo hi = srt lo hi l := by
  refine asc_unique (seqP_asc l ((sortI_le _).filter _)) (srt_ok lo hi l).1 fun k => ?_
  unfold given rangeK
  rw [getK_srt, getK_seqP l k ((keys_nodup ho).filter _)]
  simp only [List.mem_filter, decide_eq_true_eq, keys_mem ho k]
  by_cases h : lo ≤ k ∧ k ≤ hi
  · by_cases h2 : getK l k = []
    · simp [h2]
    · simp [h, h2]
  · simp [h]
end
theorem filter_cut {at' : Int} : ∀ {ks : List Int}, ks.Pairwise (fun u v => u ≤ v) → ks.filter (fun k => decide (k ≤ at')) ++ ks.filter (fun k => decide (at' + 1 ≤ k)) = ks
  | [], _ => rfl
  | k :: ks, h => by
    rw [List.pairwise_cons] at h
    by_cases e : k ≤ at'
    · have ih := filter_cut (at' := at') h.2
      have e2 : ¬ at' + 1 ≤ k := by omega
      simp only [List.filter_cons, e, e2, decide_true, decide_false, if_true, Bool.false_eq_true, if_false, List.cons_append, ih]
    · have e1 : (k :: ks).filter (fun k => decide (k ≤ at')) = [] := by
        rw [List.filter_eq_nil_iff]
        intro x hx
        rcases List.mem_cons.1 hx with rfl | hx
        · simpa using e
        · have := h.1 x hx
          simp; omega
      have e2 : (k :: ks).filter (fun k => decide (at' + 1 ≤ k)) = k :: ks := by
        rw [List.filter_eq_self]
        intro x hx
        rcases List.mem_cons.1 hx with rfl | hx
        · simp; omega
        · have := h.1 x hx
          simp; omega
      rw [e1, e2]; rfl
end Go.Proofs.Ytaofhbjlbdpjhaa
