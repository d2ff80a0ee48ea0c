/- What a range over a container gives: the keys within bounds, the values of each. -/
import Derived.Test.YtaofhbjlbdpjhaaSlMulti
set_option linter.unusedVariables false
set_option linter.unusedSimpArgs false
namespace Go.Sl
open Go.RowKit
section
variable {α : Type}
def hdr (mu : Mu α) (k : Int) : Option Addr × Nat × Nat := match mu.E.find? (fun e => decide (e.key = k)) with
  | some e => (e.A, e.vals.length, e.c)
  | none => (none, 0, 0)
def eH (h : Option Addr × Nat × Nat) : List Value := [.slice h.1 h.2.1 h.2.2]
theorem eH_ok : (∀ x, (eH x).length = 1) ∧ ∀ x, ∀ u ∈ eH x, u.oneCell' = true := ⟨fun _ => rfl, fun _ u hu => by simp [eH] at hu; subst hu; rfl⟩
theorem hdr_ok {mu : Mu α} {l : List (Int × α)} (ho : mu.Of l) (k : Int) : ∃ A c, hdr mu k = (A, (getK l k).length, c) ∧ (findV (kvsE mu.E) k).getD (.slice none 0 0) = .slice A (getK l k).length c ∧ ((∃ x ∈ mu.E, x.A = A ∧ x.vals = getK l k) ∨ getK l k = []) := by
  rcases ho.find k with ⟨E1, e, E2, hE, hk, h1, h2, hv⟩ | ⟨h1, hg⟩
  · refine ⟨e.A, e.c, ?_, ?_, .inl ⟨e, by rw [hE]; simp, rfl, hv⟩⟩
    · have : mu.E.find? (fun e => decide (e.key = k)) = some e := by
        rw [hE, List.find?_append]
        have : E1.find? (fun e => decide (e.key = k)) = none := by
          rw [List.find?_eq_none]; intro x hx; simpa using fun h => h1 x hx h.symm
        rw [this]; simp [hk]
      unfold hdr
      rw [this, ← hv]
    · rw [hE, ← hv]; subst hk
      have hkk : kvsE (E1 ++ e :: E2) = kvsE E1 ++ (e.key, .slice e.A e.vals.length e.c, e.born) :: kvsE E2 := by simp [kvsE]
      rw [hkk, findV_mid (kvsE_keys h1)]; rfl
  · refine ⟨none, 0, ?_, ?_, .inr hg⟩
    · have : mu.E.find? (fun e => decide (e.key = k)) = none := by
        rw [List.find?_eq_none]; intro x hx; simpa using fun h => h1 x hx h.symm
      unfold hdr
      rw [this, hg]; rfl
    · rw [findV_none (kvsE_keys h1), hg]; rfl
def rangeK (lo hi : Int) (ks : List Int) : List Int := ks.filter fun k => decide (lo ≤ k ∧ k ≤ hi)
def seqP (l : List (Int × α)) (ks : List Int) : List (Int × α) := ks.flatMap fun k => (getK l k).map fun v => (k, v)
theorem rangeK_len (lo hi : Int) (ks : List Int) : (rangeK lo hi ks).length ≤ ks.length := List.length_filter_le _ _
theorem rangeK_in {lo hi : Int} {ks : List Int} {i : Nat} (h : i < ks.length) (h1 : lo ≤ ks[i]) (h2 : ks[i] ≤ hi) : rangeK lo hi (ks.take (i + 1)) = rangeK lo hi (ks.take i) ++ [ks[i]] := by
  unfold rangeK
  rw [List.take_add_one, List.filter_append, List.getElem?_eq_getElem h]
  simp [h1, h2]
theorem rangeK_out {lo hi : Int} {ks : List Int} {i : Nat} (h : i < ks.length) (h1 : ¬ (lo ≤ ks[i] ∧ ks[i] ≤ hi)) : rangeK lo hi (ks.take (i + 1)) = rangeK lo hi (ks.take i) := by
  unfold rangeK
  rw [List.take_add_one, List.filter_append, List.getElem?_eq_getElem h]
  simp only [Option.toList_some]
  rw [List.filter_cons, if_neg (by simpa using h1)]; simp
theorem rdAt {β : Type} [Inhabited β] {s : List β} {k : Nat} (hk : k < s.length) : rd s (k : Int) = s[k] := by
  unfold rd; rw [Int.toNat_natCast, List.getD_eq_getElem?_getD, List.getElem?_eq_getElem hk]; rfl
theorem seqP_append (l : List (Int × α)) (a b : List Int) : seqP l (a ++ b) = seqP l a ++ seqP l b := by simp [seqP]
theorem take_drop_at {β : Type} : ∀ {xs : List β} {i : Nat} (h : i < xs.length), xs = xs.take i ++ xs[i] :: xs.drop (i + 1)
  | x :: xs, 0, _ => by simp
  | x :: xs, i + 1, h => by
    have := take_drop_at (xs := xs) (i := i) (by simpa using h)
    simp only [List.take_succ_cons, List.cons_append, List.getElem_cons_succ, List.drop_succ_cons]
    rw [← this]
theorem seqP_cons (l : List (Int × α)) (k : Int) (b : List Int) : seqP l (k :: b) = ((getK l k).map fun v => (k, v)) ++ seqP l b := by simp [seqP]
theorem map_split {k : Int} {vs : List α} {j : Nat} (hj : j < vs.length) : (vs.map fun v => (k, v)) = ((vs.take j).map fun v => (k, v)) ++ (k, vs[j]) :: ((vs.drop (j + 1)).map fun v => (k, v)) := by
  have := congrArg (List.map fun v => (k, v)) (take_drop_at hj)
  rw [List.map_append, List.map_cons] at this
  exact this
theorem seqP_split (l : List (Int × α)) {fk : List Int} {i j : Nat} (hi : i < fk.length) (hj : j < (getK l fk[i]).length) :
    seqP l fk = (seqP l (fk.take i) ++ ((getK l fk[i]).take j).map fun v => (fk[i], v)) ++ (fk[i], (getK l fk[i])[j]) :: ((((getK l fk[i]).drop (j + 1)).map fun v => (fk[i], v)) ++ seqP l (fk.drop (i + 1))) := by
  have h1 := congrArg (seqP l) (take_drop_at hi)
  rw [seqP_append, seqP_cons, map_split hj] at h1
  rw [h1]; simp only [List.append_assoc, List.cons_append]
theorem takeNext {β : Type} : ∀ {xs : List β} {i : Nat} (h : i < xs.length), xs.take (i + 1) = xs.take i ++ [xs[i]]
  | x :: xs, 0, _ => by simp
  | x :: xs, i + 1, h => by
    have := takeNext (xs := xs) (i := i) (by simpa using h)
    rw [List.take_succ_cons, this]; simp
theorem seqP_next (l : List (Int × α)) {fk : List Int} {i : Nat} (hi : i < fk.length) : seqP l (fk.take (i + 1)) = seqP l (fk.take i) ++ (getK l fk[i]).map fun v => (fk[i], v) := by
  rw [takeNext hi, seqP_append, seqP_cons]; simp [seqP]
theorem map_next {k : Int} {vs : List α} {j : Nat} (hj : j < vs.length) : ((vs.take (j + 1)).map fun v => (k, v)) = ((vs.take j).map fun v => (k, v)) ++ [(k, vs[j])] := by
  rw [takeNext hj, List.map_append]; rfl
end
end Go.Sl
