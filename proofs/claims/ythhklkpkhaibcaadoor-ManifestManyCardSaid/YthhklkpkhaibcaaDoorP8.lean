/- Plain: what a crash leaves is loaded as it is. -/
import Derived.Test.YthhklkpkhaibcaaDoorP6
set_option linter.unusedVariables false
set_option linter.unusedSimpArgs false
namespace Go.Proofs.YthhklkpkhaibcaaDoor
def enumF : Nat → List File → Names
  | _, [] => []
  | k, f :: l => (f.1, k) :: enumF (k + 1) l
def flsF (l : List File) : List Fl := l.map fun f => ⟨f.2, f.2.length⟩
/-- Files in rising order under lasting names. -/
structure Fine (l : List File) : Prop where
  srt : l.Pairwise fun f g => f.1 < g.1
  path : ∀ f ∈ l, pathB f.1 = true
theorem tw_all {α : Type} {q : α → Bool} : ∀ {l : List α}, (∀ x ∈ l, q x = true) → l.takeWhile q = l ∧ l.dropWhile q = []
  | [], _ => ⟨rfl, rfl⟩
  | x :: l, h => by
    have hx := h x List.mem_cons_self
    obtain ⟨h1, h2⟩ := tw_all (l := l) (q := q) fun y hy => h y (List.mem_cons_of_mem _ hy)
    simp [hx, h1, h2]
theorem wi_end {now : Names} {n : Nm} (h : ∀ p ∈ now, p.1 < n) (k : Nat) : wi now n k = now ++ [(n, k)] := by
  have h1 : wo now n = now := List.filter_eq_self.2 fun p hp => by
    have := h p hp
    simp only [decide_eq_true_eq]
    intro e; rw [e] at this; exact List.lt_irrefl _ this
  obtain ⟨h2, h3⟩ := tw_all (q := fun p : Nm × Nat => decide (p.1 < n)) (l := now) fun p hp => by simpa using h p hp
  unfold wi
  rw [h1, h2, h3]
theorem loadGo_fine : ∀ {l : List File} {fs : List Fl} {now : Names}, Fine l → (∀ p ∈ now, ∀ f ∈ l, p.1 < f.1) → loadGo fs now l = .inr (fs ++ flsF l, now ++ enumF fs.length l)
  | [], fs, now, _, _ => by simp [loadGo, flsF, enumF]
  | f :: l, fs, now, h, hn => by
    have hs := List.pairwise_cons.1 h.srt
    have hp := h.path f List.mem_cons_self
    have hf : fnd now f.1 = none := fnd_none.2 fun p hp e => by
      have := hn p hp f List.mem_cons_self
      rw [e] at this; exact List.lt_irrefl _ this
    unfold loadGo
    rw [if_neg (by simp [hp]), if_neg (by simp [hf]), wi_end fun p hp => hn p hp f List.mem_cons_self]
    rw [loadGo_fine ⟨hs.2, fun g hg => h.path g (List.mem_cons_of_mem _ hg)⟩]
    · simp [flsF, enumF]
    · intro p hp g hg
      rcases List.mem_append.1 hp with hp | hp
      · exact hn p hp g (List.mem_cons_of_mem _ hg)
      · simp at hp; subst hp; exact hs.1 g hg
theorem enum_files : ∀ (l : List File) (fs : List Fl), filesOf (fs ++ flsF l) (enumF fs.length l) = l
  | [], _ => rfl
  | f :: l, fs => by
    have ih := enum_files l (fs ++ [⟨f.2, f.2.length⟩])
    have e : fs ++ flsF (f :: l) = (fs ++ [⟨f.2, f.2.length⟩]) ++ flsF l := by simp [flsF]
    unfold filesOf at ih ⊢
    simp only [enumF, List.map_cons]
    rw [e]
    rw [List.length_append, List.length_singleton] at ih
    rw [ih]
    congr 1
    simp [List.getD]
def loadedD (q : Nat) (l : List File) : DS := ⟨q, flsF l, enumF 0 l, enumF 0 l, [], none, false⟩
theorem load_fine {q : Nat} (hq : q ≤ 4194304) {l : List File} (h : Fine l) (hs : sumLen l ≤ q) : load q (sumLen l) l = (0, loadedD q l) := by
  unfold load
  rw [if_neg (by omega), loadGo_fine h (fun p hp => by cases hp)]
  dsimp only
  rw [if_neg (by omega)]
  simp [loadedD]
theorem loaded_files (q : Nat) (l : List File) : (loadedD q l).files = l := enum_files l []
theorem clamp_zero (c : Int) : clamp c 0 0 = 0 := by
  unfold clamp
  split
  · rfl
  split
  · rfl
  · omega
theorem leftF_full {f : Fl} (h : f.syn = f.data.length) (c : Int × Int) : leftF f c = f.data := by
  unfold leftF
  rw [h]
  have e : ((f.data.length : Int) - (f.data.length : Nat)) = 0 := by omega
  dsimp only
  rw [e, clamp_zero]
  simp [clamp_zero]
theorem leftL_full {fs : List Fl} {cuts : List (Int × Int)} : ∀ {l : Names} {k : Nat}, (∀ p ∈ l, (fs.getD p.2 default).syn = (fs.getD p.2 default).data.length) → leftL fs cuts k l = filesOf fs l
  | [], _, _ => rfl
  | p :: l, k, h => by
    show (p.1, leftF (fs.getD p.2 default) (cuts.getD k (0, 0))) :: leftL fs cuts (k + 1) l = _
    rw [leftF_full (h p List.mem_cons_self), leftL_full fun p' hp' => h p' (List.mem_cons_of_mem _ hp')]
    rfl
theorem flsF_syn (l : List File) (i : Nat) : ((flsF l).getD i default).syn = ((flsF l).getD i default).data.length := by
  unfold flsF
  by_cases h : i < l.length
  · simp [List.getD, h]
  · simp [List.getD, h]; rfl
theorem loaded_crash (q : Nat) (l : List File) (keep : Int) (cuts : List (Int × Int)) : (loadedD q l).crash keep cuts = l := by
  unfold DS.crash
  have e : keptN (loadedD q l) keep = enumF 0 l := by
    unfold keptN loadedD
    simp
  rw [e]
  show leftL (flsF l) cuts 0 (enumF 0 l) = l
  rw [leftL_full fun p _ => flsF_syn l p.2]
  exact enum_files l []
theorem loaded_good {q : Nat} (hq : q ≤ 4194304) {l : List File} (h : Fine l) (hs : sumLen l ≤ q) : Good (loadedD q l) := by
  have h1 := load_good (q := (q : Int)) (files := l) (by rw [load_fine hq h hs])
  rw [load_fine hq h hs] at h1
  exact h1.1
/- WHAT A CRASH LEAVES -/
theorem leftL_names {fs : List Fl} {cuts : List (Int × Int)} : ∀ {l : Names} {k : Nat}, (leftL fs cuts k l).map (·.1) = l.map (·.1)
  | [], _ => rfl
  | p :: l, k => by
    show p.1 :: (leftL fs cuts (k + 1) l).map (·.1) = _
    rw [leftL_names]; rfl
theorem fine_names {l : List File} {m : Names} (e : l.map (·.1) = m.map (·.1)) (h : Srt m) (hp : ∀ p ∈ m, pathB p.1 = true) : Fine l := by
  constructor
  · have h1 : (m.map (·.1)).Pairwise fun a b => a < b := List.pairwise_map.2 h
    rw [← e] at h1
    exact List.pairwise_map.1 h1
  · intro f hf
    have : f.1 ∈ m.map (·.1) := e ▸ List.mem_map.2 ⟨f, hf, rfl⟩
    obtain ⟨p, hp1, hp2⟩ := List.mem_map.1 this
    rw [← hp2]; exact hp p hp1
theorem left_len' (f : Fl) (c : Int × Int) (h : f.syn ≤ f.data.length) : (leftF f c).length ≤ f.data.length := by
  have hc : ∀ n hi : Int, 0 ≤ hi → 0 ≤ clamp n 0 hi ∧ clamp n 0 hi ≤ hi := fun n hi h => by
    unfold clamp
    split
    · omega
    split <;> omega
  unfold leftF
  have h1 := hc c.1 ((f.data.length : Int) - f.syn) (by omega)
  have h2 := hc c.2 ((f.data.length : Int) - f.syn - clamp c.1 0 ((f.data.length : Int) - f.syn)) (by omega)
  dsimp only
  rw [List.length_append, List.length_take, List.length_replicate]
  omega
theorem leftL_sum {fs : List Fl} {cuts : List (Int × Int)} (hf : ∀ i, (fs.getD i default).syn ≤ (fs.getD i default).data.length) : ∀ {l : Names} {k : Nat}, sumLen (leftL fs cuts k l) ≤ ((idsL l).map fun i => (fs.getD i default).data.length).sum
  | [], _ => Nat.le_refl _
  | p :: l, k => by
    have ih := leftL_sum hf (l := l) (k := k + 1) (cuts := cuts)
    have h1 := left_len' (fs.getD p.2 default) (cuts.getD k (0, 0)) (hf p.2)
    show (leftF (fs.getD p.2 default) (cuts.getD k (0, 0))).length + sumLen (leftL fs cuts (k + 1) l) ≤ (fs.getD p.2 default).data.length + ((idsL l).map fun i => (fs.getD i default).data.length).sum
    omega
section
variable {D : DS}
theorem crash_fine (h : Good D) (keep : Int) (cuts : List (Int × Int)) : Fine (D.crash keep cuts) ∧ sumLen (D.crash keep cuts) ≤ D.taken := by
  have hk := h.st.kept (clamp keep 0 D.chs.length).toNat
  constructor
  · exact fine_names leftL_names hk.srt hk.path
  · unfold DS.crash
    refine Nat.le_trans (leftL_sum fun i => h.fl i) ?_
    rw [taken_eq]
    refine sum_sub hk.nd fun i hi => ?_
    rcases List.mem_append.1 (hk.sub i hi) with h1 | h1
    · exact List.mem_append_left _ h1
    · exact List.mem_append_right _ ((madeL_take _ _).subset h1)
theorem files_fine (h : Good D) : Fine D.files := by
  refine fine_names (m := D.now) ?_ h.keptNow.srt h.keptNow.path
  unfold DS.files filesOf
  rw [List.map_map]; rfl
def mostL (n : Nat) : List (Int × Int) := List.replicate n (4194304, 0)
theorem leftF_most {f : Fl} (h : f.syn ≤ f.data.length) (hd : f.data.length ≤ 4194304) : leftF f (4194304, 0) = f.data := by
  unfold leftF
  have e : clamp 4194304 0 ((f.data.length : Int) - f.syn) = (f.data.length : Int) - f.syn := by
    unfold clamp
    split
    · omega
    split <;> omega
  dsimp only
  rw [e, Int.sub_self, clamp_zero]
  have e2 : f.syn + ((f.data.length : Int) - f.syn).toNat = f.data.length := by omega
  rw [e2]; simp
theorem leftL_most {fs : List Fl} {n : Nat} : ∀ {l : Names} {k : Nat}, k + l.length ≤ n → (∀ p ∈ l, (fs.getD p.2 default).syn ≤ (fs.getD p.2 default).data.length ∧ (fs.getD p.2 default).data.length ≤ 4194304) → leftL fs (mostL n) k l = filesOf fs l
  | [], _, _, _ => rfl
  | p :: l, k, hk, h => by
    simp only [List.length_cons] at hk
    have h1 := h p List.mem_cons_self
    show (p.1, leftF (fs.getD p.2 default) ((mostL n).getD k (0, 0))) :: leftL fs (mostL n) (k + 1) l = _
    have e : (mostL n).getD k (0, 0) = (4194304, 0) := by
      unfold mostL
      simp [List.getD, List.getElem?_replicate, show k < n by omega]
    rw [e, leftF_most h1.1 h1.2, leftL_most (by omega) fun p' hp' => h p' (List.mem_cons_of_mem _ hp')]
    rfl
theorem crash_whole (h : Good D) (hb : ∀ i ∈ D.ids, (D.dat i).length ≤ 4194304) {keep : Int} (hk : (D.chs.length : Int) ≤ keep) : D.crash keep (mostL D.files.length) = D.files := by
  have e : keptN D keep = D.now := by
    unfold keptN
    have e1 : (clamp keep 0 D.chs.length).toNat = D.chs.length := by
      unfold clamp
      split
      · omega
      split <;> omega
    rw [e1, List.take_of_length_le (Nat.le_refl _), ← h.fold]
  unfold DS.crash
  rw [e]
  refine leftL_most ?_ fun p hp => ⟨h.fl p.2, hb p.2 (h.subNow (List.mem_map.2 ⟨p, hp, rfl⟩))⟩
  unfold DS.files filesOf
  rw [List.length_map]; omega
end
end Go.Proofs.YthhklkpkhaibcaaDoor
