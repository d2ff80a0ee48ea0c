/- Plain laws: a container of n keys 3, 6 .. with m values each; every second key of it. -/
import Derived.Test.YtaofhbjlbdpjhaaP8
set_option linter.unusedVariables false
set_option linter.unusedSimpArgs false
namespace Go.Proofs.Ytaofhbjlbdpjhaa
open Go Go.Sl Go.RowKit

/-- The first c values of the key 3 * i. -/
def valsI (i : Int) (c : Nat) : List Int := (List.range c).map fun (κ : Nat) => 7 * (κ : Int) + i
theorem valsI_len (i : Int) (c : Nat) : (valsI i c).length = c := by simp [valsI]
theorem valsI_succ (i : Int) (c : Nat) : valsI i (c + 1) = valsI i c ++ [7 * (c : Int) + i] := by simp [valsI, List.range_succ]
theorem valsI_mem {i : Int} {c : Nat} {v : Int} (h : v ∈ valsI i c) : ∃ κ : Nat, κ < c ∧ v = 7 * (κ : Int) + i := by
  obtain ⟨κ, hk, rfl⟩ := List.mem_map.1 h
  exact ⟨κ, List.mem_range.1 hk, rfl⟩
theorem valsI_asc (i : Int) (c : Nat) : (valsI i c).Pairwise (fun a b => a < b) := by
  unfold valsI
  rw [List.pairwise_map]
  exact List.pairwise_lt_range.imp fun h => by omega
/-- The keys 3s, 6s .. of those up to 3n. -/
def PQ (n m s : Nat) : List (Int × List Int) := (List.range (n / s)).map fun t => (3 * ((s * (t + 1) : Nat) : Int), valsI ((s * (t + 1) : Nat) : Int) m)
theorem PQ_good (n m s : Nat) (hs : s = 1 ∨ s = 2) (hn : n ≤ 3000) (hm : 1 ≤ m) (hm2 : m ≤ 400) : Good (PQ n m s) := by
  refine ⟨?_, fun p hp => ?_⟩
  · unfold PQ
    rw [List.pairwise_map]
    refine List.pairwise_lt_range.imp fun {a b} h => ?_
    rcases hs with rfl | rfl <;> dsimp only <;> omega
  · obtain ⟨t, ht, rfl⟩ := List.mem_map.1 hp
    rw [List.mem_range] at ht
    have h1 : s * (t + 1) ≤ n := by
      rcases hs with rfl | rfl <;> omega
    have h2 : 1 ≤ s * (t + 1) := by
      rcases hs with rfl | rfl <;> omega
    refine ⟨by dsimp only; omega, by dsimp only; omega, fun h => ?_, valsI_asc _ _, fun v hv => ?_⟩
    · have := valsI_len ((s * (t + 1) : Nat) : Int) m
      dsimp only at h
      rw [h] at this; simp at this; omega
    · obtain ⟨κ, hκ, rfl⟩ := valsI_mem hv
      omega
theorem PQ_keys (n m s : Nat) : (PQ n m s).map (·.1) = (List.range (n / s)).map fun t => 3 * ((s * (t + 1) : Nat) : Int) := by
  unfold PQ; rw [List.map_map]; rfl
theorem PQ_len (n m s : Nat) : (flatP (PQ n m s)).length = n / s * m := by
  unfold flatP PQ
  rw [List.flatMap_map]
  generalize n / s = N
  induction N with
  | zero => simp
  | succ N ih =>
    rw [List.range_succ, List.flatMap_append, List.length_append, ih, Nat.succ_mul]
    simp [valsI_len]
theorem getK_PQ {n m s : Nat} (hs : s = 1 ∨ s = 2) {t : Nat} (ht : t < n / s) : getK (flatP (PQ n m s)) (3 * ((s * (t + 1) : Nat) : Int)) = valsI ((s * (t + 1) : Nat) : Int) m := by
  have hp : (3 * ((s * (t + 1) : Nat) : Int), valsI ((s * (t + 1) : Nat) : Int) m) ∈ PQ n m s := List.mem_map.2 ⟨t, List.mem_range.2 ht, rfl⟩
  refine getK_flatP ?_ _ hp
  unfold PQ
  rw [List.pairwise_map]
  refine List.pairwise_lt_range.imp fun {a b} h => ?_
  rcases hs with rfl | rfl <;> dsimp only <;> omega
theorem getK_PQ_none {n m s : Nat} {q : Int} (h : ∀ t : Nat, t < n / s → ¬ q = 3 * ((s * (t + 1) : Nat) : Int)) : getK (flatP (PQ n m s)) q = [] := by
  refine getK_nil_of fun p hp => ?_
  obtain ⟨r, hr, he, _⟩ := flatP_mem hp
  obtain ⟨t, ht, rfl⟩ := List.mem_map.1 hr
  rw [he]
  exact fun h' => h t (List.mem_range.1 ht) h'.symm
/-- While it is made: the keys above j hold k + 1 values, the others k. -/
structure Made (l : List (Int × Int)) (n k j : Nat) : Prop where
  on : ∀ i : Nat, 1 ≤ i → i ≤ n → getK l (3 * (i : Int)) = valsI (i : Int) (if j < i then k + 1 else k)
  off : ∀ q : Int, (∀ i : Nat, 1 ≤ i → i ≤ n → ¬ q = 3 * (i : Int)) → getK l q = []
theorem Made.start (n : Nat) : Made [] n 0 n := ⟨fun i _ h => by rw [if_neg (by omega)]; rfl, fun _ _ => rfl⟩
theorem Made.add {l : List (Int × Int)} {n k j : Nat} (h : Made l n k (j + 1)) (hj : j + 1 ≤ n) : Made (l ++ [(3 * ((j + 1 : Nat) : Int), 7 * (k : Int) + ((j + 1 : Nat) : Int))]) n k j := by
  refine ⟨fun i h1 h2 => ?_, fun q hq => ?_⟩
  · rw [getK_append]
    dsimp only
    by_cases hi : i = j + 1
    · subst hi
      rw [if_pos rfl, h.on _ h1 h2, if_neg (by omega), if_pos (by omega), valsI_succ]
    · rw [if_neg (by omega), h.on i h1 h2]
      by_cases hji : j < i
      · rw [if_pos hji, if_pos (by omega)]
      · rw [if_neg hji, if_neg (by omega)]
  · rw [getK_append, if_neg (fun e => hq (j + 1) (by omega) hj e.symm), h.off q hq]
theorem Made.turn {l : List (Int × Int)} {n k : Nat} (h : Made l n k 0) : Made l n (k + 1) n :=
  ⟨fun i h1 h2 => by rw [h.on i h1 h2, if_pos (by omega), if_neg (by omega)], h.off⟩
theorem Made.done {l : List (Int × Int)} {n m : Nat} (h : Made l n m n) (hl : l.length = n * m) {mu : Mu Int} (ho : mu.Of l) : mu.Of (flatP (PQ n m 1)) := by
  refine Of_same ho (fun q => ?_) (by rw [PQ_len, hl, Nat.div_one])
  by_cases hq : ∃ t : Nat, t < n / 1 ∧ q = 3 * ((1 * (t + 1) : Nat) : Int)
  · obtain ⟨t, ht, rfl⟩ := hq
    rw [getK_PQ (.inl rfl) ht, Nat.one_mul, h.on (t + 1) (by omega) (by omega), if_neg (by omega)]
  · rw [getK_PQ_none (fun t ht e => hq ⟨t, ht, e⟩), h.off]
    intro i h1 h2 e
    refine hq ⟨i - 1, by omega, ?_⟩
    rw [e, Nat.one_mul]; omega
/-- While the odd ones are dropped: those below i are gone. -/
structure Gone (l : List (Int × Int)) (n m i : Nat) : Prop where
  on : ∀ j : Nat, 1 ≤ j → j ≤ n → getK l (3 * (j : Int)) = if j % 2 = 1 ∧ j < i then [] else valsI (j : Int) m
  off : ∀ q : Int, (∀ j : Nat, 1 ≤ j → j ≤ n → ¬ q = 3 * (j : Int)) → getK l q = []
  len : l.length + i / 2 * m = n * m
theorem Gone.start {l : List (Int × Int)} {n m : Nat} (h : Made l n m n) (hl : l.length = n * m) : Gone l n m 1 :=
  ⟨fun j h1 h2 => by rw [h.on j h1 h2, if_neg (by omega), if_neg (by omega)], h.off, by simpa using hl⟩
theorem Gone.drop {l : List (Int × Int)} {n m i : Nat} (h : Gone l n m i) (hi : i % 2 = 1) (hin : i ≤ n) : getK l (3 * (i : Int)) = valsI (i : Int) m ∧ Gone (dropKey l (3 * (i : Int))) n m (i + 2) := by
  have h0 : getK l (3 * (i : Int)) = valsI (i : Int) m := by rw [h.on i (by omega) hin, if_neg (by omega)]
  refine ⟨h0, fun j h1 h2 => ?_, fun q hq => ?_, ?_⟩
  · rw [getK_drop]
    by_cases hj : j = i
    · subst hj; rw [if_pos rfl, if_pos (by omega)]
    · rw [if_neg (by omega), h.on j h1 h2]
      by_cases hc : j % 2 = 1 ∧ j < i
      · rw [if_pos hc, if_pos (by omega)]
      · rw [if_neg hc, if_neg (by omega)]
  · rw [getK_drop, if_neg (fun e => hq i (by omega) hin e), h.off q hq]
  · have h1 := getK_len l (3 * (i : Int))
    rw [h0, valsI_len] at h1
    have h2 := h.len
    have h3 : (i + 2) / 2 * m = i / 2 * m + m := by rw [show (i + 2) / 2 = i / 2 + 1 by omega, Nat.succ_mul]
    omega
theorem Gone.done {l : List (Int × Int)} {n m i : Nat} (h : Gone l n m i) (hi : i % 2 = 1) (hin : n < i) (hin2 : i ≤ n + 2) {mu : Mu Int} (ho : mu.Of l) : mu.Of (flatP (PQ n m 2)) := by
  refine Of_same ho (fun q => ?_) ?_
  · by_cases hq : ∃ t : Nat, t < n / 2 ∧ q = 3 * ((2 * (t + 1) : Nat) : Int)
    · obtain ⟨t, ht, rfl⟩ := hq
      rw [getK_PQ (.inr rfl) ht, h.on (2 * (t + 1)) (by omega) (by omega), if_neg (by omega)]
    · rw [getK_PQ_none (fun t ht e => hq ⟨t, ht, e⟩)]
      by_cases hq2 : ∃ j : Nat, 1 ≤ j ∧ j ≤ n ∧ q = 3 * (j : Int)
      · obtain ⟨j, h1, h2, rfl⟩ := hq2
        rw [h.on j h1 h2, if_pos]
        refine ⟨?_, by omega⟩
        by_cases hj : j % 2 = 1
        · exact hj
        · exact (hq ⟨j / 2 - 1, by omega, by rw [show 2 * (j / 2 - 1 + 1) = j by omega]⟩).elim
      · exact h.off q fun j h1 h2 e => hq2 ⟨j, h1, h2, e⟩
  · rw [PQ_len]
    have h2 := h.len
    have h3 : n / 2 * m + i / 2 * m = n * m := by rw [← Nat.add_mul]; congr 1; omega
    omega
/-- How many of the keys lie from 4 to 3n - 1. -/
theorem range_count (a b : Nat) : ∀ N, ((List.range N).filter fun t => decide (a ≤ t ∧ t < b)).length = min N b - min N a ∨ b < a
  | 0 => by simp
  | N + 1 => by
    rcases range_count a b N with h | h
    · by_cases hab : b < a
      · exact .inr hab
      · left
        rw [List.range_succ, List.filter_append, List.length_append, h]
        by_cases hc : a ≤ N ∧ N < b
        · rw [List.filter_cons_of_pos (by simpa using hc)]; simp; omega
        · rw [List.filter_cons_of_neg (by simpa using hc)]; simp; omega
    · exact .inr h
theorem seqP_const {l : List (Int × Int)} {m : Nat} : ∀ {ks : List Int}, (∀ k ∈ ks, (getK l k).length = m) → (seqP l ks).length = ks.length * m
  | [], _ => by simp [seqP]
  | k :: ks, h => by
    rw [seqP_cons, List.length_append, List.length_map, h k List.mem_cons_self, seqP_const fun q hq => h q (List.mem_cons_of_mem _ hq), List.length_cons, Nat.succ_mul]
    omega
def outN (n m s : Nat) : Nat := (if s = 1 then m else 0) + (if n % s = 0 ∧ (s = 1 ∧ 1 < n ∨ s = 2) then m else 0)
abbrev ksQ (n s : Nat) : List Int := (List.range (n / s)).map fun t => 3 * ((s * (t + 1) : Nat) : Int)
theorem rangeK_ksQ (n s : Nat) (a b : Nat) (lo hi : Int) (h : ∀ t : Nat, t < n / s → ((lo ≤ 3 * ((s * (t + 1) : Nat) : Int) ∧ 3 * ((s * (t + 1) : Nat) : Int) ≤ hi) ↔ (a ≤ t ∧ t < b))) : (rangeK lo hi (ksQ n s)).length = ((List.range (n / s)).filter fun t => decide (a ≤ t ∧ t < b)).length := by
  unfold rangeK ksQ
  rw [List.filter_map, List.length_map]
  congr 1
  refine List.filter_congr fun t ht => ?_
  rw [List.mem_range] at ht
  simp only [Function.comp_apply, decide_eq_decide]
  exact h t ht
theorem PQ_count (n m s : Nat) (hs : s = 1 ∨ s = 2) (hn : 1 ≤ n) : (rangeK 4 (3 * (n : Int) - 1) (ksQ n s)).length * m + outN n m s = n / s * m := by
  rcases hs with rfl | rfl
  · have h1 := rangeK_ksQ n 1 1 (n - 1) 4 (3 * (n : Int) - 1) (fun t ht => by omega)
    unfold outN
    rw [if_pos rfl, h1, Nat.div_one]
    rcases range_count 1 (n - 1) n with h | h
    · rw [h]
      by_cases h2 : 1 < n
      · rw [if_pos ⟨by omega, .inl ⟨rfl, h2⟩⟩, show min n (n - 1) - min n 1 = n - 2 by omega]
        have : n * m = (n - 2) * m + 2 * m := by rw [← Nat.add_mul]; congr 1; omega
        omega
      · rw [if_neg (by omega), show min n (n - 1) - min n 1 = 0 by omega]
        have : n = 1 := by omega
        subst this; omega
    · have h3 : n = 1 := by omega
      subst h3
      simp
  · have h1 := rangeK_ksQ n 2 0 ((n - 1) / 2) 4 (3 * (n : Int) - 1) (fun t ht => by omega)
    unfold outN
    rw [if_neg (by omega), h1]
    rcases range_count 0 ((n - 1) / 2) (n / 2) with h | h
    · rw [h]
      by_cases h2 : n % 2 = 0
      · rw [if_pos ⟨h2, .inr rfl⟩]
        have : n / 2 * m = (min (n / 2) ((n - 1) / 2) - min (n / 2) 0) * m + m := by rw [← Nat.succ_mul]; congr 1; omega
        omega
      · rw [if_neg (by omega)]
        have : n / 2 = min (n / 2) ((n - 1) / 2) - min (n / 2) 0 := by omega
        rw [← this]; omega
    · omega
theorem rd_valsI {i : Int} {c k : Nat} (h : k < c) : rd (valsI i c) (k : Int) = 7 * (k : Int) + i := by
  rw [rdN (by rw [valsI_len]; exact h)]
  simp [valsI]
theorem rd_ksQ {n s t : Nat} (h : t < n / s) : rd (ksQ n s) (t : Int) = 3 * ((s * (t + 1) : Nat) : Int) := by
  rw [rdN (by simpa using h)]
  simp
theorem keysR_PQ {n m s : Nat} (h : Good (PQ n m s)) : keysR (flatP (PQ n m s)) = ksQ n s := by rw [keysR_flatP h, PQ_keys]
theorem PQ_val {n m s : Nat} {x : Int × Int} (hs : s = 1 ∨ s = 2) (h : x ∈ flatP (PQ n m s)) : 1 ≤ x.1 ∧ 1 ≤ x.2 := by
  obtain ⟨p, hp, h1, h2⟩ := flatP_mem h
  obtain ⟨t, ht, rfl⟩ := List.mem_map.1 hp
  obtain ⟨κ, _, he⟩ := valsI_mem h2
  dsimp only at h1 he
  rcases hs with rfl | rfl <;> omega
theorem given_PQ {n m s : Nat} {mu : Mu Int} (hG : Good (PQ n m s)) (ho : mu.Of (flatP (PQ n m s))) (lo hi : Int) : given mu (flatP (PQ n m s)) lo hi = seqP (flatP (PQ n m s)) (rangeK lo hi (ksQ n s)) := by
  unfold given
  rw [Mu_keys ho (flatP_ok1 hG), keysR_PQ hG]
theorem given_PQ_len {n m s : Nat} {mu : Mu Int} (hs : s = 1 ∨ s = 2) (hG : Good (PQ n m s)) (ho : mu.Of (flatP (PQ n m s))) (lo hi : Int) : (given mu (flatP (PQ n m s)) lo hi).length = (rangeK lo hi (ksQ n s)).length * m := by
  rw [given_PQ hG ho]
  refine seqP_const fun k hk => ?_
  unfold rangeK at hk
  obtain ⟨t, ht, rfl⟩ := List.mem_map.1 (List.mem_filter.1 hk).1
  rw [getK_PQ hs (List.mem_range.1 ht), valsI_len]
theorem given_mem {mu : Mu Int} {l : List (Int × Int)} (ho : mu.Of l) {lo hi : Int} {x : Int × Int} (h : x ∈ given mu l lo hi) : x ∈ l := by
  rw [given_srt ho] at h
  exact (List.mem_filter.1 ((srt_ok lo hi l).2.mem_iff.1 h)).1
end Go.Proofs.Ytaofhbjlbdpjhaa
