/- Arguments of a law, opened: rows of bytes, of integers, of pairs of integers. -/
import Derived.Test.YtaofhbjlbdpjhaaSlLaw
import Derived.Test.YtaofhbjlbdpjhaaSlRows
import Derived.ChangeSlices
import Derived.Deep.SlicePairs
set_option linter.unusedVariables false
set_option linter.unusedSimpArgs false
namespace Go.Sl
open Go.RowKit Go.ChangeShapes Go.WideElems Go.Deep

section
variable {H : Type} {enc : TypeId × Value → H} {P : Program} {w : World} {base : Nat} {spare : Nat → Bool} {held : Bool} {t e : TypeId} {v : Value} {d : DataW H} {ps : List MemPlace}
theorem wf_u8 {n : Int} (h : (Lit.int .u8 n).wf = true) : 0 ≤ n ∧ n < 256 := by
  simp only [Lit.wf, Bool.and_eq_true, decide_eq_true_eq] at h
  have h1 : IntKind.u8.min = 0 := by decide
  have h2 : IntKind.u8.max = 255 := by decide
  omega
theorem wf_i64 {n : Int} (h : (Lit.int .i64 n).wf = true) : -9223372036854775808 ≤ n ∧ n ≤ 9223372036854775807 := by
  simp only [Lit.wf, Bool.and_eq_true, decide_eq_true_eq] at h
  have h1 : IntKind.i64.min = -9223372036854775808 := by decide
  have h2 : IntKind.i64.max = 9223372036854775807 := by decide
  omega
theorem flat1_get {α : Type} {f : α → Value} : ∀ {xs : List α} {j : Nat} {v : Value}, (xs.flatMap fun x => [f x])[j]? = some v → ∃ x, xs[j]? = some x ∧ v = f x
  | [], _, _, h => by simp at h
  | x :: xs, 0, v, h => by simp at h; exact ⟨x, rfl, h.symm⟩
  | x :: xs, j + 1, v, h => by simpa using flat1_get (xs := xs) (j := j) (v := v) (by simpa using h)
theorem flat2_get {α : Type} {f g : α → Value} : ∀ {xs : List α} {j : Nat} {v : Value}, (xs.flatMap fun x => [f x, g x])[j]? = some v → ∃ x, xs[j / 2]? = some x ∧ v = if j % 2 = 0 then f x else g x
  | [], _, _, h => by simp at h
  | x :: xs, 0, v, h => by simp at h; exact ⟨x, rfl, by simp [h]⟩
  | x :: xs, 1, v, h => by simp at h; exact ⟨x, rfl, by simp [h]⟩
  | x :: xs, j + 2, v, h => by
    obtain ⟨y, h1, h2⟩ := flat2_get (xs := xs) (j := j) (v := v) (by simpa using h)
    refine ⟨y, ?_, ?_⟩
    · rw [show (j + 2) / 2 = j / 2 + 1 by omega]; simpa using h1
    · rw [show (j + 2) % 2 = j % 2 by omega]; exact h2
theorem add_spot {a : Addr} (h : a.spot = none) (j : Nat) : a.add j = ⟨a.block, a.off + j, none⟩ := by
  obtain ⟨x, y, z⟩ := a
  dsimp only at h
  subst h
  simp [Addr.add]
/-- A row of integers of a kind. -/
theorem open_row (k : IntKind) (ht : P.underlying t = some (.slice e)) (he : P.underlying e = some (.int k)) (hc : P.cellsOf e = 1) {r : Reach} {rb : Nat} (hv : Value.okWide P w r rb t v) (h : DataW.Trod enc P w base spare held t v d ps) :
    ∃ (A : Option Addr) (zs : List Int) (c : Nat), v = .slice A zs.length c ∧ Rd (fun z => [.int k z]) w A zs ∧ zs.length ≤ c ∧ c ≤ maxLen ∧ ∀ z ∈ zs, (Lit.int k z).wf = true := by
  obtain ⟨va, len, cap, rfl⟩ := Go.WideShapes.okWide_slice ht hv
  obtain ⟨n, hn⟩ := h
  rcases open_ints ht he hc hn with ⟨h1, _⟩ | ⟨a, len', cap', zs, h1, _, hl, hm, hz, _, hcell, hwf⟩
  · cases h1
    exact ⟨none, [], 0, rfl, .inl rfl, Nat.le_refl _, by simp [maxLen], fun z hz => by cases hz⟩
  · cases h1
    have hlen : len ≤ zs.length := by rw [hz]; split <;> omega
    have hl2 : (zs.take len).length = len := by simp; omega
    refine ⟨some a, zs.take len, cap, by rw [hl2], ?_, by rw [hl2]; exact hl, hm, fun z hz => hwf z (List.mem_of_mem_take hz)⟩
    by_cases h0 : len = 0
    · exact .inl (by rw [h0]; rfl)
    · have hsp : a.spot = none := by simpa [Addr.add] using World.cell?_spot (hcell 0 (by omega))
      refine .inr ⟨a.block, a.off, by rw [← hsp], fun j u hj => ?_⟩
      obtain ⟨x, hx, rfl⟩ := flat1_get hj
      obtain ⟨hj1, hj2⟩ := List.getElem?_eq_some_iff.1 hx
      have hj3 : j < zs.length := by rw [hl2] at hj1; omega
      have := hcell j hj3
      rw [add_spot hsp] at this
      rw [this]
      rw [List.getElem_take] at hj2
      simp [List.getD, hj3, hj2]
theorem open_bytes8 (ht : P.underlying t = some (.slice e)) (he : P.underlying e = some (.int .u8)) (hc : P.cellsOf e = 1) {r : Reach} {rb : Nat} (hv : Value.okWide P w r rb t v) (h : DataW.Trod enc P w base spare held t v d ps) :
    ∃ (A : Option Addr) (b : List UInt8) (c : Nat), v = .slice A b.length c ∧ Rd eB w A b ∧ b.length ≤ c ∧ c ≤ maxLen := by
  obtain ⟨A, zs, c, rfl, hr, hc1, hc2, hw⟩ := open_row .u8 ht he hc hv h
  obtain ⟨b, rfl⟩ : ∃ b : List UInt8, zs = b.map fun x => (x.toNat : Int) := by
    clear hr hc1 h hv
    induction zs with
    | nil => exact ⟨[], rfl⟩
    | cons z zs ih =>
      obtain ⟨b, rfl⟩ := ih fun y hy => hw y (List.mem_cons_of_mem _ hy)
      have := wf_u8 (hw z List.mem_cons_self)
      refine ⟨UInt8.ofNat z.toNat :: b, ?_⟩
      simp only [List.map_cons, UInt8.toNat_ofNat']
      rw [show z.toNat % 2 ^ 8 = z.toNat from Nat.mod_eq_of_lt (by omega)]
      congr 1; omega
  refine ⟨A, b, c, by simp, ?_, by simpa using hc1, hc2⟩
  have e1 : (b.map fun x => (x.toNat : Int)).flatMap (fun z => [Value.int .u8 z]) = b.flatMap eB := by
    rw [List.flatMap_map]; rfl
  rcases hr with hr | ⟨bb, o, hA, hr⟩
  · exact .inl (by simpa using hr)
  · rw [e1] at hr; exact .inr ⟨bb, o, hA, hr⟩
theorem open_i64s (ht : P.underlying t = some (.slice e)) (he : P.underlying e = some (.int .i64)) (hc : P.cellsOf e = 1) {r : Reach} {rb : Nat} (hv : Value.okWide P w r rb t v) (h : DataW.Trod enc P w base spare held t v d ps) :
    ∃ (A : Option Addr) (xs : List Int) (c : Nat), v = .slice A xs.length c ∧ Rd eI w A xs ∧ xs.length ≤ c ∧ c ≤ maxLen ∧ ∀ z ∈ xs, -9223372036854775808 ≤ z ∧ z ≤ 9223372036854775807 := by
  obtain ⟨A, zs, c, rfl, hr, hc1, hc2, hw⟩ := open_row .i64 ht he hc hv h
  exact ⟨A, zs, c, rfl, hr, hc1, hc2, fun z hz => wf_i64 (hw z hz)⟩
/-- A row of pairs of integers. -/
theorem open_pairs64 {f0 f1 : Field} (ht : P.underlying t = some (.slice e)) (he : P.underlying e = some (.struct #[f0, f1])) (ce : P.cellsOf e = 2) (o0 : f0.offset = 0) (o1 : f1.offset = 1)
    (c0 : P.cellsOf f0.type = 1) (c1 : P.cellsOf f1.type = 1) (u0 : P.underlying f0.type = some (.int .i64)) (u1 : P.underlying f1.type = some (.int .i64)) {r : Reach} {rb : Nat} (hv : Value.okWide P w r rb t v) (h : DataW.Trod enc P w base spare held t v d ps) :
    ∃ (A : Option Addr) (xs : List (Int × Int)) (c : Nat), v = .slice A xs.length c ∧ Rd eP w A xs ∧ xs.length ≤ c ∧ c ≤ maxLen ∧ ∀ z ∈ xs, (-9223372036854775808 ≤ z.1 ∧ z.1 ≤ 9223372036854775807) ∧ (-9223372036854775808 ≤ z.2 ∧ z.2 ≤ 9223372036854775807) := by
  obtain ⟨va, len, cap, rfl⟩ := Go.WideShapes.okWide_slice ht hv
  obtain ⟨n, hn⟩ := h
  rcases open_slice_pairs ht he ce o0 o1 c0 c1 hn with ⟨h1, _⟩ | ⟨a, len', cap', m, n, V0, V1, D0, D1, P0, P1, h1, _, hl, hm, hmm, _, hcell⟩
  · cases h1
    exact ⟨none, [], 0, rfl, .inl rfl, Nat.le_refl _, by simp [maxLen], fun z hz => by cases hz⟩
  · cases h1
    have hlm : len ≤ m := by rw [hmm]; split <;> omega
    obtain ⟨q, hq⟩ := choose_lt (α := Int × Int) (n := len) (p := fun i q => w.cell? (a.add (i * 2)) = some (.int .i64 q.1) ∧ w.cell? (a.add (i * 2 + 1)) = some (.int .i64 q.2) ∧ (-9223372036854775808 ≤ q.1 ∧ q.1 ≤ 9223372036854775807) ∧ (-9223372036854775808 ≤ q.2 ∧ q.2 ≤ 9223372036854775807)) (fun i hi => by
      obtain ⟨g0, g1, g2, g3⟩ := hcell i (by omega)
      obtain ⟨x, e2, _, w2⟩ := DataW.trod_int u0 g2
      obtain ⟨y, e3, _, w3⟩ := DataW.trod_int u1 g3
      simp only [List.cons.injEq, and_true] at e2 e3
      rw [e2] at g0; rw [e3] at g1
      exact ⟨(x, y), g0, g1, wf_i64 w2, wf_i64 w3⟩)
    have hl2 : ((List.range len).map q).length = len := by simp
    refine ⟨some a, (List.range len).map q, cap, by rw [hl2], ?_, by rw [hl2]; exact hl, hm, ?_⟩
    · by_cases h0 : len = 0
      · exact .inl (by rw [h0]; rfl)
      · have hsp : a.spot = none := by simpa [Addr.add] using World.cell?_spot (hq 0 (by omega)).1
        refine .inr ⟨a.block, a.off, by rw [← hsp], fun j u hj => ?_⟩
        obtain ⟨x, hx, rfl⟩ := flat2_get (f := fun p : Int × Int => .int .i64 p.1) (g := fun p : Int × Int => .int .i64 p.2) hj
        obtain ⟨hj1, hj2⟩ := List.getElem?_eq_some_iff.1 hx
        simp only [List.getElem_map, List.getElem_range] at hj2
        rw [hl2] at hj1
        subst hj2
        have hqq := hq (j / 2) hj1
        split
        · rename_i hj0
          have := hqq.1
          rw [show j / 2 * 2 = j by omega, add_spot hsp] at this
          exact this
        · rename_i hj0
          have := hqq.2.1
          rw [show j / 2 * 2 + 1 = j by omega, add_spot hsp] at this
          exact this
    · intro z hz
      simp only [List.mem_map, List.mem_range] at hz
      obtain ⟨i, hi, rfl⟩ := hz
      exact (hq i hi).2.2
end
end Go.Sl
