/- Steps of a script, opened. -/
import Derived.Test.YtaofhbjlbdpjhaaTy
import Derived.Test.YtaofhbjlbdpjhaaSlB
import Derived.Test.YtaofhbjlbdpjhaaP1
set_option linter.unusedVariables false
set_option linter.unusedSimpArgs false
namespace Go.Proofs.Ytaofhbjlbdpjhaa
open Go Go.Sl Go.RowKit Go.ChangeShapes Go.WideElems Go.Deep
set_option maxRecDepth 100000

structure S6 where
  kind : Int
  obj : Int
  key : Int
  val : Int
  hi : Int
  stop : Int
instance : Inhabited S6 := ⟨⟨0, 0, 0, 0, 0, 0⟩⟩
def eT (s : S6) : List Value := [.int .i64 s.kind, .int .i64 s.obj, .int .i64 s.key, .int .i64 s.val, .int .i64 s.hi, .int .i64 s.stop]
theorem flatN_get {α : Type} {enc : α → List Value} {sz : Nat} (hz : ∀ x, (enc x).length = sz) (h0 : 0 < sz) : ∀ {xs : List α} {j : Nat} {v : Value}, (xs.flatMap enc)[j]? = some v → ∃ x, xs[j / sz]? = some x ∧ (enc x)[j % sz]? = some v
  | [], j, v, h => by simp at h
  | x :: xs, j, v, h => by
    rw [List.flatMap_cons] at h
    by_cases hj : j < sz
    · rw [List.getElem?_append_left (by rw [hz]; exact hj)] at h
      exact ⟨x, by rw [Nat.div_eq_of_lt hj]; rfl, by rw [Nat.mod_eq_of_lt hj]; exact h⟩
    · rw [List.getElem?_append_right (by rw [hz]; omega), hz] at h
      obtain ⟨y, h1, h2⟩ := flatN_get hz h0 h
      have e1 : j / sz = (j - sz) / sz + 1 := by
        have : j = (j - sz) + sz := by omega
        conv => lhs; rw [this]
        rw [Nat.add_div_right _ h0]
      have e2 : j % sz = (j - sz) % sz := by
        have : j = (j - sz) + sz := by omega
        conv => lhs; rw [this]
        rw [Nat.add_mod_right]
      exact ⟨y, by rw [e1]; simpa using h1, by rw [e2]; exact h2⟩
theorem open_steps {H : Type} {enc : TypeId × Value → H} {w : World} {base : Nat} {spare : Nat → Bool} {held : Bool} {v : Value} {d : DataW H} {ps : List MemPlace} {r : Reach} {rb : Nat} (hv : Value.okWide Try.prog w r rb 35 v) (h : DataW.Trod enc Try.prog w base spare held 35 v d ps) :
    ∃ (A : Option Addr) (xs : List S6) (c : Nat), v = .slice A xs.length c ∧ Rd eT w A xs ∧ xs.length ≤ c ∧ ∀ z ∈ xs, okI z.key ∧ okI z.val := by
  have ht := (ty_info (TOK 35 _ rfl)).1
  have he := (ty_info (TOK 46 _ rfl)).1
  have u3 := (ty_info (TOK 3 _ rfl)).1
  have ce : Try.prog.cellsOf 46 = 6 := by kernel_rfl
  have c3 : Try.prog.cellsOf 3 = 1 := by kernel_rfl
  obtain ⟨va, len, cap, rfl⟩ := Go.WideShapes.okWide_slice ht hv
  obtain ⟨n, hn⟩ := h
  rcases open_slice ht hn with ⟨h1, _⟩ | ⟨a, len', cap', m, n, D, Pl, h1, _, hl, hm, hmm, _, hcell⟩
  · cases h1
    exact ⟨none, [], 0, rfl, .inl rfl, Nat.le_refl _, fun z hz => by cases hz⟩
  · cases h1
    have hlm : len ≤ m := by rw [hmm]; split <;> omega
    obtain ⟨q, hq⟩ := choose_lt (α := S6) (n := len) (p := fun i s => (∀ k, k < 6 → w.cell? ((a.add (i * 6)).add k) = (eT s)[k]?) ∧ okI s.key ∧ okI s.val) (fun i hi => by
      obtain ⟨cs, g0, g1⟩ := hcell i (by omega)
      rw [ce] at g0
      obtain ⟨_, hlen, hc⟩ := World.cells?_some g0
      obtain ⟨xs, k, _, _, _, hxl, hf⟩ := DataW.trod_struct he g1
      match cs, hlen with
      | [v0, v1, v2, v3, v4, v5], _ =>
        have f0 := hf 0 _ rfl
        have f1 := hf 1 _ rfl
        have f2 := hf 2 _ rfl
        have f3 := hf 3 _ rfl
        have f4 := hf 4 _ rfl
        have f5 := hf 5 _ rfl
        match xs, hxl with
        | [y0, y1, y2, y3, y4, y5], _ =>
          simp [c3] at f0 f1 f2 f3 f4 f5
          obtain ⟨x0, e0, _, w0⟩ := DataW.trod_int u3 f0
          obtain ⟨x1, e1, _, w1⟩ := DataW.trod_int u3 f1
          obtain ⟨x2, e2, _, w2⟩ := DataW.trod_int u3 f2
          obtain ⟨x3, e3, _, w3⟩ := DataW.trod_int u3 f3
          obtain ⟨x4, e4, _, w4⟩ := DataW.trod_int u3 f4
          obtain ⟨x5, e5, _, w5⟩ := DataW.trod_int u3 f5
          simp only [List.cons.injEq, and_true] at e0 e1 e2 e3 e4 e5
          subst e0 e1 e2 e3 e4 e5
          exact ⟨⟨x0, x1, x2, x3, x4, x5⟩, hc, wf_i64 w2, wf_i64 w3⟩)
    have hl2 : ((List.range len).map q).length = len := by simp
    refine ⟨some a, (List.range len).map q, cap, by rw [hl2], ?_, by rw [hl2]; exact hl, ?_⟩
    · by_cases h0 : len = 0
      · exact .inl (by rw [h0]; rfl)
      · have hsp : a.spot = none := by
          have := (hq 0 (by omega)).1 0 (by omega)
          simpa [Addr.add] using World.cell?_spot this
        refine .inr ⟨a.block, a.off, by rw [← hsp], fun j u hj => ?_⟩
        obtain ⟨x, hx, hu⟩ := flatN_get (sz := 6) (fun _ => rfl) (by omega) hj
        obtain ⟨hj1, hj2⟩ := List.getElem?_eq_some_iff.1 hx
        simp only [List.getElem_map, List.getElem_range] at hj2
        rw [hl2] at hj1
        subst hj2
        have h6 := (hq (j / 6) hj1).1 (j % 6) (Nat.mod_lt _ (by omega))
        rw [hu, add_spot hsp, add_spot rfl] at h6
        rw [← h6]
        congr 2
        show a.off + j = a.off + j / 6 * 6 + j % 6
        omega
    · intro z hz
      simp only [List.mem_map, List.mem_range] at hz
      obtain ⟨i, hi, rfl⟩ := hz
      exact (hq i hi).2
end Go.Proofs.Ytaofhbjlbdpjhaa
