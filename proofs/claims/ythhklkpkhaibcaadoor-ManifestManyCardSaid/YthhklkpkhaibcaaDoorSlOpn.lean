/- Arguments of a law opened by what they are made of: numbers, texts, lists, structures, each with the bytes that memory can hold. -/
import Derived.Test.YthhklkpkhaibcaaDoorSlText
import Derived.SizedLaws
set_option linter.unusedVariables false
set_option linter.unusedSimpArgs false
namespace Go.Sl
open Go.RowKit Go.ChangeShapes Go.WideElems Go.Deep

/-- Whatever reads at this type lies as an `a` does, and `ok` holds of it. -/
structure Opn (P : Program) {α : Type} (t : TypeId) (enc : α → List Value) (ok : World → α → Prop) : Prop where
  get : ∀ {H : Type} {e : TypeId × Value → H} {w : World} {base : Nat} {spare : Nat → Bool} {held : Bool} {fuel : Nat} {cs : List Value} {x : DataW H × List MemPlace},
    DataW.trod e P w base spare held fuel t cs = some x → (∀ n ∈ x.1.weights P t, n ≤ reachBytes) → ∃ a, cs = enc a ∧ ok w a
section
variable {P : Program} {α β : Type} {t u : TypeId}
theorem Opn.map {enc : α → List Value} {ok : World → α → Prop} {enc' : β → List Value} {ok' : World → β → Prop} (h : Opn P t enc ok) (g : α → β) (he : ∀ w a, ok w a → enc a = enc' (g a)) (hk : ∀ w a, ok w a → ok' w (g a)) : Opn P t enc' ok' := by
  constructor; intro H e w base spare held fuel cs x hx hw
  obtain ⟨a, rfl, h1⟩ := h.get hx hw
  exact ⟨g a, he w a h1, hk w a h1⟩
theorem opn_int {k : IntKind} (ht : P.underlying t = some (.int k)) : Opn P t (fun n : Int => [.int k n]) (fun _ n => (Lit.int k n).wf = true) := by
  constructor; intro H e w base spare held fuel cs x hx _
  obtain ⟨n, h1, _, h2⟩ := DataW.trod_int ht hx
  exact ⟨n, h1, h2⟩
theorem opn_i64 (ht : P.underlying t = some (.int .i64)) : Opn P t (fun n : Int => [.int .i64 n]) (fun _ n => -9223372036854775808 ≤ n ∧ n ≤ 9223372036854775807) :=
  Opn.map (opn_int ht) id (fun _ _ _ => rfl) (fun _ _ h => wf_i64 h)
theorem opn_u8 (ht : P.underlying t = some (.int .u8)) : Opn P t eB (fun _ _ => True) :=
  Opn.map (opn_int ht) (fun n => UInt8.ofNat n.toNat) (fun _ n h => by
    have := wf_u8 h
    unfold eB
    rw [UInt8.toNat_ofNat', Nat.mod_eq_of_lt (by omega), Int.toNat_of_nonneg this.1]) (fun _ _ _ => trivial)
theorem opn_bool (ht : P.underlying t = some .bool) : Opn P t (fun b : Bool => [.bool b]) (fun _ _ => True) := by
  constructor; intro H e w base spare held fuel cs x hx _
  obtain ⟨n, h1, _⟩ := DataW.trod_bool ht hx
  exact ⟨n, h1, trivial⟩
theorem opn_text (ht : P.underlying t = some .string) : Opn P t eN (fun _ n => n.length ≤ 140737488355328) := by
  constructor; intro H e w base spare held fuel cs x hx hw
  obtain ⟨s, h1, rfl, h2⟩ := DataW.trod_string ht hx
  have := hw s.data.toList.length (by simp [DataW.weights])
  have := @reachBytes_lt
  refine ⟨s.data.toList, h1, by omega⟩
/-- A list as it lies. -/
structure Lst (α : Type) where
  A : Option Addr
  c : Nat
  l : List α
  deriving Inhabited
def eLst (s : Lst α) : List Value := [.slice s.A s.l.length s.c]
theorem flat_at {enc : α → List Value} {sz : Nat} (hz : ∀ x, (enc x).length = sz) : ∀ {xs : List α} {j : Nat} {v : Value}, (xs.flatMap enc)[j]? = some v → ∃ (i k : Nat) (x : α), xs[i]? = some x ∧ (enc x)[k]? = some v ∧ j = i * sz + k ∧ k < sz
  | [], j, v, h => by simp at h
  | y :: xs, j, v, h => by
    rw [List.flatMap_cons] at h
    by_cases hj : j < sz
    · rw [List.getElem?_append_left (by rw [hz]; exact hj)] at h
      exact ⟨0, j, y, rfl, h, by omega, hj⟩
    · rw [List.getElem?_append_right (by rw [hz]; omega), hz] at h
      obtain ⟨i, k, x, h1, h2, h3, h4⟩ := flat_at hz h
      exact ⟨i + 1, k, x, by simpa using h1, h2, by rw [Nat.add_mul]; omega, h4⟩
theorem weightsAll_mem {H : Type} {e : TypeId} : ∀ {l : List (DataW H)} {d : DataW H}, d ∈ l → ∀ n ∈ d.weights P e, n ∈ DataW.weightsAll P e l
  | y :: l, d, hd, n, hn => by
    simp only [DataW.weightsAll, List.mem_append]
    rcases List.mem_cons.1 hd with rfl | hd
    · exact Or.inl hn
    · exact Or.inr (weightsAll_mem hd n hn)
theorem opn_list [Inhabited α] {enc : α → List Value} {ok : World → α → Prop} {sz : Nat} (hz : ∀ x, (enc x).length = sz) (h0 : 0 < sz) (ht : P.underlying t = some (.slice u)) (hc : P.cellsOf u = sz) (h : Opn P u enc ok) :
    Opn P t eLst (fun w s => Rd enc w s.A s.l ∧ s.l.length ≤ s.c ∧ s.c ≤ maxLen ∧ s.l.length * P.bytesOf u ≤ reachBytes ∧ ∀ a ∈ s.l, ok w a) := by
  constructor; intro H e w base spare held fuel cs x hx hw
  rcases open_slice ht hx with ⟨rfl, rfl⟩ | ⟨a, len, cap, m, n, D, Pl, rfl, _, hl, hm, hmm, rfl, hcell⟩
  · exact ⟨⟨none, 0, []⟩, rfl, .inl rfl, Nat.le_refl _, by simp [maxLen], by simp, fun a ha => by cases ha⟩
  · have hlm : len ≤ m := by rw [hmm]; split <;> omega
    have hw1 : ∀ i, i < len → ∀ n ∈ (D i).weights P u, n ≤ reachBytes := fun i hi n hn => hw n (by
      simp only [DataW.weights, ht, List.mem_cons, List.mem_append]
      exact .inr (.inl (weightsAll_mem (List.mem_map.2 ⟨i, List.mem_range.2 hi, rfl⟩) n hn)))
    have hw2 : len * P.bytesOf u ≤ reachBytes := by
      have := hw ((len + (m - len)) * P.bytesOf u) (by simp [DataW.weights, ht])
      exact Nat.le_trans (Nat.mul_le_mul_right _ (Nat.le_add_right _ _)) this
    obtain ⟨q, hq⟩ := choose_lt (α := α) (n := len) (p := fun i q => (∀ k v, (enc q)[k]? = some v → w.cell? (a.add (i * sz + k)) = some v) ∧ ok w q) (fun i hi => by
      obtain ⟨cs, g0, g1⟩ := hcell i (by omega)
      rw [hc] at g0
      obtain ⟨_, hlen, hce⟩ := World.cells?_some g0
      obtain ⟨q, rfl, hk⟩ := h.get g1 (hw1 i hi)
      refine ⟨q, fun k v hv => ?_, hk⟩
      have hk1 : k < sz := by rw [← hz q]; exact (List.getElem?_eq_some_iff.1 hv).1
      have := hce k hk1
      rw [add_add] at this
      rw [this, hv])
    have hl2 : ((List.range len).map q).length = len := by simp
    refine ⟨⟨some a, cap, (List.range len).map q⟩, by simp [eLst], ?_, by simpa using hl, hm, by simpa using hw2, ?_⟩
    · by_cases h1 : len = 0
      · exact .inl (by dsimp only; rw [h1]; rfl)
      · have hsp : a.spot = none := by
          obtain ⟨v, hv⟩ : ∃ v, (enc (q 0))[0]? = some v := ⟨_, List.getElem?_eq_getElem (by rw [hz]; exact h0)⟩
          simpa [Addr.add] using World.cell?_spot ((hq 0 (by omega)).1 0 v hv)
        refine .inr ⟨a.block, a.off, by dsimp only; rw [← hsp], fun j v hj => ?_⟩
        obtain ⟨i, k, y, h2, h3, rfl, h4⟩ := flat_at hz hj
        obtain ⟨hi1, hi2⟩ := List.getElem?_eq_some_iff.1 h2
        simp only [List.getElem_map, List.getElem_range] at hi2
        dsimp only at hi1
        rw [hl2] at hi1
        subst hi2
        have := (hq i hi1).1 k v h3
        rw [add_spot hsp] at this
        exact this
    · intro y hy
      obtain ⟨i, hi, rfl⟩ := List.mem_map.1 hy
      exact (hq i (List.mem_range.1 hi)).2
/-- The fields of a structure from a place on. -/
structure OpnF (P : Program) {α : Type} (off : Nat) (fs : List Field) (enc : α → List Value) (ok : World → α → Prop) : Prop where
  get : ∀ {H : Type} {e : TypeId × Value → H} {w : World} {base : Nat} {spare : Nat → Bool} {held : Bool} {fuel : Nat} {cs : List Value} {xs : List (DataW H × List MemPlace)},
    (∀ (i : Nat) (f : Field), fs[i]? = some f → DataW.trod e P w base spare held fuel f.type ((cs.drop f.offset).take (P.cellsOf f.type)) = xs[i]?) → xs.length = fs.length → cs.length = off + (fs.map fun f => P.cellsOf f.type).sum →
    (∀ n ∈ DataW.weightsEach P (fs.map (·.type)) (xs.map (·.1)), n ≤ reachBytes) → ∃ a, cs.drop off = enc a ∧ ok w a
theorem OpnF.nil {off : Nat} : OpnF P off [] (fun _ : Unit => []) (fun _ _ => True) := by
  constructor; intro H e w base spare held fuel cs xs _ _ hl _
  exact ⟨(), List.drop_eq_nil_of_le (by simp at hl; omega), trivial⟩
theorem OpnF.cons {off k : Nat} {f : Field} {fs : List Field} {enc : α → List Value} {ok : World → α → Prop} {enc' : β → List Value} {ok' : World → β → Prop} (ho : f.offset = off) (hc : P.cellsOf f.type = k) (h : Opn P f.type enc ok) (h' : OpnF P (off + k) fs enc' ok') :
    OpnF P off (f :: fs) (fun p : α × β => enc p.1 ++ enc' p.2) (fun w p => ok w p.1 ∧ ok' w p.2) := by
  constructor; intro H e w base spare held fuel cs xs hx hxl hl hw
  match xs, hxl with
  | x :: xs, hxl =>
    have g0 := hx 0 f rfl
    simp only [List.getElem?_cons_zero] at g0
    rw [ho, hc] at g0
    simp only [List.map_cons, DataW.weightsEach, List.mem_append] at hw
    obtain ⟨a, e1, k1⟩ := h.get g0 (fun n hn => hw n (.inl hn))
    obtain ⟨b, e2, k2⟩ := h'.get (cs := cs) (xs := xs) (fun i f' hf' => by simpa using hx (i + 1) f' (by simpa using hf')) (by simpa using hxl) (by simp at hl; rw [hc] at hl; omega) (fun n hn => hw n (.inr hn))
    refine ⟨(a, b), ?_, k1, k2⟩
    dsimp only
    rw [← e1, ← e2, ← List.drop_drop, List.take_append_drop]
theorem OpnF.struct {fs : Array Field} {l : List Field} {enc : α → List Value} {ok : World → α → Prop} (ht : P.underlying t = some (.struct fs)) (hl : fs.toList = l) (hc : P.cellsOf t = (l.map fun f => P.cellsOf f.type).sum) (h : OpnF P 0 l enc ok) : Opn P t enc ok := by
  constructor; intro H e w base spare held fuel cs x hx hw
  obtain ⟨xs, n, rfl, rfl, hcl, hxl, hf⟩ := DataW.trod_struct ht hx
  subst hl
  simp only [DataW.weights, ht] at hw
  obtain ⟨a, e1, k1⟩ := h.get (cs := cs) (xs := xs) (fun i f hi => hf i f (by simpa using hi)) (by simpa using hxl) (by omega) hw
  exact ⟨a, by simpa using e1, k1⟩
/-- A parameter of a law. -/
theorem Opn.arg {enc : α → List Value} {ok : World → α → Prop} (h : Opn P t enc ok) {H : Type} {e : TypeId × Value → H} {w : World} {base : Nat} {spare : Nat → Bool} {held : Bool} {v : Value} {d : DataW H} {ps : List MemPlace} {ts : List TypeId} {ds : List (DataW H)} {j : Nat}
    (hx : DataW.Trod e P w base spare held t v d ps) (hw : (DataW.weightsEach P ts ds).all (· ≤ reachBytes) = true) (ht : ts[j]? = some t) (hd : ds[j]? = some d) : ∃ a, v.cells.toList = enc a ∧ ok w a := by
  obtain ⟨fuel, hx⟩ := hx
  exact h.get hx (fun n hn => by simpa using List.all_eq_true.1 hw _ (DataW.weights_mem_each ht hd n hn))
end
end Go.Sl
