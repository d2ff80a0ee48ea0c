/- Arguments of a law opened, with the bulk of what is read. -/
import Derived.Test.YtoodgenbcfdloaaO1
import Derived.Test.YtoodgenbcfdloaaRows
import Derived.Test.YtoodgenbcfdloaaG4
set_option linter.unusedVariables false
set_option linter.unusedSimpArgs false
namespace Go.Proofs.Ytoodgenbcfdloaa
open Go Go.Sl Go.RowKit Go.ChangeShapes Go.WideElems Go.Deep
theorem bulk_pos {H : Type} (d : DataW H) : 1 ≤ Rows.uptoBulk d := by
  cases d with
  | lit l => cases l <;> simp [Rows.uptoBulk]
  | _ => simp [Rows.uptoBulk]
theorem bulkAll_map {H β : Type} {f : β → Nat} {D : β → DataW H} : ∀ {l : List β}, (∀ x ∈ l, f x ≤ Rows.uptoBulk (D x)) → (l.map f).sum ≤ Rows.uptoBulkAll (l.map D)
  | [], _ => by simp
  | x :: l, h => by
    have h1 := h x (by simp)
    have h2 := bulkAll_map (l := l) fun y hy => h y (by simp [hy])
    simp only [List.map_cons, List.sum_cons, Rows.uptoBulkAll]
    omega
theorem bulkAll_mem {H : Type} : ∀ {l : List (DataW H)} {d : DataW H}, d ∈ l → Rows.uptoBulk d ≤ Rows.uptoBulkAll l
  | x :: l, d, h => by
    simp only [Rows.uptoBulkAll]
    rcases List.mem_cons.1 h with rfl | h
    · omega
    · have := bulkAll_mem h; omega
/-- Whatever reads at this type lies as an `a` does, `ok` holds of it, and its bulk is at least `bk a`. -/
structure OpnB (P : Program) {α : Type} (t : TypeId) (enc : α → List Value) (ok : World → α → Prop) (bk : α → Nat) : Prop where
  get : ∀ {H : Type} {e : TypeId × Value → H} {w : World} {base : Nat} {spare : Nat → Bool} {held : Bool} {fuel : Nat} {cs : List Value} {x : DataW H × List MemPlace},
    DataW.trod e P w base spare held fuel t cs = some x → (∀ n ∈ x.1.weights P t, n ≤ reachBytes) → ∃ a, cs = enc a ∧ ok w a ∧ bk a ≤ Rows.uptoBulk x.1
section
variable {P : Program} {α β : Type} {t u : TypeId}
theorem OpnB.of {enc : α → List Value} {ok : World → α → Prop} (h : Opn P t enc ok) : OpnB P t enc ok (fun _ => 1) := by
  constructor; intro H e w base spare held fuel cs x hx hw
  obtain ⟨a, h1, h2⟩ := h.get hx hw
  exact ⟨a, h1, h2, bulk_pos _⟩
theorem OpnB.map {enc : α → List Value} {ok : World → α → Prop} {bk : α → Nat} {enc' : β → List Value} {ok' : World → β → Prop} {bk' : β → Nat} (h : OpnB P t enc ok bk) (g : α → β) (he : ∀ w a, ok w a → enc a = enc' (g a)) (hk : ∀ w a, ok w a → ok' w (g a)) (hb : ∀ a, bk' (g a) ≤ bk a) : OpnB P t enc' ok' bk' := by
  constructor; intro H e w base spare held fuel cs x hx hw
  obtain ⟨a, rfl, h1, h2⟩ := h.get hx hw
  exact ⟨g a, he w a h1, hk w a h1, Nat.le_trans (hb a) h2⟩
theorem opnB_text (ht : P.underlying t = some .string) : OpnB P t eN (fun _ n => n.length ≤ 140737488355328) (fun n => n.length) := by
  constructor; intro H e w base spare held fuel cs x hx hw
  obtain ⟨s, h1, rfl, h2⟩ := DataW.trod_string ht hx
  have := hw s.data.toList.length (by simp [DataW.weights])
  have := @reachBytes_lt
  refine ⟨s.data.toList, h1, by omega, by simp [Rows.uptoBulk]⟩
theorem opnB_list [Inhabited α] {enc : α → List Value} {ok : World → α → Prop} {bk : α → Nat} {sz : Nat} (hz : ∀ x, (enc x).length = sz) (h0 : 0 < sz) (ht : P.underlying t = some (.slice u)) (hc : P.cellsOf u = sz) (h : OpnB P u enc ok bk) :
    OpnB P t eLst (fun w s => Rd enc w s.A s.l ∧ s.l.length ≤ s.c ∧ s.c ≤ maxLen ∧ s.l.length * P.bytesOf u ≤ reachBytes ∧ ∀ a ∈ s.l, ok w a) (fun s => (s.l.map fun a => max 1 (bk a)).sum) := by
  constructor; intro H e w base spare held fuel cs x hx hw
  rcases open_slice ht hx with ⟨rfl, rfl⟩ | ⟨a, len, cap, m, n, D, Pl, rfl, hxe, hl, hm, hmm, rfl, hcell⟩
  · exact ⟨⟨none, 0, []⟩, rfl, ⟨.inl rfl, Nat.le_refl _, by simp [maxLen], by simp, fun a ha => by cases ha⟩, by simp⟩
  · have hlm : len ≤ m := by rw [hmm]; split <;> omega
    have hw1 : ∀ i, i < len → ∀ n ∈ (D i).weights P u, n ≤ reachBytes := fun i hi n hn => hw n (by
      simp only [DataW.weights, ht, List.mem_cons, List.mem_append]
      exact .inr (.inl (weightsAll_mem (List.mem_map.2 ⟨i, List.mem_range.2 hi, rfl⟩) n hn)))
    have hw2 : len * P.bytesOf u ≤ reachBytes := by
      have := hw ((len + (m - len)) * P.bytesOf u) (by simp [DataW.weights, ht])
      exact Nat.le_trans (Nat.mul_le_mul_right _ (Nat.le_add_right _ _)) this
    obtain ⟨q, hq⟩ := choose_lt (α := α) (n := len) (p := fun i q => (∀ k v, (enc q)[k]? = some v → w.cell? (a.add (i * sz + k)) = some v) ∧ ok w q ∧ bk q ≤ Rows.uptoBulk (D i)) (fun i hi => by
      obtain ⟨cs, g0, g1⟩ := hcell i (by omega)
      rw [hc] at g0
      obtain ⟨_, hlen, hce⟩ := World.cells?_some g0
      obtain ⟨q, rfl, hk, hb⟩ := h.get g1 (hw1 i hi)
      refine ⟨q, fun k v hv => ?_, hk, hb⟩
      have hk1 : k < sz := by rw [← hz q]; exact (List.getElem?_eq_some_iff.1 hv).1
      have := hce k hk1
      rw [add_add] at this
      rw [this, hv])
    have hl2 : ((List.range len).map q).length = len := by simp
    refine ⟨⟨some a, cap, (List.range len).map q⟩, by simp [eLst], ⟨?_, by simpa using hl, hm, by simpa using hw2, ?_⟩, ?_⟩
    · by_cases h1 : len = 0
      · exact .inl (by dsimp only; rw [h1]; rfl)
      · have hsp : a.spot = none := by
          obtain ⟨v, hv⟩ : ∃ v, (enc (q 0))[0]? = some v := ⟨_, List.getElem?_eq_getElem (by rw [hz]; exact h0)⟩
          simpa [Addr.add] using World.cell?_spot ((hq 0 (by omega)).1 0 v hv)
        refine .inr ⟨a.block, a.off, by dsimp only; rw [← hsp], fun j v hj => ?_⟩
        obtain ⟨i, k, y, h2, h3, rfl, h4⟩ := flat_at hz hj
        obtain ⟨hi1, hi2⟩ := List.getElem?_eq_some_iff.1 h2
        simp only [List.getElem_map, List.getElem_range] at hi2
        dsimp only at hi1
        rw [hl2] at hi1
        subst hi2
        have := (hq i hi1).1 k v h3
        rw [add_spot hsp] at this
        exact this
    · intro y hy
      obtain ⟨i, hi, rfl⟩ := List.mem_map.1 hy
      exact (hq i (List.mem_range.1 hi)).2.1
    · simp only [Rows.uptoBulk, List.map_map]
      have := bulkAll_map (l := List.range len) (f := (fun a => max 1 (bk a)) ∘ q) (D := D) (fun i hi => by
        have h1 := (hq i (List.mem_range.1 hi)).2.2
        have h2 := bulk_pos (D i)
        simp only [Function.comp]
        omega)
      omega
/-- The fields of a structure from a place on. -/
structure OpnFB (P : Program) {α : Type} (off : Nat) (fs : List Field) (enc : α → List Value) (ok : World → α → Prop) (bk : α → Nat) : Prop where
  get : ∀ {H : Type} {e : TypeId × Value → H} {w : World} {base : Nat} {spare : Nat → Bool} {held : Bool} {fuel : Nat} {cs : List Value} {xs : List (DataW H × List MemPlace)},
    (∀ (i : Nat) (f : Field), fs[i]? = some f → DataW.trod e P w base spare held fuel f.type ((cs.drop f.offset).take (P.cellsOf f.type)) = xs[i]?) → xs.length = fs.length → cs.length = off + (fs.map fun f => P.cellsOf f.type).sum →
    (∀ n ∈ DataW.weightsEach P (fs.map (·.type)) (xs.map (·.1)), n ≤ reachBytes) → ∃ a, cs.drop off = enc a ∧ ok w a ∧ bk a ≤ Rows.uptoBulkAll (xs.map (·.1))
theorem OpnFB.nil {off : Nat} : OpnFB P off [] (fun _ : Unit => []) (fun _ _ => True) (fun _ => 0) := by
  constructor; intro H e w base spare held fuel cs xs _ _ hl _
  exact ⟨(), List.drop_eq_nil_of_le (by simp at hl; omega), trivial, Nat.zero_le _⟩
theorem OpnFB.cons {off k : Nat} {f : Field} {fs : List Field} {enc : α → List Value} {ok : World → α → Prop} {bk : α → Nat} {enc' : β → List Value} {ok' : World → β → Prop} {bk' : β → Nat} (ho : f.offset = off) (hc : P.cellsOf f.type = k) (h : OpnB P f.type enc ok bk) (h' : OpnFB P (off + k) fs enc' ok' bk') :
    OpnFB P off (f :: fs) (fun p : α × β => enc p.1 ++ enc' p.2) (fun w p => ok w p.1 ∧ ok' w p.2) (fun p => bk p.1 + bk' p.2) := by
  constructor; intro H e w base spare held fuel cs xs hx hxl hl hw
  match xs, hxl with
  | x :: xs, hxl =>
    have g0 := hx 0 f rfl
    simp only [List.getElem?_cons_zero] at g0
    rw [ho, hc] at g0
    simp only [List.map_cons, DataW.weightsEach, List.mem_append] at hw
    obtain ⟨a, e1, k1, b1⟩ := h.get g0 (fun n hn => hw n (.inl hn))
    obtain ⟨b, e2, k2, b2⟩ := h'.get (cs := cs) (xs := xs) (fun i f' hf' => by simpa using hx (i + 1) f' (by simpa using hf')) (by simpa using hxl) (by simp at hl; rw [hc] at hl; omega) (fun n hn => hw n (.inr hn))
    refine ⟨(a, b), ?_, ⟨k1, k2⟩, ?_⟩
    · dsimp only
      rw [← e1, ← e2, ← List.drop_drop, List.take_append_drop]
    · simp only [List.map_cons, Rows.uptoBulkAll]
      omega
theorem OpnFB.struct {fs : Array Field} {l : List Field} {enc : α → List Value} {ok : World → α → Prop} {bk : α → Nat} (ht : P.underlying t = some (.struct fs)) (hl : fs.toList = l) (hc : P.cellsOf t = (l.map fun f => P.cellsOf f.type).sum) (h : OpnFB P 0 l enc ok bk) : OpnB P t enc ok bk := by
  constructor; intro H e w base spare held fuel cs x hx hw
  obtain ⟨xs, n, rfl, rfl, hcl, hxl, hf⟩ := DataW.trod_struct ht hx
  subst hl
  simp only [DataW.weights, ht] at hw
  obtain ⟨a, e1, k1, b1⟩ := h.get (cs := cs) (xs := xs) (fun i f hi => hf i f (by simpa using hi)) (by simpa using hxl) (by omega) hw
  refine ⟨a, by simpa using e1, k1, ?_⟩
  simp only [Rows.uptoBulk]
  omega
/-- A parameter of a law. -/
theorem OpnB.arg {enc : α → List Value} {ok : World → α → Prop} {bk : α → Nat} (h : OpnB P t enc ok bk) {H : Type} {e : TypeId × Value → H} {w : World} {base : Nat} {spare : Nat → Bool} {held : Bool} {v : Value} {d : DataW H} {ps : List MemPlace} {ts : List TypeId} {ds : List (DataW H)} {j : Nat}
    (hx : DataW.Trod e P w base spare held t v d ps) (hw : (DataW.weightsEach P ts ds).all (· ≤ reachBytes) = true) (hk : Rows.uptoSmall H ds = true) (ht : ts[j]? = some t) (hd : ds[j]? = some d) : ∃ a, v.cells.toList = enc a ∧ ok w a ∧ bk a ≤ 1048576 := by
  obtain ⟨fuel, hx⟩ := hx
  obtain ⟨a, h1, h2, h3⟩ := h.get hx (fun n hn => by simpa using List.all_eq_true.1 hw _ (DataW.weights_mem_each ht hd n hn))
  have h4 := of_decide_eq_true hk
  have h5 := bulkAll_mem (List.mem_of_getElem? hd)
  exact ⟨a, h1, h2, by dsimp only at h3; omega⟩
end
end Go.Proofs.Ytoodgenbcfdloaa

/- The arguments of the laws, opened with their bulk. -/
set_option linter.unusedVariables false
set_option linter.unusedSimpArgs false
namespace Go.Proofs.Ytoodgenbcfdloaa
open Go Go.Sl Go.RowKit Go.ChangeShapes Go.WideShapes
set_option maxRecDepth 100000
theorem sum_le_sum {α : Type} {f g : α → Nat} : ∀ {l : List α}, (∀ x ∈ l, f x ≤ g x) → (l.map f).sum ≤ (l.map g).sum
  | [], _ => Nat.le_refl _
  | x :: l, h => by
    have h1 := h x (by simp)
    have h2 := sum_le_sum (l := l) fun y hy => h y (by simp [hy])
    simp only [List.map_cons, List.sum_cons]
    omega
theorem len_le_sum {α : Type} {g : α → Nat} : ∀ {l : List α}, (∀ x ∈ l, 1 ≤ g x) → l.length ≤ (l.map g).sum
  | [], _ => Nat.le_refl _
  | x :: l, h => by
    have h1 := h x (by simp)
    have h2 := len_le_sum (l := l) fun y hy => h y (by simp [hy])
    simp only [List.map_cons, List.sum_cons, List.length_cons]
    omega
theorem mem_le_sum {α : Type} {g : α → Nat} : ∀ {l : List α} {x : α}, x ∈ l → g x ≤ (l.map g).sum
  | y :: l, x, h => by
    simp only [List.map_cons, List.sum_cons]
    rcases List.mem_cons.1 h with rfl | h
    · omega
    · have := mem_le_sum (g := g) h; omega
theorem opnB_bytes : OpnB Try.prog 23 eLst (fun w s => Rd eB w s.A s.l ∧ s.l.length ≤ s.c ∧ s.l.length ≤ 140737488351232) (fun s => s.l.length) :=
  OpnB.map (opnB_list (sz := 1) (fun _ => rfl) (by decide) (ty_info (TOK 23 _ rfl)).1 (by kernel_rfl) (OpnB.of (opn_u8 (ty_info (TOK 5 _ rfl)).1))) id (fun _ _ _ => rfl) (fun w s h => by
    have := h.2.2.2.1
    rw [bytes5, reach_is] at this
    exact ⟨h.1, h.2.1, by dsimp only [id]; omega⟩) (fun s => len_le_sum fun x _ => Nat.le_max_left _ _)
theorem opnB_cuts : OpnB Try.prog 24 eLst (fun w s => Rd eP w s.A s.l ∧ s.l.length ≤ s.c ∧ s.l.length ≤ 8796093022208 ∧ ∀ p ∈ s.l, OkI p.1 ∧ OkI p.2) (fun s => s.l.length) :=
  OpnB.map (opnB_list (sz := 2) (fun _ => rfl) (by decide) (ty_info (TOK 24 _ rfl)).1 (by kernel_rfl) (OpnB.of opn_cut)) id (fun _ _ _ => rfl) (fun w s h => by
    have := h.2.2.2.1
    rw [bytes32, reach_is] at this
    exact ⟨h.1, h.2.1, by dsimp only [id]; omega, h.2.2.2.2⟩) (fun s => len_le_sum fun x _ => Nat.le_max_left _ _)
theorem opnB_file : OpnB Try.prog 30 eF (fun w r => Rd eB w r.A r.data ∧ r.n.length ≤ 140737488355328 ∧ r.data.length ≤ 140737488351232 ∧ r.data.length ≤ r.c) (fun r => r.data.length) :=
  OpnB.map (OpnFB.struct (ty_info (TOK 30 _ rfl)).1 rfl (by kernel_rfl) (OpnFB.cons (k := 1) rfl (by kernel_rfl) (opnB_text (ty_info (TOK 9 _ rfl)).1) (OpnFB.cons (k := 1) rfl (by kernel_rfl) opnB_bytes OpnFB.nil))) (fun p : Nm × Lst UInt8 × Unit => ⟨p.1, p.2.1.A, p.2.1.c, p.2.1.l⟩) (fun _ _ _ => rfl) (fun w p h => ⟨h.2.1.1, h.1, h.2.1.2.2, h.2.1.2.1⟩) (fun p => by dsimp only; omega)
theorem opnB_files : OpnB Try.prog 22 eLst (fun w s => Rd eF w s.A s.l ∧ FilesW w s.A (s.l.map RF.f) ∧ (∀ r ∈ s.l, Rd eB w r.A r.data) ∧ s.l.length ≤ s.c) (fun s => max s.l.length (sumLen (s.l.map RF.f))) :=
  OpnB.map (opnB_list (sz := 2) (fun _ => rfl) (by decide) (ty_info (TOK 22 _ rfl)).1 (by kernel_rfl) opnB_file) id (fun _ _ _ => rfl) (fun w s h => by
    have := h.2.2.2.1
    rw [bytes30, reach_is] at this
    refine ⟨h.1, ⟨⟨s.l, rfl, h.1, fun r hr => (h.2.2.2.2 r hr).1⟩, by simp; omega, ?_, ?_⟩, fun r hr => (h.2.2.2.2 r hr).1, h.2.1⟩
    · intro f hf
      obtain ⟨r, hr, rfl⟩ := List.mem_map.1 hf
      exact (h.2.2.2.2 r hr).2.1
    · intro f hf
      obtain ⟨r, hr, rfl⟩ := List.mem_map.1 hf
      exact (h.2.2.2.2 r hr).2.2.1) (fun s => by
    refine Nat.max_le.2 ⟨len_le_sum fun x _ => Nat.le_max_left _ _, ?_⟩
    unfold sumLen
    rw [List.map_map]
    exact sum_le_sum fun x _ => Nat.le_max_right _ _)
theorem opnB_op : OpnB Try.prog 66 eO OpW (fun o => max (max o.files.length o.cuts.length) (max (sumLen o.files) o.data.length)) :=
  OpnB.map (OpnFB.struct (ty_info (TOK 66 _ rfl)).1 rfl (by kernel_rfl) (OpnFB.cons (k := 1) rfl (by kernel_rfl) (OpnB.of (opn_i64 (ty_info (TOK 3 _ rfl)).1)) (OpnFB.cons (k := 1) rfl (by kernel_rfl) (OpnB.of (opn_bool (ty_info (TOK 4 _ rfl)).1))
    (OpnFB.cons (k := 1) rfl (by kernel_rfl) (opnB_text (ty_info (TOK 9 _ rfl)).1) (OpnFB.cons (k := 1) rfl (by kernel_rfl) (opnB_text (ty_info (TOK 9 _ rfl)).1) (OpnFB.cons (k := 1) rfl (by kernel_rfl) (OpnB.of (opn_i64 (ty_info (TOK 3 _ rfl)).1))
    (OpnFB.cons (k := 1) rfl (by kernel_rfl) opnB_bytes (OpnFB.cons (k := 1) rfl (by kernel_rfl) opnB_cuts (OpnFB.cons (k := 1) rfl (by kernel_rfl) opnB_files OpnFB.nil)))))))))
    (fun p : Int × Bool × Nm × Nm × Int × Lst UInt8 × Lst (Int × Int) × Lst RF × Unit => ⟨p.1, p.2.1, p.2.2.1, p.2.2.2.1, p.2.2.2.2.1, p.2.2.2.2.2.1.A, p.2.2.2.2.2.1.c, p.2.2.2.2.2.1.l, p.2.2.2.2.2.2.1.A, p.2.2.2.2.2.2.1.c, p.2.2.2.2.2.2.1.l, p.2.2.2.2.2.2.2.1.A, p.2.2.2.2.2.2.2.1.c, p.2.2.2.2.2.2.2.1.l.map RF.f⟩)
    (fun w p _ => by
      obtain ⟨k, tw, a, b, n, d, c, f, u⟩ := p
      simp [eO, eLst, eN, sv])
    (fun w p h => by
      obtain ⟨k, tw, a, b, n, d, c, f, u⟩ := p
      obtain ⟨hk, _, ha, hb, hn, hd, hc, hf, _⟩ := h
      exact ⟨⟨hk, hn, ha, hb, by have := hd.2.2; dsimp only at this ⊢; omega, by have := hc.2.2.1; dsimp only at this ⊢; omega⟩, hd.1, hc.1, hf.2.1, hc.2.2.2, hd.2.2, hd.2.1, hc.2.1, by simpa using hf.2.2.2⟩)
    (fun p => by
      obtain ⟨k, tw, a, b, n, d, c, f, u⟩ := p
      dsimp only
      rw [List.length_map]
      omega)
theorem opnB_ops : OpnB Try.prog 62 eLst (fun w s => Rd eO w s.A s.l ∧ s.l.length ≤ 1099511627776 ∧ s.l.length ≤ s.c ∧ ∀ o ∈ s.l, OpW w o) (fun s => (s.l.map fun o => max 1 (max (max o.files.length o.cuts.length) (max (sumLen o.files) o.data.length))).sum) :=
  OpnB.map (opnB_list (sz := 8) (fun _ => rfl) (by decide) (ty_info (TOK 62 _ rfl)).1 (by kernel_rfl) opnB_op) id (fun _ _ _ => rfl) (fun w s h => by
    have := h.2.2.2.1
    rw [bytes66, reach_is] at this
    exact ⟨h.1, by dsimp only [id]; omega, h.2.1, h.2.2.2.2⟩) (fun s => Nat.le_refl _)
section
variable {H : Type} {enc : TypeId × Value → H} {w : World} {held : Bool} {base : Nat} {spare : Nat → Bool} {v : Value} {d : DataW H} {ps : List MemPlace} {ts : List TypeId} {ds : List (DataW H)} {r : Reach} {rb : Nat}
theorem argB_list {α : Type} {t u : TypeId} {ok : World → Lst α → Prop} {bk : Lst α → Nat} {j : Nat} (ht : Try.prog.underlying t = some (.slice u)) (h : OpnB Try.prog t eLst ok bk) (hv : Value.okWide Try.prog w r rb t v) (hx : DataW.Trod enc Try.prog w base spare held t v d ps)
    (hw : (DataW.weightsEach Try.prog ts ds).all (· ≤ reachBytes) = true) (hk : Rows.uptoSmall H ds = true) (h1 : ts[j]? = some t) (h2 : ds[j]? = some d) : ∃ (A : Option Addr) (c : Nat) (l : List α), v = .slice A l.length c ∧ ok w ⟨A, c, l⟩ ∧ bk ⟨A, c, l⟩ ≤ 1048576 := by
  obtain ⟨s, h3, h4, h5⟩ := h.arg hx hw hk h1 h2
  obtain ⟨va, len, cap, rfl⟩ := Go.WideShapes.okWide_slice ht hv
  simp only [Value.cells, eLst] at h3
  obtain ⟨A, c, l⟩ := s
  simp at h3
  exact ⟨A, c, l, by rw [h3.1, h3.2.1, h3.2.2], h4, h5⟩
end
end Go.Proofs.Ytoodgenbcfdloaa
