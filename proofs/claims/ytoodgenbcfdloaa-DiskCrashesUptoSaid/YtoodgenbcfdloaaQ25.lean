/- The arguments of the laws, opened with their bulk. -/
import Derived.Test.YtoodgenbcfdloaaQ22
import Derived.Test.YtoodgenbcfdloaaSlOpnB
import Derived.Test.YtoodgenbcfdloaaG4
import Derived.Test.YtoodgenbcfdloaaQ24
set_option linter.unusedVariables false
set_option linter.unusedSimpArgs false
namespace Go.Proofs.Ytoodgenbcfdloaa
open Go Go.Sl Go.RowKit Go.ChangeShapes Go.WideShapes
set_option maxRecDepth 100000
theorem sum_le_sum {α : Type} {f g : α → Nat} : ∀ {l : List α}, (∀ x ∈ l, f x ≤ g x) → (l.map f).sum ≤ (l.map g).sum
  | [], _ => Nat.le_refl _
  | x :: l, h => by
    have h1 := h x (by simp)
    have h2 := sum_le_sum (l := l) fun y hy => h y (by simp [hy])
    simp only [List.map_cons, List.sum_cons]
    omega
theorem len_le_sum {α : Type} {g : α → Nat} : ∀ {l : List α}, (∀ x ∈ l, 1 ≤ g x) → l.length ≤ (l.map g).sum
  | [], _ => Nat.le_refl _
  | x :: l, h => by
    have h1 := h x (by simp)
    have h2 := len_le_sum (l := l) fun y hy => h y (by simp [hy])
    simp only [List.map_cons, List.sum_cons, List.length_cons]
    omega
theorem mem_le_sum {α : Type} {g : α → Nat} : ∀ {l : List α} {x : α}, x ∈ l → g x ≤ (l.map g).sum
  | y :: l, x, h => by
    simp only [List.map_cons, List.sum_cons]
    rcases List.mem_cons.1 h with rfl | h
    · omega
    · have := mem_le_sum (g := g) h; omega
theorem opnB_bytes : OpnB Try.prog 23 eLst (fun w s => Rd eB w s.A s.l ∧ s.l.length ≤ s.c ∧ s.l.length ≤ 140737488351232) (fun s => s.l.length) :=
  OpnB.map (opnB_list (sz := 1) (fun _ => rfl) (by decide) (ty_info (TOK 23 _ rfl)).1 (by kernel_rfl) (OpnB.of (opn_u8 (ty_info (TOK 5 _ rfl)).1))) id (fun _ _ _ => rfl) (fun w s h => by
    have := h.2.2.2.1
    rw [bytes5, reach_is] at this
    exact ⟨h.1, h.2.1, by dsimp only [id]; omega⟩) (fun s => len_le_sum fun x _ => Nat.le_max_left _ _)
theorem opnB_cuts : OpnB Try.prog 24 eLst (fun w s => Rd eP w s.A s.l ∧ s.l.length ≤ s.c ∧ s.l.length ≤ 8796093022208 ∧ ∀ p ∈ s.l, OkI p.1 ∧ OkI p.2) (fun s => s.l.length) :=
  OpnB.map (opnB_list (sz := 2) (fun _ => rfl) (by decide) (ty_info (TOK 24 _ rfl)).1 (by kernel_rfl) (OpnB.of opn_cut)) id (fun _ _ _ => rfl) (fun w s h => by
    have := h.2.2.2.1
    rw [bytes32, reach_is] at this
    exact ⟨h.1, h.2.1, by dsimp only [id]; omega, h.2.2.2.2⟩) (fun s => len_le_sum fun x _ => Nat.le_max_left _ _)
theorem opnB_file : OpnB Try.prog 30 eF (fun w r => Rd eB w r.A r.data ∧ r.n.length ≤ 140737488355328 ∧ r.data.length ≤ 140737488351232 ∧ r.data.length ≤ r.c) (fun r => r.data.length) :=
  OpnB.map (OpnFB.struct (ty_info (TOK 30 _ rfl)).1 rfl (by kernel_rfl) (OpnFB.cons (k := 1) rfl (by kernel_rfl) (opnB_text (ty_info (TOK 9 _ rfl)).1) (OpnFB.cons (k := 1) rfl (by kernel_rfl) opnB_bytes OpnFB.nil))) (fun p : Nm × Lst UInt8 × Unit => ⟨p.1, p.2.1.A, p.2.1.c, p.2.1.l⟩) (fun _ _ _ => rfl) (fun w p h => ⟨h.2.1.1, h.1, h.2.1.2.2, h.2.1.2.1⟩) (fun p => by dsimp only; omega)
theorem opnB_files : OpnB Try.prog 22 eLst (fun w s => Rd eF w s.A s.l ∧ FilesW w s.A (s.l.map RF.f) ∧ (∀ r ∈ s.l, Rd eB w r.A r.data) ∧ s.l.length ≤ s.c) (fun s => max s.l.length (sumLen (s.l.map RF.f))) :=
  OpnB.map (opnB_list (sz := 2) (fun _ => rfl) (by decide) (ty_info (TOK 22 _ rfl)).1 (by kernel_rfl) opnB_file) id (fun _ _ _ => rfl) (fun w s h => by
    have := h.2.2.2.1
    rw [bytes30, reach_is] at this
    refine ⟨h.1, ⟨⟨s.l, rfl, h.1, fun r hr => (h.2.2.2.2 r hr).1⟩, by simp; omega, ?_, ?_⟩, fun r hr => (h.2.2.2.2 r hr).1, h.2.1⟩
    · intro f hf
      obtain ⟨r, hr, rfl⟩ := List.mem_map.1 hf
      exact (h.2.2.2.2 r hr).2.1
    · intro f hf
      obtain ⟨r, hr, rfl⟩ := List.mem_map.1 hf
      exact (h.2.2.2.2 r hr).2.2.1) (fun s => by
    refine Nat.max_le.2 ⟨len_le_sum fun x _ => Nat.le_max_left _ _, ?_⟩
    unfold sumLen
    rw [List.map_map]
    exact sum_le_sum fun x _ => Nat.le_max_right _ _)
theorem opnB_op : OpnB Try.prog 66 eO OpW (fun o => max (max o.files.length o.cuts.length) (max (sumLen o.files) o.data.length)) :=
  OpnB.map (OpnFB.struct (ty_info (TOK 66 _ rfl)).1 rfl (by kernel_rfl) (OpnFB.cons (k := 1) rfl (by kernel_rfl) (OpnB.of (opn_i64 (ty_info (TOK 3 _ rfl)).1)) (OpnFB.cons (k := 1) rfl (by kernel_rfl) (OpnB.of (opn_bool (ty_info (TOK 4 _ rfl)).1))
    (OpnFB.cons (k := 1) rfl (by kernel_rfl) (opnB_text (ty_info (TOK 9 _ rfl)).1) (OpnFB.cons (k := 1) rfl (by kernel_rfl) (opnB_text (ty_info (TOK 9 _ rfl)).1) (OpnFB.cons (k := 1) rfl (by kernel_rfl) (OpnB.of (opn_i64 (ty_info (TOK 3 _ rfl)).1))
    (OpnFB.cons (k := 1) rfl (by kernel_rfl) opnB_bytes (OpnFB.cons (k := 1) rfl (by kernel_rfl) opnB_cuts (OpnFB.cons (k := 1) rfl (by kernel_rfl) opnB_files OpnFB.nil)))))))))
    (fun p : Int × Bool × Nm × Nm × Int × Lst UInt8 × Lst (Int × Int) × Lst RF × Unit => ⟨p.1, p.2.1, p.2.2.1, p.2.2.2.1, p.2.2.2.2.1, p.2.2.2.2.2.1.A, p.2.2.2.2.2.1.c, p.2.2.2.2.2.1.l, p.2.2.2.2.2.2.1.A, p.2.2.2.2.2.2.1.c, p.2.2.2.2.2.2.1.l, p.2.2.2.2.2.2.2.1.A, p.2.2.2.2.2.2.2.1.c, p.2.2.2.2.2.2.2.1.l.map RF.f⟩)
    (fun w p _ => by
      obtain ⟨k, tw, a, b, n, d, c, f, u⟩ := p
      simp [eO, eLst, eN, sv])
    (fun w p h => by
      obtain ⟨k, tw, a, b, n, d, c, f, u⟩ := p
      obtain ⟨hk, _, ha, hb, hn, hd, hc, hf, _⟩ := h
      exact ⟨⟨hk, hn, ha, hb, by have := hd.2.2; dsimp only at this ⊢; omega, by have := hc.2.2.1; dsimp only at this ⊢; omega⟩, hd.1, hc.1, hf.2.1, hc.2.2.2, hd.2.2, hd.2.1, hc.2.1, by simpa using hf.2.2.2⟩)
    (fun p => by
      obtain ⟨k, tw, a, b, n, d, c, f, u⟩ := p
      dsimp only
      rw [List.length_map]
      omega)
theorem opnB_ops : OpnB Try.prog 62 eLst (fun w s => Rd eO w s.A s.l ∧ s.l.length ≤ 1099511627776 ∧ s.l.length ≤ s.c ∧ ∀ o ∈ s.l, OpW w o) (fun s => (s.l.map fun o => max 1 (max (max o.files.length o.cuts.length) (max (sumLen o.files) o.data.length))).sum) :=
  OpnB.map (opnB_list (sz := 8) (fun _ => rfl) (by decide) (ty_info (TOK 62 _ rfl)).1 (by kernel_rfl) opnB_op) id (fun _ _ _ => rfl) (fun w s h => by
    have := h.2.2.2.1
    rw [bytes66, reach_is] at this
    exact ⟨h.1, by dsimp only [id]; omega, h.2.1, h.2.2.2.2⟩) (fun s => Nat.le_refl _)
section
variable {H : Type} {enc : TypeId × Value → H} {w : World} {held : Bool} {base : Nat} {spare : Nat → Bool} {v : Value} {d : DataW H} {ps : List MemPlace} {ts : List TypeId} {ds : List (DataW H)} {r : Reach} {rb : Nat}
theorem argB_list {α : Type} {t u : TypeId} {ok : World → Lst α → Prop} {bk : Lst α → Nat} {j : Nat} (ht : Try.prog.underlying t = some (.slice u)) (h : OpnB Try.prog t eLst ok bk) (hv : Value.okWide Try.prog w r rb t v) (hx : DataW.Trod enc Try.prog w base spare held t v d ps)
    (hw : (DataW.weightsEach Try.prog ts ds).all (· ≤ reachBytes) = true) (hk : Rows.uptoSmall H ds = true) (h1 : ts[j]? = some t) (h2 : ds[j]? = some d) : ∃ (A : Option Addr) (c : Nat) (l : List α), v = .slice A l.length c ∧ ok w ⟨A, c, l⟩ ∧ bk ⟨A, c, l⟩ ≤ 1048576 := by
  obtain ⟨s, h3, h4, h5⟩ := h.arg hx hw hk h1 h2
  obtain ⟨va, len, cap, rfl⟩ := Go.WideShapes.okWide_slice ht hv
  simp only [Value.cells, eLst] at h3
  obtain ⟨A, c, l⟩ := s
  simp at h3
  exact ⟨A, c, l, by rw [h3.1, h3.2.1, h3.2.2], h4, h5⟩
end
end Go.Proofs.Ytoodgenbcfdloaa

/- The laws of the document's disk: walks. -/
set_option linter.unusedVariables false
set_option linter.unusedSimpArgs false
namespace Go.Proofs.Ytoodgenbcfdloaa
open Go Go.Sl Go.RowKit
set_option maxRecDepth 100000
attribute [local irreducible] CW LW DW FR DP Calls
/-- What a script of small bulk is. -/
theorem ops_small {W : World} {sc : List Op} (h : ∀ o ∈ sc, OpW W o) (hb : (sc.map fun o => max 1 (max (max o.files.length o.cuts.length) (max (sumLen o.files) o.data.length))).sum ≤ 1048576) : sc.length ≤ 1048576 ∧ ∀ o ∈ sc, OpS W o :=
  ⟨Nat.le_trans (len_le_sum fun _ _ => Nat.le_max_left _ _) hb, fun o ho => by
    have h1 := Nat.le_trans (mem_le_sum (g := fun o : Op => max 1 (max (max o.files.length o.cuts.length) (max (sumLen o.files) o.data.length))) ho) hb
    exact ⟨h o ho, by omega, by omega, by omega⟩⟩
section
variable (W : World) (q1 q2 : Int) (A : Option Addr) (c : Nat) (sc : List Op) (hq1 : -9223372036854775808 ≤ q1 ∧ q1 ≤ 9223372036854775807) (hq2 : -9223372036854775808 ≤ q2 ∧ q2 ≤ 9223372036854775807) (rsc : Rd eO W A sc) (hsl : sc.length ≤ 1048576) (hok : ∀ o ∈ sc, OpS W o)
include hq1 hq2 rsc hsl hok
theorem DiskReads_call : Calls Try.prog 11 [Value.int .i64 q1, .int .i64 q2, .slice A sc.length c].toArray W (Ret fun v w' => v = .bool true ∧ Sat W w' []) := by
  refine Calls_of Try.func11 rfl 11 Try.ntmps11 rfl ?_
  have hs := Sat.start W
  have hp : ∀ lo hi, Calls Try.prog 55 [Value.int .i64 q1, .int .i64 q2, .slice A sc.length c, .int .i64 lo, .int .i64 hi].toArray W (Ret fun v w' => v = .bool true ∧ Sat W w' []) := fun lo hi => plays_call W q1 q2 lo hi A c sc hq1 hq2 rsc hsl hok
  (repeat' (first | (refine isLW ?_; first | refine LW_nil ?_ | (refine isLcall ?_; first | (refine LW_call (cap := []) rfl rfl ent55 (hp _ _) ?_; clear hs; rintro _ w ⟨rfl, hs⟩)) | refine LW_pure TOK rfl ?_) | (with_reducible first | refine then_n ?_ | refine CW_seq ?_ | refine CW_region ?_ | refine CW_ret ?_) | refine RET1 Try.results11 rfl ?_))
  exact ⟨rfl, hs⟩
theorem DiskLists_call : Calls Try.prog 12 [Value.int .i64 q1, .int .i64 q2, .slice A sc.length c].toArray W (Ret fun v w' => v = .bool true ∧ Sat W w' []) := by
  refine Calls_of Try.func12 rfl 11 Try.ntmps12 rfl ?_
  have hs := Sat.start W
  have hp : ∀ lo hi, Calls Try.prog 55 [Value.int .i64 q1, .int .i64 q2, .slice A sc.length c, .int .i64 lo, .int .i64 hi].toArray W (Ret fun v w' => v = .bool true ∧ Sat W w' []) := fun lo hi => plays_call W q1 q2 lo hi A c sc hq1 hq2 rsc hsl hok
  (repeat' (first | (refine isLW ?_; first | refine LW_nil ?_ | (refine isLcall ?_; first | (refine LW_call (cap := []) rfl rfl ent55 (hp _ _) ?_; clear hs; rintro _ w ⟨rfl, hs⟩)) | refine LW_pure TOK rfl ?_) | (with_reducible first | refine then_n ?_ | refine CW_seq ?_ | refine CW_region ?_ | refine CW_ret ?_) | refine RET1 Try.results12 rfl ?_))
  exact ⟨rfl, hs⟩
theorem DiskCrashes_call : Calls Try.prog 13 [Value.int .i64 q1, .int .i64 q2, .slice A sc.length c].toArray W (Ret fun v w' => v = .bool true ∧ Sat W w' []) := by
  refine Calls_of Try.func13 rfl 11 Try.ntmps13 rfl ?_
  have hs := Sat.start W
  have hp : ∀ lo hi, Calls Try.prog 55 [Value.int .i64 q1, .int .i64 q2, .slice A sc.length c, .int .i64 lo, .int .i64 hi].toArray W (Ret fun v w' => v = .bool true ∧ Sat W w' []) := fun lo hi => plays_call W q1 q2 lo hi A c sc hq1 hq2 rsc hsl hok
  (repeat' (first | (refine isLW ?_; first | refine LW_nil ?_ | (refine isLcall ?_; first | (refine LW_call (cap := []) rfl rfl ent55 (hp _ _) ?_; clear hs; rintro _ w ⟨rfl, hs⟩)) | refine LW_pure TOK rfl ?_) | (with_reducible first | refine then_n ?_ | refine CW_seq ?_ | refine CW_region ?_ | refine CW_ret ?_) | refine RET1 Try.results13 rfl ?_))
  exact ⟨rfl, hs⟩
theorem DiskPlays_call : Calls Try.prog 14 [Value.int .i64 q1, .int .i64 q2, .slice A sc.length c].toArray W (Ret fun v w' => v = .bool true ∧ Sat W w' []) := by
  refine Calls_of Try.func14 rfl 11 Try.ntmps14 rfl ?_
  have hs := Sat.start W
  have hp : ∀ lo hi, Calls Try.prog 55 [Value.int .i64 q1, .int .i64 q2, .slice A sc.length c, .int .i64 lo, .int .i64 hi].toArray W (Ret fun v w' => v = .bool true ∧ Sat W w' []) := fun lo hi => plays_call W q1 q2 lo hi A c sc hq1 hq2 rsc hsl hok
  (repeat' (first | (refine isLW ?_; first | refine LW_nil ?_ | (refine isLcall ?_; first | (refine LW_call (cap := []) rfl rfl ent55 (hp _ _) ?_; clear hs; rintro _ w ⟨rfl, hs⟩)) | refine LW_pure TOK rfl ?_) | (with_reducible first | refine then_n ?_ | refine CW_seq ?_ | refine CW_region ?_ | refine CW_ret ?_) | refine RET1 Try.results14 rfl ?_))
  exact ⟨rfl, hs⟩
end
end Go.Proofs.Ytoodgenbcfdloaa
