/- The arguments of the laws, opened: bytes, cuts, files, scripts. -/
import Derived.Test.YthhklkpkhaibcaaDoorM2
import Derived.Test.YthhklkpkhaibcaaDoorSlOpn
set_option linter.unusedVariables false
set_option linter.unusedSimpArgs false
namespace Go.Proofs.YthhklkpkhaibcaaDoor
open Go Go.Sl Go.RowKit Go.ChangeShapes Go.WideShapes
set_option maxRecDepth 100000

theorem bytes5 : Tryd.prog.bytesOf 5 = 1 := by kernel_rfl
theorem bytes42 : Tryd.prog.bytesOf 42 = 40 := by kernel_rfl
theorem bytes83 : Tryd.prog.bytesOf 83 = 16 := by kernel_rfl
theorem reach_is : reachBytes = 140737488351232 := rfl
abbrev OkI (n : Int) : Prop := -9223372036854775808 ≤ n ∧ n ≤ 9223372036854775807
theorem opn_bytes : Opn Tryd.prog 40 eLst (fun w s => Rd eB w s.A s.l ∧ s.l.length ≤ s.c ∧ s.l.length ≤ 140737488351232) :=
  Opn.map (opn_list (sz := 1) (fun _ => rfl) (by decide) (ty_info (TOK 40 _ rfl)).1 (by kernel_rfl) (opn_u8 (ty_info (TOK 5 _ rfl)).1)) id (fun _ _ _ => rfl) (fun w s h => by
    have := h.2.2.2.1
    rw [bytes5, reach_is] at this
    exact ⟨h.1, h.2.1, by dsimp only [id]; omega⟩)
theorem opn_cut : Opn Tryd.prog 83 eP (fun _ p => OkI p.1 ∧ OkI p.2) :=
  Opn.map (OpnF.struct (ty_info (TOK 83 _ rfl)).1 rfl (by kernel_rfl) (OpnF.cons (k := 1) rfl (by kernel_rfl) (opn_i64 (ty_info (TOK 3 _ rfl)).1) (OpnF.cons (k := 1) rfl (by kernel_rfl) (opn_i64 (ty_info (TOK 3 _ rfl)).1) OpnF.nil))) (fun p => (p.1, p.2.1)) (fun _ _ _ => rfl) (fun w p h => ⟨h.1, h.2.1⟩)
theorem opn_cuts : Opn Tryd.prog 34 eLst (fun w s => Rd eP w s.A s.l ∧ s.l.length ≤ s.c ∧ s.l.length ≤ 8796093022208 ∧ ∀ p ∈ s.l, OkI p.1 ∧ OkI p.2) :=
  Opn.map (opn_list (sz := 2) (fun _ => rfl) (by decide) (ty_info (TOK 34 _ rfl)).1 (by kernel_rfl) opn_cut) id (fun _ _ _ => rfl) (fun w s h => by
    have := h.2.2.2.1
    rw [bytes83, reach_is] at this
    exact ⟨h.1, h.2.1, by dsimp only [id]; omega, h.2.2.2.2⟩)
theorem opn_file : Opn Tryd.prog 42 eF (fun w r => Rd eB w r.A r.data ∧ r.n.length ≤ 140737488355328 ∧ r.data.length ≤ 140737488351232 ∧ r.data.length ≤ r.c) :=
  Opn.map (OpnF.struct (ty_info (TOK 42 _ rfl)).1 rfl (by kernel_rfl) (OpnF.cons (k := 1) rfl (by kernel_rfl) (opn_text (ty_info (TOK 9 _ rfl)).1) (OpnF.cons (k := 1) rfl (by kernel_rfl) opn_bytes OpnF.nil))) (fun p : Nm × Lst UInt8 × Unit => ⟨p.1, p.2.1.A, p.2.1.c, p.2.1.l⟩) (fun _ _ _ => rfl) (fun w p h => ⟨h.2.1.1, h.1, h.2.1.2.2, h.2.1.2.1⟩)
/-- What holds of a list of files that is handed in. -/
structure FilesW (w : World) (A : Option Addr) (l : List File) : Prop where
  rd : RdF w A l
  len : l.length ≤ 4398046511104
  names : ∀ f ∈ l, f.1.length ≤ 140737488355328
  data : ∀ f ∈ l, f.2.length ≤ 140737488351232
theorem opn_files : Opn Tryd.prog 33 eLst (fun w s => Rd eF w s.A s.l ∧ FilesW w s.A (s.l.map RF.f) ∧ (∀ r ∈ s.l, Rd eB w r.A r.data) ∧ s.l.length ≤ s.c ∧ ∀ r ∈ s.l, r.data.length ≤ r.c) :=
  Opn.map (opn_list (sz := 2) (fun _ => rfl) (by decide) (ty_info (TOK 33 _ rfl)).1 (by kernel_rfl) opn_file) id (fun _ _ _ => rfl) (fun w s h => by
    have := h.2.2.2.1
    rw [bytes42, reach_is] at this
    refine ⟨h.1, ⟨⟨s.l, rfl, h.1, fun r hr => (h.2.2.2.2 r hr).1⟩, by simp; omega, ?_, ?_⟩, fun r hr => (h.2.2.2.2 r hr).1, h.2.1, fun r hr => (h.2.2.2.2 r hr).2.2.2⟩
    · intro f hf
      obtain ⟨r, hr, rfl⟩ := List.mem_map.1 hf
      exact (h.2.2.2.2 r hr).2.1
    · intro f hf
      obtain ⟨r, hr, rfl⟩ := List.mem_map.1 hf
      exact (h.2.2.2.2 r hr).2.2.1)
theorem bytes60 : Tryd.prog.bytesOf 60 = 24 := by kernel_rfl
theorem opn_seg : Opn Tryd.prog 60 eSg (fun _ s => OkI s.num ∧ OkI s.size ∧ OkI s.cnt) :=
  Opn.map (OpnF.struct (ty_info (TOK 60 _ rfl)).1 rfl (by kernel_rfl) (OpnF.cons (k := 1) rfl (by kernel_rfl) (opn_i64 (ty_info (TOK 3 _ rfl)).1) (OpnF.cons (k := 1) rfl (by kernel_rfl) (opn_i64 (ty_info (TOK 3 _ rfl)).1) (OpnF.cons (k := 1) rfl (by kernel_rfl) (opn_i64 (ty_info (TOK 3 _ rfl)).1) OpnF.nil)))) (fun p : Int × Int × Int × Unit => ⟨p.1, p.2.1, p.2.2.1⟩) (fun _ _ _ => rfl) (fun w p h => ⟨h.1, h.2.1, h.2.2.1⟩)
theorem opn_segs : Opn Tryd.prog 30 eLst (fun w s => Rd eSg w s.A s.l ∧ s.l.length ≤ s.c ∧ s.l.length ≤ 140737488355328) :=
  Opn.map (opn_list (sz := 3) (fun _ => rfl) (by decide) (ty_info (TOK 30 _ rfl)).1 (by kernel_rfl) opn_seg) id (fun _ _ _ => rfl) (fun w s h => by
    have := h.2.2.2.1
    rw [bytes60, reach_is] at this
    exact ⟨h.1, h.2.1, by dsimp only [id]; omega⟩)
/-- A manifest that is handed in. -/
structure MnL where
  m : Mn
  A : Option Addr
  c : Nat
theorem opn_man : Opn Tryd.prog 32 (fun x : MnL => eM x.m x.A x.c) (fun w x => x.m.In ∧ x.m.segs.length ≤ x.c ∧ Rd eSg w x.A x.m.segs) :=
  Opn.map (OpnF.struct (ty_info (TOK 32 _ rfl)).1 rfl (by kernel_rfl) (OpnF.cons (k := 1) rfl (by kernel_rfl) (opn_i64 (ty_info (TOK 3 _ rfl)).1) (OpnF.cons (k := 1) rfl (by kernel_rfl) (opn_i64 (ty_info (TOK 3 _ rfl)).1)
    (OpnF.cons (k := 1) rfl (by kernel_rfl) (opn_i64 (ty_info (TOK 3 _ rfl)).1) (OpnF.cons (k := 1) rfl (by kernel_rfl) (opn_i64 (ty_info (TOK 3 _ rfl)).1) (OpnF.cons (k := 1) rfl (by kernel_rfl) opn_segs OpnF.nil))))))
    (fun p : Int × Int × Int × Int × Lst Sg × Unit => ⟨⟨p.1, p.2.1, p.2.2.1, p.2.2.2.1, p.2.2.2.2.1.l⟩, p.2.2.2.2.1.A, p.2.2.2.2.1.c⟩)
    (fun w p _ => rfl)
    (fun w p h => ⟨⟨h.1, h.2.1, h.2.2.1, h.2.2.2.1, h.2.2.2.2.1.2.2⟩, h.2.2.2.2.1.2.1, h.2.2.2.2.1.1⟩)
section
variable {H : Type} {enc : TypeId × Value → H} {w : World} {held : Bool} {base : Nat} {spare : Nat → Bool} {v : Value} {d : DataW H} {ps : List MemPlace} {ts : List TypeId} {ds : List (DataW H)} {r : Reach} {rb : Nat}
theorem arg_int (hv : Value.okWide Tryd.prog w r rb 3 v) (hx : DataW.Trod enc Tryd.prog w base spare held 3 v d ps) : ∃ n, v = .int .i64 n ∧ OkI n := by
  obtain ⟨n, h1, _, _, h2⟩ := open_int (ty_info (TOK 3 _ rfl)).1 hv hx
  exact ⟨n, h1, wf_i64 h2⟩
theorem arg_list {α : Type} {t u : TypeId} {ok : World → Lst α → Prop} {j : Nat} (ht : Tryd.prog.underlying t = some (.slice u)) (h : Opn Tryd.prog t eLst ok) (hv : Value.okWide Tryd.prog w r rb t v) (hx : DataW.Trod enc Tryd.prog w base spare held t v d ps)
    (hw : (DataW.weightsEach Tryd.prog ts ds).all (· ≤ reachBytes) = true) (h1 : ts[j]? = some t) (h2 : ds[j]? = some d) : ∃ (A : Option Addr) (c : Nat) (l : List α), v = .slice A l.length c ∧ ok w ⟨A, c, l⟩ := by
  obtain ⟨s, h3, h4⟩ := h.arg hx hw h1 h2
  obtain ⟨va, len, cap, rfl⟩ := Go.WideShapes.okWide_slice ht hv
  simp only [Value.cells, eLst] at h3
  obtain ⟨A, c, l⟩ := s
  simp at h3
  exact ⟨A, c, l, by rw [h3.1, h3.2.1, h3.2.2], h4⟩
end
end Go.Proofs.YthhklkpkhaibcaaDoor
