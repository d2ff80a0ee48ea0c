/- The arguments of the laws, opened: bytes, cuts, files, scripts. -/
import Derived.Test.YtoodgenbcfdloaaG15
import Derived.Test.YtoodgenbcfdloaaSlOpn
set_option linter.unusedVariables false
set_option linter.unusedSimpArgs false
namespace Go.Proofs.Ytoodgenbcfdloaa
open Go Go.Sl Go.RowKit Go.ChangeShapes Go.WideShapes
set_option maxRecDepth 100000

theorem bytes5 : Try.prog.bytesOf 5 = 1 := by kernel_rfl
theorem bytes30 : Try.prog.bytesOf 30 = 40 := by kernel_rfl
theorem bytes32 : Try.prog.bytesOf 32 = 16 := by kernel_rfl
theorem bytes66 : Try.prog.bytesOf 66 = 128 := by kernel_rfl
theorem reach_is : reachBytes = 140737488351232 := rfl
abbrev OkI (n : Int) : Prop := -9223372036854775808 ≤ n ∧ n ≤ 9223372036854775807
theorem opn_bytes : Opn Try.prog 23 eLst (fun w s => Rd eB w s.A s.l ∧ s.l.length ≤ s.c ∧ s.l.length ≤ 140737488351232) :=
  Opn.map (opn_list (sz := 1) (fun _ => rfl) (by decide) (ty_info (TOK 23 _ rfl)).1 (by kernel_rfl) (opn_u8 (ty_info (TOK 5 _ rfl)).1)) id (fun _ _ _ => rfl) (fun w s h => by
    have := h.2.2.2.1
    rw [bytes5, reach_is] at this
    exact ⟨h.1, h.2.1, by dsimp only [id]; omega⟩)
theorem opn_cut : Opn Try.prog 32 eP (fun _ p => OkI p.1 ∧ OkI p.2) :=
  Opn.map (OpnF.struct (ty_info (TOK 32 _ rfl)).1 rfl (by kernel_rfl) (OpnF.cons (k := 1) rfl (by kernel_rfl) (opn_i64 (ty_info (TOK 3 _ rfl)).1) (OpnF.cons (k := 1) rfl (by kernel_rfl) (opn_i64 (ty_info (TOK 3 _ rfl)).1) OpnF.nil))) (fun p => (p.1, p.2.1)) (fun _ _ _ => rfl) (fun w p h => ⟨h.1, h.2.1⟩)
theorem opn_cuts : Opn Try.prog 24 eLst (fun w s => Rd eP w s.A s.l ∧ s.l.length ≤ s.c ∧ s.l.length ≤ 8796093022208 ∧ ∀ p ∈ s.l, OkI p.1 ∧ OkI p.2) :=
  Opn.map (opn_list (sz := 2) (fun _ => rfl) (by decide) (ty_info (TOK 24 _ rfl)).1 (by kernel_rfl) opn_cut) id (fun _ _ _ => rfl) (fun w s h => by
    have := h.2.2.2.1
    rw [bytes32, reach_is] at this
    exact ⟨h.1, h.2.1, by dsimp only [id]; omega, h.2.2.2.2⟩)
theorem opn_file : Opn Try.prog 30 eF (fun w r => Rd eB w r.A r.data ∧ r.n.length ≤ 140737488355328 ∧ r.data.length ≤ 140737488351232 ∧ r.data.length ≤ r.c) :=
  Opn.map (OpnF.struct (ty_info (TOK 30 _ rfl)).1 rfl (by kernel_rfl) (OpnF.cons (k := 1) rfl (by kernel_rfl) (opn_text (ty_info (TOK 9 _ rfl)).1) (OpnF.cons (k := 1) rfl (by kernel_rfl) opn_bytes OpnF.nil))) (fun p : Nm × Lst UInt8 × Unit => ⟨p.1, p.2.1.A, p.2.1.c, p.2.1.l⟩) (fun _ _ _ => rfl) (fun w p h => ⟨h.2.1.1, h.1, h.2.1.2.2, h.2.1.2.1⟩)
/-- What holds of a list of files that is handed in. -/
structure FilesW (w : World) (A : Option Addr) (l : List File) : Prop where
  rd : RdF w A l
  len : l.length ≤ 4398046511104
  names : ∀ f ∈ l, f.1.length ≤ 140737488355328
  data : ∀ f ∈ l, f.2.length ≤ 140737488351232
theorem opn_files : Opn Try.prog 22 eLst (fun w s => Rd eF w s.A s.l ∧ FilesW w s.A (s.l.map RF.f) ∧ (∀ r ∈ s.l, Rd eB w r.A r.data) ∧ s.l.length ≤ s.c) :=
  Opn.map (opn_list (sz := 2) (fun _ => rfl) (by decide) (ty_info (TOK 22 _ rfl)).1 (by kernel_rfl) opn_file) id (fun _ _ _ => rfl) (fun w s h => by
    have := h.2.2.2.1
    rw [bytes30, reach_is] at this
    refine ⟨h.1, ⟨⟨s.l, rfl, h.1, fun r hr => (h.2.2.2.2 r hr).1⟩, by simp; omega, ?_, ?_⟩, fun r hr => (h.2.2.2.2 r hr).1, h.2.1⟩
    · intro f hf
      obtain ⟨r, hr, rfl⟩ := List.mem_map.1 hf
      exact (h.2.2.2.2 r hr).2.1
    · intro f hf
      obtain ⟨r, hr, rfl⟩ := List.mem_map.1 hf
      exact (h.2.2.2.2 r hr).2.2.1)
/-- What holds of an operation that is handed in. -/
structure OpW (w : World) (o : Op) : Prop where
  ok : o.Ok
  rdD : Rd eB w o.dA o.data
  rdC : Rd eP w o.cA o.cuts
  files : FilesW w o.fA o.files
  cnum : ∀ p ∈ o.cuts, OkI p.1 ∧ OkI p.2
  data : o.data.length ≤ 140737488351232
  room : o.data.length ≤ o.dc ∧ o.cuts.length ≤ o.cc ∧ o.files.length ≤ o.fc
theorem opn_op : Opn Try.prog 66 eO OpW :=
  Opn.map (OpnF.struct (ty_info (TOK 66 _ rfl)).1 rfl (by kernel_rfl) (OpnF.cons (k := 1) rfl (by kernel_rfl) (opn_i64 (ty_info (TOK 3 _ rfl)).1) (OpnF.cons (k := 1) rfl (by kernel_rfl) (opn_bool (ty_info (TOK 4 _ rfl)).1)
    (OpnF.cons (k := 1) rfl (by kernel_rfl) (opn_text (ty_info (TOK 9 _ rfl)).1) (OpnF.cons (k := 1) rfl (by kernel_rfl) (opn_text (ty_info (TOK 9 _ rfl)).1) (OpnF.cons (k := 1) rfl (by kernel_rfl) (opn_i64 (ty_info (TOK 3 _ rfl)).1)
    (OpnF.cons (k := 1) rfl (by kernel_rfl) opn_bytes (OpnF.cons (k := 1) rfl (by kernel_rfl) opn_cuts (OpnF.cons (k := 1) rfl (by kernel_rfl) opn_files OpnF.nil)))))))))
    (fun p : Int × Bool × Nm × Nm × Int × Lst UInt8 × Lst (Int × Int) × Lst RF × Unit => ⟨p.1, p.2.1, p.2.2.1, p.2.2.2.1, p.2.2.2.2.1, p.2.2.2.2.2.1.A, p.2.2.2.2.2.1.c, p.2.2.2.2.2.1.l, p.2.2.2.2.2.2.1.A, p.2.2.2.2.2.2.1.c, p.2.2.2.2.2.2.1.l, p.2.2.2.2.2.2.2.1.A, p.2.2.2.2.2.2.2.1.c, p.2.2.2.2.2.2.2.1.l.map RF.f⟩)
    (fun w p _ => by
      obtain ⟨k, tw, a, b, n, d, c, f, u⟩ := p
      simp [eO, eLst, eN, sv])
    (fun w p h => by
      obtain ⟨k, tw, a, b, n, d, c, f, u⟩ := p
      obtain ⟨hk, _, ha, hb, hn, hd, hc, hf, _⟩ := h
      exact ⟨⟨hk, hn, ha, hb, by have := hd.2.2; dsimp only at this ⊢; omega, by have := hc.2.2.1; dsimp only at this ⊢; omega⟩, hd.1, hc.1, hf.2.1, hc.2.2.2, hd.2.2, hd.2.1, hc.2.1, by simpa using hf.2.2.2⟩)
theorem opn_ops : Opn Try.prog 62 eLst (fun w s => Rd eO w s.A s.l ∧ s.l.length ≤ 1099511627776 ∧ s.l.length ≤ s.c ∧ ∀ o ∈ s.l, OpW w o) :=
  Opn.map (opn_list (sz := 8) (fun _ => rfl) (by decide) (ty_info (TOK 62 _ rfl)).1 (by kernel_rfl) opn_op) id (fun _ _ _ => rfl) (fun w s h => by
    have := h.2.2.2.1
    rw [bytes66, reach_is] at this
    exact ⟨h.1, by dsimp only [id]; omega, h.2.1, h.2.2.2.2⟩)
section
variable {H : Type} {enc : TypeId × Value → H} {w : World} {held : Bool} {base : Nat} {spare : Nat → Bool} {v : Value} {d : DataW H} {ps : List MemPlace} {ts : List TypeId} {ds : List (DataW H)} {r : Reach} {rb : Nat}
theorem arg_int (hv : Value.okWide Try.prog w r rb 3 v) (hx : DataW.Trod enc Try.prog w base spare held 3 v d ps) : ∃ n, v = .int .i64 n ∧ OkI n := by
  obtain ⟨n, h1, _, _, h2⟩ := open_int (ty_info (TOK 3 _ rfl)).1 hv hx
  exact ⟨n, h1, wf_i64 h2⟩
theorem arg_list {α : Type} {t u : TypeId} {ok : World → Lst α → Prop} {j : Nat} (ht : Try.prog.underlying t = some (.slice u)) (h : Opn Try.prog t eLst ok) (hv : Value.okWide Try.prog w r rb t v) (hx : DataW.Trod enc Try.prog w base spare held t v d ps)
    (hw : (DataW.weightsEach Try.prog ts ds).all (· ≤ reachBytes) = true) (h1 : ts[j]? = some t) (h2 : ds[j]? = some d) : ∃ (A : Option Addr) (c : Nat) (l : List α), v = .slice A l.length c ∧ ok w ⟨A, c, l⟩ := by
  obtain ⟨s, h3, h4⟩ := h.arg hx hw h1 h2
  obtain ⟨va, len, cap, rfl⟩ := Go.WideShapes.okWide_slice ht hv
  simp only [Value.cells, eLst] at h3
  obtain ⟨A, c, l⟩ := s
  simp at h3
  exact ⟨A, c, l, by rw [h3.1, h3.2.1, h3.2.2], h4⟩
end
end Go.Proofs.Ytoodgenbcfdloaa
