/- The arguments of the laws, opened: bytes, cuts, files, scripts. -/
import Derived.Test.YtoodgenbcfdloaaG15
import Derived.Test.YtoodgenbcfdloaaSlOpn
import Derived.Test.YtoodgenbcfdloaaQ21
import Derived.Test.YtoodgenbcfdloaaP11
set_option linter.unusedVariables false
set_option linter.unusedSimpArgs false
namespace Go.Proofs.Ytoodgenbcfdloaa
open Go Go.Sl Go.RowKit Go.ChangeShapes Go.WideShapes
set_option maxRecDepth 100000

theorem bytes5 : Try.prog.bytesOf 5 = 1 := by kernel_rfl
theorem bytes30 : Try.prog.bytesOf 30 = 40 := by kernel_rfl
theorem bytes32 : Try.prog.bytesOf 32 = 16 := by kernel_rfl
theorem bytes66 : Try.prog.bytesOf 66 = 128 := by kernel_rfl
theorem reach_is : reachBytes = 140737488351232 := rfl
abbrev OkI (n : Int) : Prop := -9223372036854775808 ≤ n ∧ n ≤ 9223372036854775807
theorem opn_bytes : Opn Try.prog 23 eLst (fun w s => Rd eB w s.A s.l ∧ s.l.length ≤ s.c ∧ s.l.length ≤ 140737488351232) :=
  Opn.map (opn_list (sz := 1) (fun _ => rfl) (by decide) (ty_info (TOK 23 _ rfl)).1 (by kernel_rfl) (opn_u8 (ty_info (TOK 5 _ rfl)).1)) id (fun _ _ _ => rfl) (fun w s h => by
    have := h.2.2.2.1
    rw [bytes5, reach_is] at this
    exact ⟨h.1, h.2.1, by dsimp only [id]; omega⟩)
theorem opn_cut : Opn Try.prog 32 eP (fun _ p => OkI p.1 ∧ OkI p.2) :=
  Opn.map (OpnF.struct (ty_info (TOK 32 _ rfl)).1 rfl (by kernel_rfl) (OpnF.cons (k := 1) rfl (by kernel_rfl) (opn_i64 (ty_info (TOK 3 _ rfl)).1) (OpnF.cons (k := 1) rfl (by kernel_rfl) (opn_i64 (ty_info (TOK 3 _ rfl)).1) OpnF.nil))) (fun p => (p.1, p.2.1)) (fun _ _ _ => rfl) (fun w p h => ⟨h.1, h.2.1⟩)
theorem opn_cuts : Opn Try.prog 24 eLst (fun w s => Rd eP w s.A s.l ∧ s.l.length ≤ s.c ∧ s.l.length ≤ 8796093022208 ∧ ∀ p ∈ s.l, OkI p.1 ∧ OkI p.2) :=
  Opn.map (opn_list (sz := 2) (fun _ => rfl) (by decide) (ty_info (TOK 24 _ rfl)).1 (by kernel_rfl) opn_cut) id (fun _ _ _ => rfl) (fun w s h => by
    have := h.2.2.2.1
    rw [bytes32, reach_is] at this
    exact ⟨h.1, h.2.1, by dsimp only [id]; omega, h.2.2.2.2⟩)
theorem opn_file : Opn Try.prog 30 eF (fun w r => Rd eB w r.A r.data ∧ r.n.length ≤ 140737488355328 ∧ r.data.length ≤ 140737488351232 ∧ r.data.length ≤ r.c) :=
  Opn.map (OpnF.struct (ty_info (TOK 30 _ rfl)).1 rfl (by kernel_rfl) (OpnF.cons (k := 1) rfl (by kernel_rfl) (opn_text (ty_info (TOK 9 _ rfl)).1) (OpnF.cons (k := 1) rfl (by kernel_rfl) opn_bytes OpnF.nil))) (fun p : Nm × Lst UInt8 × Unit => ⟨p.1, p.2.1.A, p.2.1.c, p.2.1.l⟩) (fun _ _ _ => rfl) (fun w p h => ⟨h.2.1.1, h.1, h.2.1.2.2, h.2.1.2.1⟩)
/-- What holds of a list of files that is handed in. -/
structure FilesW (w : World) (A : Option Addr) (l : List File) : Prop where
  rd : RdF w A l
  len : l.length ≤ 4398046511104
  names : ∀ f ∈ l, f.1.length ≤ 140737488355328
  data : ∀ f ∈ l, f.2.length ≤ 140737488351232
theorem opn_files : Opn Try.prog 22 eLst (fun w s => Rd eF w s.A s.l ∧ FilesW w s.A (s.l.map RF.f) ∧ (∀ r ∈ s.l, Rd eB w r.A r.data) ∧ s.l.length ≤ s.c) :=
  Opn.map (opn_list (sz := 2) (fun _ => rfl) (by decide) (ty_info (TOK 22 _ rfl)).1 (by kernel_rfl) opn_file) id (fun _ _ _ => rfl) (fun w s h => by
    have := h.2.2.2.1
    rw [bytes30, reach_is] at this
    refine ⟨h.1, ⟨⟨s.l, rfl, h.1, fun r hr => (h.2.2.2.2 r hr).1⟩, by simp; omega, ?_, ?_⟩, fun r hr => (h.2.2.2.2 r hr).1, h.2.1⟩
    · intro f hf
      obtain ⟨r, hr, rfl⟩ := List.mem_map.1 hf
      exact (h.2.2.2.2 r hr).2.1
    · intro f hf
      obtain ⟨r, hr, rfl⟩ := List.mem_map.1 hf
      exact (h.2.2.2.2 r hr).2.2.1)
/-- What holds of an operation that is handed in. -/
structure OpW (w : World) (o : Op) : Prop where
  ok : o.Ok
  rdD : Rd eB w o.dA o.data
  rdC : Rd eP w o.cA o.cuts
  files : FilesW w o.fA o.files
  cnum : ∀ p ∈ o.cuts, OkI p.1 ∧ OkI p.2
  data : o.data.length ≤ 140737488351232
  room : o.data.length ≤ o.dc ∧ o.cuts.length ≤ o.cc ∧ o.files.length ≤ o.fc
theorem opn_op : Opn Try.prog 66 eO OpW :=
  Opn.map (OpnF.struct (ty_info (TOK 66 _ rfl)).1 rfl (by kernel_rfl) (OpnF.cons (k := 1) rfl (by kernel_rfl) (opn_i64 (ty_info (TOK 3 _ rfl)).1) (OpnF.cons (k := 1) rfl (by kernel_rfl) (opn_bool (ty_info (TOK 4 _ rfl)).1)
    (OpnF.cons (k := 1) rfl (by kernel_rfl) (opn_text (ty_info (TOK 9 _ rfl)).1) (OpnF.cons (k := 1) rfl (by kernel_rfl) (opn_text (ty_info (TOK 9 _ rfl)).1) (OpnF.cons (k := 1) rfl (by kernel_rfl) (opn_i64 (ty_info (TOK 3 _ rfl)).1)
    (OpnF.cons (k := 1) rfl (by kernel_rfl) opn_bytes (OpnF.cons (k := 1) rfl (by kernel_rfl) opn_cuts (OpnF.cons (k := 1) rfl (by kernel_rfl) opn_files OpnF.nil)))))))))
    (fun p : Int × Bool × Nm × Nm × Int × Lst UInt8 × Lst (Int × Int) × Lst RF × Unit => ⟨p.1, p.2.1, p.2.2.1, p.2.2.2.1, p.2.2.2.2.1, p.2.2.2.2.2.1.A, p.2.2.2.2.2.1.c, p.2.2.2.2.2.1.l, p.2.2.2.2.2.2.1.A, p.2.2.2.2.2.2.1.c, p.2.2.2.2.2.2.1.l, p.2.2.2.2.2.2.2.1.A, p.2.2.2.2.2.2.2.1.c, p.2.2.2.2.2.2.2.1.l.map RF.f⟩)
    (fun w p _ => by
      obtain ⟨k, tw, a, b, n, d, c, f, u⟩ := p
      simp [eO, eLst, eN, sv])
    (fun w p h => by
      obtain ⟨k, tw, a, b, n, d, c, f, u⟩ := p
      obtain ⟨hk, _, ha, hb, hn, hd, hc, hf, _⟩ := h
      exact ⟨⟨hk, hn, ha, hb, by have := hd.2.2; dsimp only at this ⊢; omega, by have := hc.2.2.1; dsimp only at this ⊢; omega⟩, hd.1, hc.1, hf.2.1, hc.2.2.2, hd.2.2, hd.2.1, hc.2.1, by simpa using hf.2.2.2⟩)
theorem opn_ops : Opn Try.prog 62 eLst (fun w s => Rd eO w s.A s.l ∧ s.l.length ≤ 1099511627776 ∧ s.l.length ≤ s.c ∧ ∀ o ∈ s.l, OpW w o) :=
  Opn.map (opn_list (sz := 8) (fun _ => rfl) (by decide) (ty_info (TOK 62 _ rfl)).1 (by kernel_rfl) opn_op) id (fun _ _ _ => rfl) (fun w s h => by
    have := h.2.2.2.1
    rw [bytes66, reach_is] at this
    exact ⟨h.1, by dsimp only [id]; omega, h.2.1, h.2.2.2.2⟩)
section
variable {H : Type} {enc : TypeId × Value → H} {w : World} {held : Bool} {base : Nat} {spare : Nat → Bool} {v : Value} {d : DataW H} {ps : List MemPlace} {ts : List TypeId} {ds : List (DataW H)} {r : Reach} {rb : Nat}
theorem arg_int (hv : Value.okWide Try.prog w r rb 3 v) (hx : DataW.Trod enc Try.prog w base spare held 3 v d ps) : ∃ n, v = .int .i64 n ∧ OkI n := by
  obtain ⟨n, h1, _, _, h2⟩ := open_int (ty_info (TOK 3 _ rfl)).1 hv hx
  exact ⟨n, h1, wf_i64 h2⟩
theorem arg_list {α : Type} {t u : TypeId} {ok : World → Lst α → Prop} {j : Nat} (ht : Try.prog.underlying t = some (.slice u)) (h : Opn Try.prog t eLst ok) (hv : Value.okWide Try.prog w r rb t v) (hx : DataW.Trod enc Try.prog w base spare held t v d ps)
    (hw : (DataW.weightsEach Try.prog ts ds).all (· ≤ reachBytes) = true) (h1 : ts[j]? = some t) (h2 : ds[j]? = some d) : ∃ (A : Option Addr) (c : Nat) (l : List α), v = .slice A l.length c ∧ ok w ⟨A, c, l⟩ := by
  obtain ⟨s, h3, h4⟩ := h.arg hx hw h1 h2
  obtain ⟨va, len, cap, rfl⟩ := Go.WideShapes.okWide_slice ht hv
  simp only [Value.cells, eLst] at h3
  obtain ⟨A, c, l⟩ := s
  simp at h3
  exact ⟨A, c, l, by rw [h3.1, h3.2.1, h3.2.2], h4⟩
end
end Go.Proofs.Ytoodgenbcfdloaa

/- Two disks side by side; walks: step, Load and After. -/
set_option linter.unusedVariables false
set_option linter.unusedSimpArgs false
namespace Go.Proofs.Ytoodgenbcfdloaa
open Go Go.Sl Go.RowKit
set_option maxRecDepth 100000
attribute [local irreducible] CW LW DW FR DP Calls

section
variable {W w : World} {D : DS} {k : RDk} {pool L : List HProp} {d : Nat}
theorem path_len {n : Nm} (h : pathB n = true) : n.length ≤ 40 := by
  unfold pathB at h
  simp at h
  exact h.1.2
set_option maxHeartbeats 8000000 in
theorem step17 (hs : Sat W w (HD d D :: Big pool :: L)) (h : PK D k pool) (o : Op) (ho : o.Ok) (hk : o.kind = 17) (rs : List RF) (hrs : rs.map RF.f = o.files) (hr1 : ∀ w', Sat W w' L → Rd eF w' o.fA rs) (hr2 : ∀ w', Sat W w' L → ∀ r ∈ rs, Rd eB w' r.A r.data) (hl : o.files.length ≤ 1048576) (hd : ∀ f ∈ o.files, f.2.length ≤ 140737488351232) (hnm : ∀ f ∈ o.files, f.1.length ≤ 140737488355328) (hsum : sumLen o.files ≤ 9223372036854775807) :
    Calls Try.prog 79 [Value.agg (eQ (some d) k).toArray, .agg (eO o).toArray].toArray w (Ret (StP W L D)) := by
  refine Calls_of Try.func79 rfl 134 Try.ntmps79 rfl ?_
  have hn := ho.n
  have hfin : ∀ {v : Value} {w' : World} {L : List HProp}, LdP W (HD d D :: Big pool :: L) (some d) k (load o.n (sumW o.files) o.files) v w' → StP W L D v w' := fun hl2 => LdP.stp h (by omega) hsum hl2
  unfold eO
  rw [hk]
  (repeat' (first | (refine isLW ?_; first | refine LW_nil ?_ | (refine isLg ?_; first | refine LW_take rfl ?_) | (refine isLload ?_; first | refine LW_loadCAE 2 (eQ (some d) k) TOK hs rfl rfl rfl rfl (Nat.le_of_ble_eq_true rfl) rfl ?_ | refine LW_loadC 1 TOK hs rfl rfl rfl rfl rfl ?_) | (refine isLstore ?_; first | (refine LW_storeCA 2 TOK hs rfl rfl rfl rfl rfl (eQ_ok.2 (some d') k') rfl (Nat.le_of_ble_eq_true rfl) ?_; clear hs; intro w hs)) | (refine isLcall ?_; first | (refine LW_call (cap := []) rfl rfl ent86 (Calls.ret (loadedF_call W _ (_ :: _ :: _ :: _ :: _ :: L) (some d) k o.n o.files o.fA o.fc rs hrs (hs.picks [3, 3]) (fun w' h => hr1 w' (Sat.dropN h 5)) (fun w' h => hr2 w' (Sat.dropN h 5)) (by omega) hd hnm hn) (fun v w' h => hfin h)) ?_; clear hs; rintro _ w ⟨d', D', k', pool', rfl, g1, g2, g3, g4, g5, g6, hs⟩)) | (refine isLbin ?_; first | (refine LW_cmp rfl (fun _ => ?_) (fun _ => ?_) <;> try (exfalso; omega))) | refine LW_pure TOK rfl ?_ | (refine LW_box hs rfl rfl ?_; clear hs; intro _ w hs) | (refine LW_alloc TOK hs rfl rfl ?_; clear hs; intro _ w hs)) | (with_reducible first | refine then_n ?_ | refine CW_seq ?_ | refine CW_region ?_ | refine CW_block ?_ | refine CW_ret ?_ | refine then_r ?_ | refine blk_r ?_) | refine RETA2 2 hs TOK Try.results79 rfl rfl rfl rfl rfl rfl ?_ | refine CW_true rfl ?_ | refine CW_false rfl ?_))
  exact ⟨d', D', k', pool', rfl, g1, g2, g3, g4, g5, g6, (Sat.dropN (hs.picks [2, 2, 2]) 3)⟩
set_option maxHeartbeats 8000000 in
theorem step15 (hs : Sat W w (HD d D :: Big pool :: L)) (h : PK D k pool) (o : Op) (ho : o.Ok) (hk : o.kind = 15) (hrC : ∀ w', Sat W w' L → Rd eP w' o.cA o.cuts) :
    Calls Try.prog 79 [Value.agg (eQ (some d) k).toArray, .agg (eO o).toArray].toArray w (Ret (StP W L D)) := by
  refine Calls_of Try.func79 rfl 134 Try.ntmps79 rfl ?_
  have hn := ho.n
  have hsz := sz_crash h.fit o.n o.cuts
  have hfine := crash_fine h.good o.n o.cuts
  have hcl := crash_len h.good o.n o.cuts
  have hroom := h.good.room
  have hquota := h.good.quota
  have hfs := h.fs
  obtain ⟨F, hF⟩ : ∃ F, D.crash o.n o.cuts = F := ⟨_, rfl⟩
  rw [hF] at hsz hfine hcl
  have hfd : ∀ f ∈ F, f.2.length ≤ 4611686018427387904 := fun f hf => by have := hsz.2 f hf; omega
  have hnm : ∀ f ∈ F, f.1.length ≤ 140737488355328 := fun f hf => by
    have := path_len (hfine.1.path f hf)
    omega
  have hkq := h.repk.q
  have hfin : ∀ {v : Value} {w' : World} {L : List HProp}, LdP W (HD d D :: Big pool :: L) (some d) k (load k.q (sumW F) F) v w' → StP W L D v w' := fun hl2 => LdP.stp h (by omega) (by omega) hl2
  unfold eO
  rw [hk]
  (repeat' (first | (refine isLW ?_; first | refine LW_nil ?_ | (refine isLg ?_; first | refine LW_take rfl ?_) | (refine isLload ?_; first | refine LW_loadCAE 2 (eK k) TOK hs rfl rfl rfl rfl (Nat.le_of_ble_eq_true rfl) rfl ?_ | refine LW_loadCAE 6 (eQ (some d) k) TOK hs rfl rfl rfl rfl (Nat.le_of_ble_eq_true rfl) rfl ?_ | refine LW_loadC 1 TOK hs rfl rfl rfl rfl rfl ?_ | refine LW_loadC 2 TOK hs rfl rfl rfl rfl rfl ?_ | refine LW_loadC 3 TOK hs rfl rfl rfl rfl rfl ?_ | refine LW_loadC 6 TOK hs rfl rfl rfl rfl rfl ?_) | (refine isLstore ?_; first | (refine LW_storeCA 5 TOK hs rfl rfl rfl rfl rfl (eQ_ok.2 (some d') k') rfl (Nat.le_of_ble_eq_true rfl) ?_; clear hs; intro w hs)) | (refine isLcall ?_; first | (refine LW_call (cap := []) rfl rfl ent24 (rCrash_call (h.kh (hs.picks [4])) o.n o.cA o.cc o.cuts (hrC _ (Sat.dropN hs 5)) ho.cuts) ?_; rw [hF]; rintro _ w2 ⟨A3, c3, rfl, hs2⟩; replace hs := hs.and1 hs2; clear hs2) | (refine LW_call (cap := []) rfl rfl ent23 (crash_call W _ _ d D o.n o.cA o.cc o.cuts (hs.picks [4]) h.fit ho.n (fun w' h => hrC w' (Sat.dropN h 5)) ho.cuts) ?_; clear hs; rw [hF]; rintro _ w ⟨A2, c2, rfl, hs⟩) | (refine LW_call (cap := []) rfl rfl ent21 (filesAlike_call _ F F A2 A3 c2 c3 (Sat.rdF hs) (Sat.rdF (hs.picks [2])) (by omega) hfd) ?_; rw [decide_eq_true rfl]; rintro _ w2 ⟨rfl, hs2⟩; replace hs := hs.and0 hs2; clear hs2; obtain ⟨rs, hrs, hs⟩ := Sat.openHF hs) | (refine LW_call (cap := []) rfl rfl ent86 (Calls.ret (loadedF_call W _ (_ :: _ :: _ :: _ :: _ :: _ :: _ :: _ :: L) (some d) k k.q F A2 c2 rs hrs (hs.picks [2, 6]) (fun w' h => h.rd 2 rfl) (fun w' h => bigRd (h.picks [3])) (by omega) (fun f hf => by have := hsz.2 f hf; omega) hnm (by omega)) (fun v w' h => hfin h)) ?_; clear hs; rintro _ w ⟨d', D', k', pool', rfl, g1, g2, g3, g4, g5, g6, hs⟩)) | (refine isLbin ?_; first | (refine LW_cmp rfl (fun _ => ?_) (fun _ => ?_) <;> try (exfalso; omega))) | refine LW_pure TOK rfl ?_ | (refine LW_box hs rfl rfl ?_; clear hs; intro _ w hs) | (refine LW_alloc TOK hs rfl rfl ?_; clear hs; intro _ w hs)) | (with_reducible first | refine then_n ?_ | refine CW_seq ?_ | refine CW_region ?_ | refine CW_block ?_ | refine CW_skip ?_ | refine CW_ret ?_ | refine then_r ?_ | refine blk_r ?_) | refine RETA2 5 hs TOK Try.results79 rfl rfl rfl rfl rfl rfl ?_ | refine CW_true rfl ?_ | refine CW_false rfl ?_))
  exact ⟨d', D', k', pool', rfl, g1, g2, g3, g4, g5, g6, (Sat.dropN (hs.picks [2, 2, 2, 2, 2, 2]) 6)⟩
/-- What a step asks of an operation. -/
structure OpS (W : World) (o : Op) : Prop where
  w : OpW W o
  fl : o.files.length ≤ 1048576
  cl : o.cuts.length ≤ 1099511627776
  sum : sumLen o.files ≤ 9223372036854775807
theorem step_call {w0 : World} {L0 : List HProp} (hb : ∀ w', Sat W w' L → ∃ L', Sat w0 w' L') (hs : Sat W w (HD d D :: Big pool :: L)) (h : PK D k pool) (o : Op) (ho : OpS w0 o) :
    Calls Try.prog 79 [Value.agg (eQ (some d) k).toArray, .agg (eO o).toArray].toArray w (Ret (StP W L D)) := by
  have hrC : ∀ w', Sat W w' L → Rd eP w' o.cA o.cuts := fun w' h => by obtain ⟨L', h'⟩ := hb w' h; exact ho.w.rdC.of h'
  have hrD : ∀ w', Sat W w' L → Rd eB w' o.dA o.data := fun w' h => by obtain ⟨L', h'⟩ := hb w' h; exact ho.w.rdD.of h'
  by_cases k17 : 1 ≤ o.kind ∧ o.kind ≤ 7
  · exact stepA hs h o ho.w.ok k17.1 k17.2 hrD ho.w.data
  by_cases k12 : o.kind = 12
  · exact step12 hs h o ho.w.ok k12
  by_cases k15 : o.kind = 15
  · exact step15 hs h o ho.w.ok k15 hrC
  by_cases k16 : o.kind = 16
  · exact step16 hs h o ho.w.ok k16
  by_cases kl : o.kind = 17
  · obtain ⟨rs, hrs, h1, h2⟩ := ho.w.files.rd
    exact step17 hs h o ho.w.ok kl rs hrs (fun w' h => by obtain ⟨L', h'⟩ := hb w' h; exact h1.of h') (fun w' h => by obtain ⟨L', h'⟩ := hb w' h; exact fun r hr => (h2 r hr).of h') ho.fl ho.w.files.data ho.w.files.names ho.sum
  exact stepT hs h o ho.w.ok ⟨k17, k12, k15, k16, kl⟩ hrC ho.cl
end
end Go.Proofs.Ytoodgenbcfdloaa
