/- Two disks side by side; walks: told. -/
import Derived.Test.YtoodgenbcfdloaaQ18
import Derived.Test.YtoodgenbcfdloaaG18
set_option linter.unusedVariables false
set_option linter.unusedSimpArgs false
namespace Go.Proofs.Ytoodgenbcfdloaa
open Go Go.Sl Go.RowKit
set_option maxRecDepth 100000
attribute [local irreducible] CW LW DW FR DP Calls

/-- A disk of the program's and one of the document's that tell the same. -/
structure PK (D : DS) (k : RDk) (pool : List HProp) : Prop where
  repk : RepK D k
  ins : InS pool k.S
  good : Good D
  fs : D.fs.length ≤ 549755813888
  chs : D.chs.length ≤ 549755813888
  lft : leftI D.left ≤ 9223372036854775807
section
variable {W w : World} {D : DS} {k : RDk} {pool L : List HProp} {d : Nat}
theorem PK.fit (h : PK D k pool) : Fit D := ⟨h.good, by have := h.chs; omega, by have := h.fs; omega⟩
theorem PK.now (h : PK D k pool) : D.now.length ≤ 549755813888 := by
  have := h.good.keptLen D.chs.length
  rw [List.take_of_length_le (Nat.le_refl _), ← h.good.fold] at this
  have := h.fs
  omega
theorem PK.kh (h : PK D k pool) (hs : Sat W w (Big pool :: L)) : KH w D k pool :=
  ⟨h.ins.rd hs, h.ins, h.repk, h.good, by have := h.fs; omega, by have := h.now; omega, by have := h.chs; omega, h.lft⟩
set_option maxHeartbeats 8000000 in
theorem told8 (hs : Sat W w (HD d D :: Big pool :: L)) (h : PK D k pool) (o : Op) (ho : o.Ok) (hk : o.kind = 8) :
    Calls Try.prog 89 [Value.pointer (some ⟨d, 0, none⟩), .agg (eK k).toArray, .agg (eO o).toArray].toArray w (Ret fun v w' => v = .bool true ∧ Sat W w' (HD d D :: Big pool :: L)) := by
  refine Calls_of Try.func89 rfl 85 Try.ntmps89 rfl ?_
  have hal := ho.a
  have hrl : ∀ {n : Nm}, (D.read n).length ≤ 4194304 := fun {n} => by
    unfold DS.read
    split
    · rename_i e; exact dat_bd h.good (h.good.findId e)
    · exact Nat.zero_le _
  unfold eO
  rw [hk]
  (repeat' (first | (refine isLW ?_; first | refine LW_nil ?_ | (refine isLg ?_; first | refine LW_take rfl ?_) | (refine isLload ?_; first | refine LW_loadCAE 3 (eK k) TOK hs rfl rfl rfl rfl (Nat.le_of_ble_eq_true rfl) rfl ?_ | refine LW_loadC 0 TOK hs rfl rfl rfl rfl rfl ?_ | refine LW_loadC 2 TOK hs rfl rfl rfl rfl rfl ?_) | (refine isLcall ?_; first | (refine LW_call (cap := []) rfl rfl ent26 (read_call W _ _ d D o.a (hs.picks [2]) h.fit hal) ?_; clear hs; rintro _ w ⟨A1, c1, rfl, hs⟩) | (refine LW_call (cap := []) rfl rfl ent95 (rRead_call (h.kh (hs.picks [4])) o.a hal) ?_; rintro _ w2 ⟨A2, c2, rfl, hs2⟩; replace hs := hs.and1 hs2; clear hs2) | (refine LW_call (cap := []) rfl rfl ent27 (alike_call _ (D.read o.a) (D.read o.a) A1 A2 c1 c2 (hs.rd 1 rfl) (hs.rd 0 rfl) (by have := hrl (n := o.a); omega)) ?_; rw [decide_eq_true rfl]; rintro _ w2 ⟨rfl, hs2⟩; replace hs := hs.and0 hs2; clear hs2) | (refine LW_call (cap := []) rfl rfl ent20 (num_call _ (D.find o.a).1) ?_; rintro _ _ ⟨rfl, rfl⟩)) | (refine isLbin ?_; first | (refine LW_cmp rfl (fun _ => ?_) (fun _ => ?_) <;> try (exfalso; omega))) | refine LW_pure TOK rfl ?_ | (refine LW_box hs rfl rfl ?_; clear hs; intro _ w hs)) | (with_reducible first | refine then_n ?_ | refine CW_seq ?_ | refine CW_region ?_ | refine CW_block ?_ | refine CW_ret ?_ | refine then_r ?_ | refine blk_r ?_) | refine CW_true rfl ?_ | refine RET1 Try.results89 rfl ?_))
  exact ⟨rfl, Sat.dropN (hs.picks [0, 0, 1, 1]) 4⟩
set_option maxHeartbeats 8000000 in
theorem told9 (hs : Sat W w (HD d D :: Big pool :: L)) (h : PK D k pool) (o : Op) (ho : o.Ok) (hk : o.kind = 9) :
    Calls Try.prog 89 [Value.pointer (some ⟨d, 0, none⟩), .agg (eK k).toArray, .agg (eO o).toArray].toArray w (Ret fun v w' => v = .bool true ∧ Sat W w' (HD d D :: Big pool :: L)) := by
  refine Calls_of Try.func89 rfl 85 Try.ntmps89 rfl ?_
  have hal := ho.a
  have hll : D.list.length ≤ 549755813888 := by
    unfold DS.list
    split
    · exact Nat.zero_le _
    · rw [List.length_map]; exact h.now
  unfold eO
  rw [hk]
  (repeat' (first | (refine isDe rfl ?_; refine DP_eff rfl rfl (by repeat' (first | exact Inv.nil | refine Inv.keepB hs ?_ | refine Inv.keepO 0 hs rfl ?_ | refine Inv.keepC 0 hs rfl rfl ?_ | refine Inv.keepO 1 hs rfl ?_ | refine Inv.keepC 1 hs rfl rfl ?_ | refine Inv.keepO 2 hs rfl ?_ | refine Inv.keepC 2 hs rfl rfl ?_ | refine Inv.keepO 3 hs rfl ?_ | refine Inv.keepC 3 hs rfl rfl ?_ | refine Inv.keepO 4 hs rfl ?_ | refine Inv.keepC 4 hs rfl rfl ?_ | refine Inv.keepO 5 hs rfl ?_ | refine Inv.keepC 5 hs rfl rfl ?_ | refine Inv.gone (by kernel_rfl) ?_)) ?_) | (refine isDnil ?_; refine DP_end (by repeat' (first | exact Inv.nil | refine Inv.keepB hs ?_ | refine Inv.keepO 0 hs rfl ?_ | refine Inv.keepC 0 hs rfl rfl ?_ | refine Inv.keepO 1 hs rfl ?_ | refine Inv.keepC 1 hs rfl rfl ?_ | refine Inv.keepO 2 hs rfl ?_ | refine Inv.keepC 2 hs rfl rfl ?_ | refine Inv.keepO 3 hs rfl ?_ | refine Inv.keepC 3 hs rfl rfl ?_ | refine Inv.keepO 4 hs rfl ?_ | refine Inv.keepC 4 hs rfl rfl ?_ | refine Inv.keepO 5 hs rfl ?_ | refine Inv.keepC 5 hs rfl rfl ?_ | refine Inv.gone (by kernel_rfl) ?_)) ?_) | (refine isLW ?_; first | refine LW_nil ?_ | (refine isLload ?_; first | refine LW_loadC 0 TOK hs rfl rfl rfl rfl rfl ?_) | (refine isLcall ?_; first | (refine LW_call (cap := []) rfl rfl ent38 (list_call W _ _ d D (hs.picks [2]) h.fit) ?_; clear hs; rintro _ w ⟨A1, c1, rfl, hs⟩) | (refine LW_call (cap := []) rfl rfl ent96 (rList_call (h.kh (hs.picks [4]))) ?_; rintro _ w2 ⟨A2, c2, rfl, hs2⟩; replace hs := hs.and1 hs2; clear hs2) | (refine LW_call (cap := []) rfl rfl ent39 (namesAlike_call _ D.list D.list A1 A2 c1 c2 (hs.rd 1 rfl) (hs.rd 0 rfl) (by omega)) ?_; rw [decide_eq_true rfl]; rintro _ w2 ⟨rfl, hs2⟩; replace hs := hs.and0 hs2; clear hs2)) | (refine isLbin ?_; first | (refine LW_cmp rfl (fun _ => ?_) (fun _ => ?_) <;> try (exfalso; omega))) | refine LW_pure TOK rfl ?_ | (refine LW_box hs rfl rfl ?_; clear hs; intro _ w hs)) | (refine isDP ?_; first | (refine isDload rfl ?_; first | refine DP_loadCA 1 (eK k) hs TOK rfl rfl trivial rfl rfl rfl rfl (Nat.le_of_ble_eq_true rfl) rfl (by repeat' (first | exact Inv.nil | refine Inv.keepB hs ?_ | refine Inv.keepO 0 hs rfl ?_ | refine Inv.keepC 0 hs rfl rfl ?_ | refine Inv.keepO 1 hs rfl ?_ | refine Inv.keepC 1 hs rfl rfl ?_ | refine Inv.keepO 2 hs rfl ?_ | refine Inv.keepC 2 hs rfl rfl ?_ | refine Inv.keepO 3 hs rfl ?_ | refine Inv.keepC 3 hs rfl rfl ?_ | refine Inv.keepO 4 hs rfl ?_ | refine Inv.keepC 4 hs rfl rfl ?_ | refine Inv.keepO 5 hs rfl ?_ | refine Inv.keepC 5 hs rfl rfl ?_ | refine Inv.gone (by kernel_rfl) ?_)) ?_) | refine DP_pure TOK rfl rfl (by first | exact trivial | rfl) rfl ?_) | (with_reducible first | refine then_n ?_ | refine CW_seq ?_ | refine CW_region ?_ | refine CW_block ?_ | refine CW_ret ?_ | refine then_r ?_ | refine blk_r ?_) | refine CW_true rfl ?_ | refine CW_false rfl ?_ | (refine CW_drawP (id := 7) [1, 3, 4] [0, 2, 1, 3, 4, 5] mixed (by kernel_rfl) hs ?_; clear hs; intro hs) | refine RET1 Try.results89 rfl ?_))
  exact ⟨rfl, Sat.dropN (hs.picks [0, 0, 1, 1]) 4⟩
set_option maxHeartbeats 8000000 in
theorem told10 (hs : Sat W w (HD d D :: Big pool :: L)) (h : PK D k pool) (o : Op) (ho : o.Ok) (hk : o.kind = 10) :
    Calls Try.prog 89 [Value.pointer (some ⟨d, 0, none⟩), .agg (eK k).toArray, .agg (eO o).toArray].toArray w (Ret fun v w' => v = .bool true ∧ Sat W w' (HD d D :: Big pool :: L)) := by
  refine Calls_of Try.func89 rfl 85 Try.ntmps89 rfl ?_
  have hal := ho.a
  unfold eO
  rw [hk]
  (repeat' (first | (refine isDe rfl ?_; refine DP_eff rfl rfl (by repeat' (first | exact Inv.nil | refine Inv.keepB hs ?_ | refine Inv.keepO 0 hs rfl ?_ | refine Inv.keepC 0 hs rfl rfl ?_ | refine Inv.keepO 1 hs rfl ?_ | refine Inv.keepC 1 hs rfl rfl ?_ | refine Inv.keepO 2 hs rfl ?_ | refine Inv.keepC 2 hs rfl rfl ?_ | refine Inv.keepO 3 hs rfl ?_ | refine Inv.keepC 3 hs rfl rfl ?_ | refine Inv.keepO 4 hs rfl ?_ | refine Inv.keepC 4 hs rfl rfl ?_ | refine Inv.keepO 5 hs rfl ?_ | refine Inv.keepC 5 hs rfl rfl ?_ | refine Inv.gone (by kernel_rfl) ?_)) ?_) | (refine isDnil ?_; refine DP_end (by repeat' (first | exact Inv.nil | refine Inv.keepB hs ?_ | refine Inv.keepO 0 hs rfl ?_ | refine Inv.keepC 0 hs rfl rfl ?_ | refine Inv.keepO 1 hs rfl ?_ | refine Inv.keepC 1 hs rfl rfl ?_ | refine Inv.keepO 2 hs rfl ?_ | refine Inv.keepC 2 hs rfl rfl ?_ | refine Inv.keepO 3 hs rfl ?_ | refine Inv.keepC 3 hs rfl rfl ?_ | refine Inv.keepO 4 hs rfl ?_ | refine Inv.keepC 4 hs rfl rfl ?_ | refine Inv.keepO 5 hs rfl ?_ | refine Inv.keepC 5 hs rfl rfl ?_ | refine Inv.gone (by kernel_rfl) ?_)) ?_) | (refine isLW ?_; first | refine LW_nil ?_ | (refine isLload ?_; first | refine LW_loadC 0 TOK hs rfl rfl rfl rfl rfl ?_) | (refine isLcall ?_; first | (refine LW_call (cap := []) rfl rfl ent32 (freeH_call W _ _ d D (hs.picks [2]) h.fit) ?_; clear hs; rintro _ w ⟨rfl, hs⟩) | (refine LW_call (cap := []) rfl rfl ent97 (rFree_call (h.kh (hs.picks [3]))) ?_; rintro _ w2 ⟨rfl, hs2⟩; replace hs := hs.and0 hs2; clear hs2)) | (refine isLbin ?_; first | (refine LW_cmp rfl (fun _ => ?_) (fun _ => ?_) <;> try (exfalso; omega))) | refine LW_pure TOK rfl ?_ | (refine LW_box hs rfl rfl ?_; clear hs; intro _ w hs)) | (refine isDP ?_; first | (refine isDload rfl ?_; first | refine DP_loadCA 1 (eK k) hs TOK rfl rfl trivial rfl rfl rfl rfl (Nat.le_of_ble_eq_true rfl) rfl (by repeat' (first | exact Inv.nil | refine Inv.keepB hs ?_ | refine Inv.keepO 0 hs rfl ?_ | refine Inv.keepC 0 hs rfl rfl ?_ | refine Inv.keepO 1 hs rfl ?_ | refine Inv.keepC 1 hs rfl rfl ?_ | refine Inv.keepO 2 hs rfl ?_ | refine Inv.keepC 2 hs rfl rfl ?_ | refine Inv.keepO 3 hs rfl ?_ | refine Inv.keepC 3 hs rfl rfl ?_ | refine Inv.keepO 4 hs rfl ?_ | refine Inv.keepC 4 hs rfl rfl ?_ | refine Inv.keepO 5 hs rfl ?_ | refine Inv.keepC 5 hs rfl rfl ?_ | refine Inv.gone (by kernel_rfl) ?_)) ?_) | (refine isDbin rfl ?_; first | (refine DP_cmp rfl rfl (by first | exact trivial | rfl) rfl (fun _ => ?_) (fun _ => ?_) <;> try (exfalso; omega))) | refine DP_pure TOK rfl rfl (by first | exact trivial | rfl) rfl ?_) | (with_reducible first | refine then_n ?_ | refine CW_seq ?_ | refine CW_region ?_ | refine CW_block ?_ | refine CW_ret ?_ | refine then_r ?_ | refine blk_r ?_) | refine CW_true rfl ?_ | refine CW_false rfl ?_ | (refine CW_drawP (id := 9) [1, 3] [0, 2, 1, 3, 4, 5] mixed (by kernel_rfl) hs ?_; clear hs; intro hs) | refine RET1 Try.results89 rfl ?_))
  exact ⟨rfl, Sat.dropN (hs.picks [1, 1]) 2⟩
set_option maxHeartbeats 8000000 in
theorem told11 (hs : Sat W w (HD d D :: Big pool :: L)) (h : PK D k pool) (o : Op) (ho : o.Ok) (hk : o.kind = 11) :
    Calls Try.prog 89 [Value.pointer (some ⟨d, 0, none⟩), .agg (eK k).toArray, .agg (eO o).toArray].toArray w (Ret fun v w' => v = .bool true ∧ Sat W w' (HD d D :: Big pool :: L)) := by
  refine Calls_of Try.func89 rfl 85 Try.ntmps89 rfl ?_
  have hal := ho.a
  have hll : D.files.length ≤ 549755813888 := by
    unfold DS.files filesOf
    rw [List.length_map]; exact h.now
  have hfd : ∀ f ∈ D.files, f.2.length ≤ 4611686018427387904 := fun f hf => by
    obtain ⟨p, hp, rfl⟩ := List.mem_map.1 hf
    have := dat_bd h.good (h.good.subNow (List.mem_map.2 ⟨p, hp, rfl⟩))
    show (D.dat p.2).length ≤ _
    omega
  unfold eO
  rw [hk]
  (repeat' (first | (refine isDe rfl ?_; refine DP_eff rfl rfl (by repeat' (first | exact Inv.nil | refine Inv.keepB hs ?_ | refine Inv.keepO 0 hs rfl ?_ | refine Inv.keepC 0 hs rfl rfl ?_ | refine Inv.keepO 1 hs rfl ?_ | refine Inv.keepC 1 hs rfl rfl ?_ | refine Inv.keepO 2 hs rfl ?_ | refine Inv.keepC 2 hs rfl rfl ?_ | refine Inv.keepO 3 hs rfl ?_ | refine Inv.keepC 3 hs rfl rfl ?_ | refine Inv.keepO 4 hs rfl ?_ | refine Inv.keepC 4 hs rfl rfl ?_ | refine Inv.keepO 5 hs rfl ?_ | refine Inv.keepC 5 hs rfl rfl ?_ | refine Inv.gone (by kernel_rfl) ?_)) ?_) | (refine isDnil ?_; refine DP_end (by repeat' (first | exact Inv.nil | refine Inv.keepB hs ?_ | refine Inv.keepO 0 hs rfl ?_ | refine Inv.keepC 0 hs rfl rfl ?_ | refine Inv.keepO 1 hs rfl ?_ | refine Inv.keepC 1 hs rfl rfl ?_ | refine Inv.keepO 2 hs rfl ?_ | refine Inv.keepC 2 hs rfl rfl ?_ | refine Inv.keepO 3 hs rfl ?_ | refine Inv.keepC 3 hs rfl rfl ?_ | refine Inv.keepO 4 hs rfl ?_ | refine Inv.keepC 4 hs rfl rfl ?_ | refine Inv.keepO 5 hs rfl ?_ | refine Inv.keepC 5 hs rfl rfl ?_ | refine Inv.gone (by kernel_rfl) ?_)) ?_) | (refine isLW ?_; first | refine LW_nil ?_ | (refine isLload ?_; first | refine LW_loadC 0 TOK hs rfl rfl rfl rfl rfl ?_) | (refine isLcall ?_; first | (refine LW_call (cap := []) rfl rfl ent29 (files_call W _ _ d D (hs.picks [2]) h.fit) ?_; clear hs; rintro _ w ⟨A1, c1, rfl, hs⟩) | (refine LW_call (cap := []) rfl rfl ent22 (rFiles_call (h.kh (hs.picks [4]))) ?_; rintro _ w2 ⟨A2, c2, rfl, hs2⟩; replace hs := hs.and1 hs2; clear hs2) | (refine LW_call (cap := []) rfl rfl ent21 (filesAlike_call _ D.files D.files A1 A2 c1 c2 (Sat.rdF (hs.picks [1])) (Sat.rdF hs) (by omega) hfd) ?_; rw [decide_eq_true rfl]; rintro _ w2 ⟨rfl, hs2⟩; replace hs := hs.and0 hs2; clear hs2)) | (refine isLbin ?_; first | (refine LW_cmp rfl (fun _ => ?_) (fun _ => ?_) <;> try (exfalso; omega))) | refine LW_pure TOK rfl ?_ | (refine LW_box hs rfl rfl ?_; clear hs; intro _ w hs)) | (refine isDP ?_; first | (refine isDload rfl ?_; first | refine DP_loadCA 1 (eK k) hs TOK rfl rfl trivial rfl rfl rfl rfl (Nat.le_of_ble_eq_true rfl) rfl (by repeat' (first | exact Inv.nil | refine Inv.keepB hs ?_ | refine Inv.keepO 0 hs rfl ?_ | refine Inv.keepC 0 hs rfl rfl ?_ | refine Inv.keepO 1 hs rfl ?_ | refine Inv.keepC 1 hs rfl rfl ?_ | refine Inv.keepO 2 hs rfl ?_ | refine Inv.keepC 2 hs rfl rfl ?_ | refine Inv.keepO 3 hs rfl ?_ | refine Inv.keepC 3 hs rfl rfl ?_ | refine Inv.keepO 4 hs rfl ?_ | refine Inv.keepC 4 hs rfl rfl ?_ | refine Inv.keepO 5 hs rfl ?_ | refine Inv.keepC 5 hs rfl rfl ?_ | refine Inv.gone (by kernel_rfl) ?_)) ?_) | refine DP_pure TOK rfl rfl (by first | exact trivial | rfl) rfl ?_) | (with_reducible first | refine then_n ?_ | refine CW_seq ?_ | refine CW_region ?_ | refine CW_block ?_ | refine CW_ret ?_ | refine then_r ?_ | refine blk_r ?_) | refine CW_true rfl ?_ | refine CW_false rfl ?_ | (refine CW_drawP (id := 11) [1, 3, 4] [0, 2, 1, 3, 4, 5] mixed (by kernel_rfl) hs ?_; clear hs; intro hs) | refine RET1 Try.results89 rfl ?_))
  exact ⟨rfl, Sat.dropN (hs.picks [0, 0, 1, 1]) 4⟩
set_option maxHeartbeats 8000000 in
theorem told13 (hs : Sat W w (HD d D :: Big pool :: L)) (h : PK D k pool) (o : Op) (ho : o.Ok) (hk : o.kind = 13) :
    Calls Try.prog 89 [Value.pointer (some ⟨d, 0, none⟩), .agg (eK k).toArray, .agg (eO o).toArray].toArray w (Ret fun v w' => v = .bool true ∧ Sat W w' (HD d D :: Big pool :: L)) := by
  refine Calls_of Try.func89 rfl 85 Try.ntmps89 rfl ?_
  have hal := ho.a
  obtain ⟨q, S, l, dn⟩ := k
  have hdn : dn = D.down := h.repk.down
  subst hdn
  rw [hK]
  unfold eO
  rw [hk]
  (repeat' (first | (refine isDe rfl ?_; refine DP_eff rfl rfl (by repeat' (first | exact Inv.nil | refine Inv.keepB hs ?_ | refine Inv.keepO 0 hs rfl ?_ | refine Inv.keepC 0 hs rfl rfl ?_ | refine Inv.keepO 1 hs rfl ?_ | refine Inv.keepC 1 hs rfl rfl ?_ | refine Inv.keepO 2 hs rfl ?_ | refine Inv.keepC 2 hs rfl rfl ?_ | refine Inv.keepO 3 hs rfl ?_ | refine Inv.keepC 3 hs rfl rfl ?_ | refine Inv.keepO 4 hs rfl ?_ | refine Inv.keepC 4 hs rfl rfl ?_ | refine Inv.keepO 5 hs rfl ?_ | refine Inv.keepC 5 hs rfl rfl ?_ | refine Inv.gone (by kernel_rfl) ?_)) ?_) | (refine isDnil ?_; refine DP_end (by repeat' (first | exact Inv.nil | refine Inv.keepB hs ?_ | refine Inv.keepO 0 hs rfl ?_ | refine Inv.keepC 0 hs rfl rfl ?_ | refine Inv.keepO 1 hs rfl ?_ | refine Inv.keepC 1 hs rfl rfl ?_ | refine Inv.keepO 2 hs rfl ?_ | refine Inv.keepC 2 hs rfl rfl ?_ | refine Inv.keepO 3 hs rfl ?_ | refine Inv.keepC 3 hs rfl rfl ?_ | refine Inv.keepO 4 hs rfl ?_ | refine Inv.keepC 4 hs rfl rfl ?_ | refine Inv.keepO 5 hs rfl ?_ | refine Inv.keepC 5 hs rfl rfl ?_ | refine Inv.gone (by kernel_rfl) ?_)) ?_) | (refine isLW ?_; first | refine LW_nil ?_ | (refine isLload ?_; first | refine LW_loadC 0 TOK hs rfl rfl rfl rfl rfl ?_) | (refine isLcall ?_; first | (refine LW_call (cap := []) rfl rfl ent47 (down_call W _ _ d D (hs.picks [2])) ?_; clear hs; rintro _ w ⟨rfl, hs⟩)) | (refine isLbin ?_; first | (refine LW_cmp rfl (fun _ => ?_) (fun _ => ?_) <;> try (exfalso; omega))) | refine LW_pure TOK rfl ?_ | (refine LW_box hs rfl rfl ?_; clear hs; intro _ w hs)) | (refine isDP ?_; first | (refine isDload rfl ?_; first | refine DP_loadC 1 hs TOK rfl rfl (by first | exact trivial | rfl) rfl rfl rfl rfl rfl ?_ ?_) | (refine isDbin rfl ?_; first | refine DP_nileq TOK rfl rfl (by first | exact trivial | rfl) rfl ?_) | refine DP_pure TOK rfl rfl (by first | exact trivial | rfl) rfl ?_) | (refine isI0 ?_; exact Inv.nil) | (with_reducible first | refine then_n ?_ | refine CW_seq ?_ | refine CW_region ?_ | refine CW_block ?_ | refine CW_ret ?_ | refine then_r ?_ | refine blk_r ?_) | refine CW_true rfl ?_ | refine CW_false rfl ?_ | (refine CW_drawP (id := 13) [1] [0, 2, 3, 1, 4, 5] mixed (by kernel_rfl) hs ?_; clear hs; intro hs) | refine RET1 Try.results89 rfl ?_))
  exact ⟨by simp, Sat.dropN (hs.picks [1, 1]) 2⟩
set_option maxHeartbeats 8000000 in
theorem told14 (hs : Sat W w (HD d D :: Big pool :: L)) (h : PK D k pool) (o : Op) (ho : o.Ok) (hk : o.kind = 14) (hrC : ∀ w', Sat W w' L → Rd eP w' o.cA o.cuts) (hcb : o.cuts.length ≤ 1099511627776) :
    Calls Try.prog 89 [Value.pointer (some ⟨d, 0, none⟩), .agg (eK k).toArray, .agg (eO o).toArray].toArray w (Ret fun v w' => v = .bool true ∧ Sat W w' (HD d D :: Big pool :: L)) := by
  refine Calls_of Try.func89 rfl 85 Try.ntmps89 rfl ?_
  have hal := ho.a
  have hnl : ([] : List (Int × Int)).length = 0 := rfl
  have hsz := sz_crash h.fit o.n o.cuts
  have hll := hsz.1
  have hfd : ∀ f ∈ D.crash o.n o.cuts, f.2.length ≤ 4611686018427387904 := fun f hf => by
    have := hsz.2 f hf
    omega
  have hcu := ho.cuts
  replace hs : Sat W w (RowOf eP 32 2 none 0 ([] : List (Int × Int)) :: HD d D :: Big pool :: L) := hs.nilRow 32 2
  unfold eO
  rw [hk]
  (repeat' (first | (refine isDe rfl ?_; refine DP_eff rfl rfl (by repeat' (first | exact Inv.nil | refine Inv.keepB hs ?_ | refine Inv.keepO 0 hs rfl ?_ | refine Inv.keepC 0 hs rfl rfl ?_ | refine Inv.keepO 1 hs rfl ?_ | refine Inv.keepC 1 hs rfl rfl ?_ | refine Inv.keepO 2 hs rfl ?_ | refine Inv.keepC 2 hs rfl rfl ?_ | refine Inv.keepO 3 hs rfl ?_ | refine Inv.keepC 3 hs rfl rfl ?_ | refine Inv.keepO 4 hs rfl ?_ | refine Inv.keepC 4 hs rfl rfl ?_ | refine Inv.keepO 5 hs rfl ?_ | refine Inv.keepC 5 hs rfl rfl ?_ | refine Inv.gone (by kernel_rfl) ?_)) ?_) | (refine isDnil ?_; refine DP_end (by repeat' (first | exact Inv.nil | refine Inv.keepB hs ?_ | refine Inv.keepO 0 hs rfl ?_ | refine Inv.keepC 0 hs rfl rfl ?_ | refine Inv.keepO 1 hs rfl ?_ | refine Inv.keepC 1 hs rfl rfl ?_ | refine Inv.keepO 2 hs rfl ?_ | refine Inv.keepC 2 hs rfl rfl ?_ | refine Inv.keepO 3 hs rfl ?_ | refine Inv.keepC 3 hs rfl rfl ?_ | refine Inv.keepO 4 hs rfl ?_ | refine Inv.keepC 4 hs rfl rfl ?_ | refine Inv.keepO 5 hs rfl ?_ | refine Inv.keepC 5 hs rfl rfl ?_ | refine Inv.gone (by kernel_rfl) ?_)) ?_) | refine DP_loadC 0 hs TOK rfl rfl trivial rfl rfl rfl rfl rfl (by repeat' (first | exact Inv.nil | refine Inv.keepB hs ?_ | refine Inv.keepO 0 hs rfl ?_ | refine Inv.keepC 0 hs rfl rfl ?_ | refine Inv.keepO 1 hs rfl ?_ | refine Inv.keepC 1 hs rfl rfl ?_ | refine Inv.keepO 2 hs rfl ?_ | refine Inv.keepC 2 hs rfl rfl ?_ | refine Inv.keepO 3 hs rfl ?_ | refine Inv.keepC 3 hs rfl rfl ?_ | refine Inv.keepO 4 hs rfl ?_ | refine Inv.keepC 4 hs rfl rfl ?_ | refine Inv.keepO 5 hs rfl ?_ | refine Inv.keepC 5 hs rfl rfl ?_ | refine Inv.gone (by kernel_rfl) ?_)) ?_ | (refine isLW ?_; first | refine LW_nil ?_ | (refine isLload ?_; first | refine LW_loadC 0 TOK hs rfl rfl rfl rfl rfl ?_) | (refine isLcall ?_; first | (refine LW_append 2 (xs := ([] : List (Int × Int))) (ys := o.cuts) eP_ok.1 hs TOK rfl rfl (hrC _ (Sat.dropN hs 5)) eP_ok.2 rfl rfl rfl rfl rfl rfl rfl (by unfold maxLen; omega) (by simp only []; omega) ?_; clear hs; intro A1 c1 w hs) | (refine LW_call (cap := []) rfl rfl ent23 (crash_call W _ _ d D o.n A1 c1 ([] ++ o.cuts) (hs.picks [3]) h.fit ho.n (fun w' h => h.rd 2 rfl) (by rw [List.nil_append]; exact ho.cuts)) ?_; clear hs; rw [List.nil_append]; rintro _ w ⟨A2, c2, rfl, hs⟩) | (refine LW_call (cap := []) rfl rfl ent24 (rCrash_call (h.kh (hs.picks [5])) o.n o.cA o.cc o.cuts (hrC _ (Sat.dropN hs 6)) ho.cuts) ?_; rintro _ w2 ⟨A3, c3, rfl, hs2⟩; replace hs := hs.and1 hs2; clear hs2) | (refine LW_call (cap := []) rfl rfl ent21 (filesAlike_call _ (D.crash o.n o.cuts) (D.crash o.n o.cuts) A2 A3 c2 c3 (Sat.rdF (hs.picks [1])) (Sat.rdF hs) (by omega) hfd) ?_; rw [decide_eq_true rfl]; rintro _ w2 ⟨rfl, hs2⟩; replace hs := hs.and0 hs2; clear hs2)) | (refine isLbin ?_; first | (refine LW_cmp rfl (fun _ => ?_) (fun _ => ?_) <;> try (exfalso; omega))) | refine LW_pure TOK rfl ?_ | (refine LW_box hs rfl rfl ?_; clear hs; intro _ w hs)) | (refine isDP ?_; first | (refine isDload rfl ?_; first | refine DP_loadCA 1 (eK k) hs TOK rfl rfl trivial rfl rfl rfl rfl (Nat.le_of_ble_eq_true rfl) rfl (by repeat' (first | exact Inv.nil | refine Inv.keepB hs ?_ | refine Inv.keepO 0 hs rfl ?_ | refine Inv.keepC 0 hs rfl rfl ?_ | refine Inv.keepO 1 hs rfl ?_ | refine Inv.keepC 1 hs rfl rfl ?_ | refine Inv.keepO 2 hs rfl ?_ | refine Inv.keepC 2 hs rfl rfl ?_ | refine Inv.keepO 3 hs rfl ?_ | refine Inv.keepC 3 hs rfl rfl ?_ | refine Inv.keepO 4 hs rfl ?_ | refine Inv.keepC 4 hs rfl rfl ?_ | refine Inv.keepO 5 hs rfl ?_ | refine Inv.keepC 5 hs rfl rfl ?_ | refine Inv.gone (by kernel_rfl) ?_)) ?_) | refine DP_pure TOK rfl rfl (by first | exact trivial | rfl) rfl ?_) | (with_reducible first | refine then_n ?_ | refine CW_seq ?_ | refine CW_region ?_ | refine CW_block ?_ | refine CW_ret ?_ | refine then_r ?_ | refine blk_r ?_) | refine CW_true rfl ?_ | refine CW_false rfl ?_ | (refine CW_drawP (id := 17) [4, 10, 11] [0, 1, 2, 3, 5, 6, 7, 8, 9, 4, 10, 11, 12] mixed (by kernel_rfl) hs ?_; clear hs; intro hs) | refine RET1 Try.results89 rfl ?_))
  exact ⟨rfl, Sat.dropN (hs.picks [0, 0, 1, 1, 1]) 5⟩
set_option maxHeartbeats 8000000 in
theorem toldE (hs : Sat W w (HD d D :: Big pool :: L)) (h : PK D k pool) (o : Op) (ho : o.Ok) (hk : ¬ o.kind = 8 ∧ ¬ o.kind = 9 ∧ ¬ o.kind = 10 ∧ ¬ o.kind = 11 ∧ ¬ o.kind = 13 ∧ ¬ o.kind = 14) :
    Calls Try.prog 89 [Value.pointer (some ⟨d, 0, none⟩), .agg (eK k).toArray, .agg (eO o).toArray].toArray w (Ret fun v w' => v = .bool true ∧ Sat W w' (HD d D :: Big pool :: L)) := by
  refine Calls_of Try.func89 rfl 85 Try.ntmps89 rfl ?_
  have hal := ho.a
  obtain ⟨k8, k9, k10, k11, k13, k14⟩ := hk
  unfold eO
  (repeat' (first | (refine isLW ?_; first | refine LW_nil ?_ | (refine isLload ?_; first | refine LW_loadC 0 TOK hs rfl rfl rfl rfl rfl ?_) | (refine isLbin ?_; first | (refine LW_cmp rfl (fun _ => ?_) (fun _ => ?_) <;> try (exfalso; omega))) | refine LW_pure TOK rfl ?_ | (refine LW_box hs rfl rfl ?_; clear hs; intro _ w hs)) | (with_reducible first | refine then_n ?_ | refine CW_seq ?_ | refine CW_region ?_ | refine CW_block ?_ | refine CW_skip ?_ | refine CW_ret ?_ | refine blk_n ?_) | refine CW_false rfl ?_ | refine RET1 Try.results89 rfl ?_))
  all_goals exact ⟨rfl, Sat.dropN hs 2⟩
theorem told_call (hs : Sat W w (HD d D :: Big pool :: L)) (h : PK D k pool) (o : Op) (ho : o.Ok) (hrC : ∀ w', Sat W w' L → Rd eP w' o.cA o.cuts) (hcb : o.cuts.length ≤ 1099511627776) :
    Calls Try.prog 89 [Value.pointer (some ⟨d, 0, none⟩), .agg (eK k).toArray, .agg (eO o).toArray].toArray w (Ret fun v w' => v = .bool true ∧ Sat W w' (HD d D :: Big pool :: L)) := by
  by_cases k8 : o.kind = 8
  · exact told8 hs h o ho k8
  by_cases k9 : o.kind = 9
  · exact told9 hs h o ho k9
  by_cases k10 : o.kind = 10
  · exact told10 hs h o ho k10
  by_cases k11 : o.kind = 11
  · exact told11 hs h o ho k11
  by_cases k13 : o.kind = 13
  · exact told13 hs h o ho k13
  by_cases k14 : o.kind = 14
  · exact told14 hs h o ho k14 hrC hcb
  exact toldE hs h o ho ⟨k8, k9, k10, k11, k13, k14⟩
end
end Go.Proofs.Ytoodgenbcfdloaa
