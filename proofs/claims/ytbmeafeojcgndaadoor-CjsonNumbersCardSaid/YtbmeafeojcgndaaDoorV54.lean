/- Plain: the texts of the law of numbers: nought; what is refused. -/
import Derived.Test.YtbmeafeojcgndaaDoorP9
import Derived.Test.YtbmeafeojcgndaaDoorV52
import Derived.Test.YtbmeafeojcgndaaDoorV17
import Derived.Test.YtbmeafeojcgndaaDoorV50
set_option linter.unusedVariables false
set_option linter.unusedSimpArgs false
namespace Go.Proofs.YtbmeafeojcgndaaDoor
open Go Go.Sl Go.RowKit
set_option maxRecDepth 100000
theorem read_zero {mi : Bool} {s : List UInt8} {x : Int} {p3 : Nat} (hs : NoD s) (hl : s.length ≤ 16000000) (hf : ∀ c t, s = c :: t → c.toNat ≠ 46) (hse : ∀ b q, b.drop q = s → expM b q = .ok (x, q + p3)) (hp : p3 = s.length) : looseM (sg mi ++ ([48] ++ s)) = .ok (.mk 2 0 [] [] []) := by
  have hDg : Dg [48] := ⟨zeros_d 1, .inl rfl⟩
  obtain ⟨b, hb⟩ : ∃ b, sg mi ++ ([48] ++ s) = b := ⟨_, rfl⟩
  have hsgl : (sg mi).length ≤ 1 := by unfold sg; split <;> simp
  have hd : b.drop 0 = sg mi ++ ([48] ++ s) := hb.symm
  have hq := at_next (at_next hd)
  have hbl : b.length = 0 + (sg mi).length + ([48] : List UInt8).length + s.length := by rw [← hb]; simp; omega
  rw [hb]
  refine loose_num hb.symm hDg (by rw [hbl]; simp; omega) ?_
  obtain ⟨a1, a2⟩ := int_any hd hDg hs
  rw [number_mk a1 a2 (frac_no hq hf) (hse b _ hq) (v := 0) (e := 0) (worth_zero (by simp [noZ]) rfl), if_pos rfl, hp, ← hbl]
theorem read_z1 {k : Nat} (hk : 1 ≤ k) (hk2 : k ≤ 400) : looseM ([48, 46] ++ zr k) = .ok (.mk 2 0 [] [] []) := by
  have := read_frac (n := 0) (by decide) (by decide) hk hk2
  rw [itoa_sg] at this
  have e : Lib.decDigits (0 : Int).natAbs = [48] := by rw [Lib.decDigits, dif_pos (by decide)]; rfl
  rw [e] at this
  exact this
theorem read_z2 {k : Nat} (hk : 1 ≤ k) (hk2 : k ≤ 400) : looseM ([45, 48, 101] ++ Lib.decDigits k) = .ok (.mk 2 0 [] [] []) := by
  obtain ⟨e1, e2, e3, e4⟩ := zexp hk hk2
  exact read_zero (mi := true) (s := 101 :: Lib.decDigits k) (x := k) (p3 := 1 + (Lib.decDigits k).length) (nod_of rfl) (by simp; omega) (fun c t e => by cases e; decide)
    (fun b q h => by
      have := exp_pos (t := Lib.decDigits k) (s := []) (by rw [List.append_nil]; exact h) e1 e2 nod_nil (by rw [e3]; omega)
      rw [e3, Nat.add_assoc q] at this
      exact this) (by simp; omega)
theorem read_z3 {k : Nat} (hk : 1 ≤ k) (hk2 : k ≤ 400) : looseM ([48, 101, 45] ++ Lib.decDigits k) = .ok (.mk 2 0 [] [] []) := by
  obtain ⟨e1, e2, e3, e4⟩ := zexp hk hk2
  exact read_zero (mi := false) (s := 101 :: 45 :: Lib.decDigits k) (x := -(k : Int)) (p3 := 2 + (Lib.decDigits k).length) (nod_of rfl) (by simp; omega) (fun c t e => by cases e; decide)
    (fun b q h => by
      have := exp_neg (t := Lib.decDigits k) (s := []) (by rw [List.append_nil]; exact h) e1 e2 nod_nil (by rw [e3]; omega)
      rw [e3, Nat.add_assoc q, Nat.add_assoc q] at this
      exact this) (by simp; omega)
theorem val_one (l : List UInt8) : val (l ++ [49]) = val l * 10 + 1 := by
  rw [val_append]
  have : val [49] = 1 := by decide
  rw [this]; simp
section
variable {n : Int} (h0 : -9223372036854775808 ≤ n) (h1 : n ≤ 9223372036854775807)
include h0 h1
omit h0 h1 in
theorem err_text {I s F : List UInt8} {mi : Bool} {x : Int} {K p2 p3 : Nat} (hI : Dg I) (hs : NoD s) (hl : I.length + s.length ≤ 16000000) (hsf : ∀ b q, b.drop q = s → fracM b q = .ok (F, q + p2)) (hse : ∀ b q, b.drop q = s → expM b (q + p2) = .ok (x, q + p3)) (hF : ∀ c ∈ F, digit c = true) (hv : ¬ 10 ∣ val (I ++ F)) (hx : x - F.length = -((K + 1 : Nat) : Int)) :
    looseM (sg mi ++ (I ++ s)) = .error (132, 0) := by
  obtain ⟨b, hb⟩ : ∃ b, sg mi ++ (I ++ s) = b := ⟨_, rfl⟩
  have hsgl : (sg mi).length ≤ 1 := by unfold sg; split <;> simp
  have hd : b.drop 0 = sg mi ++ (I ++ s) := hb.symm
  have hq := at_next (at_next hd)
  have hbl : b.length = 0 + (sg mi).length + I.length + s.length := by rw [← hb]; simp; omega
  rw [hb]
  exact loose_numE hb.symm hI (by omega) (num_frac hd hI hs (hsf b _ hq) (hse b _ hq) hF hv hx)
theorem err_frac {k : Nat} (hk2 : k ≤ 400) : looseM (Lib.itoa n ++ [46] ++ zr k ++ [49]) = .error (132, 0) := by
  have hnl := n_len h0 h1
  have h9 : ∀ c ∈ zr k ++ [49], digit c = true := fun c hc => by
    rcases List.mem_append.1 hc with hc | hc
    · exact zeros_d k c hc
    · rw [List.mem_singleton.1 hc]; rfl
  have := err_text (mi := decide (n < 0)) (s := 46 :: (zr k ++ [49])) (F := zr k ++ [49]) (x := 0) (K := k) (p2 := k + 2) (p3 := k + 2) (Dg.dec n.natAbs) (nod_of rfl) (by simp; omega)
    (fun b q h => by
      have := frac_at (t := zr k ++ [49]) (s := []) (by rw [List.append_nil]; exact h) (by simp) h9 nod_nil
      rw [List.length_append, List.length_replicate, List.length_singleton] at this
      rw [this]; congr 2; omega)
    (fun b q h => exp_no (s := []) (by have := at_next (t := 46 :: (zr k ++ [49])) (s := []) (by rw [List.append_nil]; exact h); simpa using this) (fun c t e => by cases e)) h9 (by rw [← List.append_assoc, val_one]; omega) (by simp)
  rw [itoa_sg]
  simpa using this
theorem err_exp {k : Nat} (hn : n ≠ 0) (hk : 1 ≤ k) (hk2 : k ≤ 400) : looseM (Lib.itoa n ++ [49, 101, 45] ++ Lib.decDigits (k + 1)) = .error (132, 0) := by
  have hnl := n_len h0 h1
  have e1 := (dec_digit (k + 1)).2.2.2
  have e2 := (dec_digit (k + 1)).1
  have e3 := (dec_digit (k + 1)).2.1
  have e4 : (Lib.decDigits (k + 1)).length ≤ 20 := dec_len (Nat.lt_of_le_of_lt (show k + 1 ≤ 401 by omega) (by decide))
  have := err_text (mi := decide (n < 0)) (I := Lib.decDigits n.natAbs ++ [49]) (s := 101 :: 45 :: Lib.decDigits (k + 1)) (F := []) (x := -((k + 1 : Nat) : Int)) (K := k) (p2 := 0) (p3 := 2 + (Lib.decDigits (k + 1)).length) (Dg.app (by omega) (by simp [digit])) (nod_of rfl) (by simp; omega)
    (fun b q h => frac_no h (fun c t e => by cases e; decide))
    (fun b q h => by
      have := exp_neg (t := Lib.decDigits (k + 1)) (s := []) (by rw [List.append_nil]; exact h) e1 e2 nod_nil (by rw [e3]; omega)
      rw [e3, Nat.add_assoc q, Nat.add_assoc q] at this
      exact this) (by simp) (by rw [List.append_nil, val_one]; omega) (by simp)
  rw [itoa_sg]
  simpa using this
theorem err_big {k : Nat} (hn : n ≠ 0) (hk2 : k ≤ 400) : looseM (Lib.itoa n ++ zr k ++ zr 20) = .error (133, 0) := by
  have hnl := n_len h0 h1
  obtain ⟨I, hI⟩ : ∃ I, Lib.decDigits n.natAbs ++ (zr k ++ zr 20) = I := ⟨_, rfl⟩
  have hDg : Dg I := by
    rw [← hI]
    refine Dg.app (by omega) fun c hc => ?_
    rcases List.mem_append.1 hc with hc | hc
    · exact zeros_d k c hc
    · exact zeros_d 20 c hc
  obtain ⟨b, hb⟩ : ∃ b, Lib.itoa n ++ zr k ++ zr 20 = b := ⟨_, rfl⟩
  have hb2 : b = sg (decide (n < 0)) ++ (I ++ []) := by rw [← hb, itoa_sg, ← hI]; simp
  have hsgl : (sg (decide (n < 0))).length ≤ 1 := by unfold sg; split <;> simp
  have hIl : I.length ≤ 20 + (k + 20) := by rw [← hI]; simp; omega
  have hd : b.drop 0 = sg (decide (n < 0)) ++ (I ++ []) := hb2
  have hq := at_next (at_next hd)
  have hbl : b.length = 0 + (sg (decide (n < 0))).length + I.length := by rw [hb2]; simp
  have hvI : val I = n.natAbs * 10 ^ k * 10 ^ 20 := by
    rw [← hI, ← List.append_assoc, val_append, val_append, val_zeros, val_zeros, (dec_digit n.natAbs).2.1]; simp
  have hpos : 1 ≤ n.natAbs * 10 ^ k := Nat.mul_pos (by omega) (Nat.pow_pos (by omega))
  rw [hb]
  refine loose_numE hb2 hDg (by omega) (num_big hd hDg nod_nil (frac_no hq (fun c t e => by cases e)) (exp_no hq (fun c t e => by cases e)) ?_)
  rw [hvI]
  have h20 : (10 : Nat) ^ 20 = 100000000000000000000 := by decide
  have h19 : (10 : Nat) ^ 19 = 10000000000000000000 := by decide
  rw [h20, h19]
  omega
end
end Go.Proofs.YtbmeafeojcgndaaDoor

/- The law of numbers, walked. -/
set_option linter.unusedVariables false
set_option linter.unusedSimpArgs false
namespace Go.Proofs.YtbmeafeojcgndaaDoor
open Go Go.Sl Go.RowKit
set_option maxRecDepth 100000
attribute [local irreducible] CW LW DW FR DP Calls Res Ret
section
variable {W : World}
set_option maxHeartbeats 4000000 in
theorem reads_call (hU : Lib.Utf8Tabs 1 2 W) (t : List UInt8) (n : Int) (hm : looseM t = .ok (.mk 2 n [] [] [])) :
    Calls Tryd.prog 22 [sv t, .int .i64 n].toArray W (Ret fun v w' => v = .bool true ∧ Sat W w' []) := by
  have hs := Sat.start W
  refine Calls_of Tryd.func22 rfl 28 Tryd.ntmps22 rfl ?_
  (repeat' (first | (refine isLW ?_; first | refine LW_nil ?_ | (refine isLstore ?_; first | (refine LW_storeCA 0 TOK hs rfl rfl rfl rfl rfl (oneV _ _ _ _ _ _ _ _ _) rfl (Nat.le_of_ble_eq_true rfl) ?_; clear hs; intro w hs)) | (refine isLcall ?_; first | (refine LW_call (cap := []) rfl rfl ent11 (looseL_call (tabs_of hU hs) (hrd 0 _ _ rfl hs) hcl hm) ?_; rintro _ w2 ⟨x1, rfl, hx1j, hs2⟩; obtain ⟨R1, hR1⟩ : ∃ R1, x1.rows = R1 := ⟨_, rfl⟩; rw [hR1] at hs2; replace hs := (hs.andThen hs2).perm List.perm_append_comm; clear hs2 hrd; obtain ⟨kk1, ii1, tt1, NA1, nc1, ns1, IA1, ic1, xs1⟩ := x1)) | (refine LW_strBytes t TOK hs rfl rfl rfl rfl rfl rfl rfl ?_; clear hs; intro bl cl ql w hcl hs hrd) | refine LW_pure TOK rfl ?_ | (refine LW_alloc TOK hs rfl rfl ?_; clear hs; intro _ w hs)) | (with_reducible first | refine then_n ?_ | refine CW_seq ?_ | refine CW_region ?_)))
  rename_i b3 _
  replace hs : Sat W _ (Cl b3 [.int .i64 kk1, .int .i64 ii1, sv tt1, .slice NA1 ns1.length nc1, .slice IA1 xs1.length ic1] 31 :: ql :: R1) := hs
  have hx1 : ∀ w, Sat W w (Cl b3 [.int .i64 kk1, .int .i64 ii1, sv tt1, .slice NA1 ns1.length nc1, .slice IA1 xs1.length ic1] 31 :: ql :: R1) → RdV w (RV.mk kk1 ii1 tt1 NA1 nc1 ns1 IA1 ic1 xs1) := fun w hs => rdV_of _ [Cl b3 [.int .i64 kk1, .int .i64 ii1, sv tt1, .slice NA1 ns1.length nc1, .slice IA1 xs1.length ic1] 31, ql] (by rw [hR1]; exact hs.perm (by classical exact List.perm_iff_count.2 fun x => by simp only [List.count_append, List.count_cons, List.count_nil]; ac_rfl))
  (repeat' (first | (refine isLW ?_; first | refine LW_nil ?_ | (refine isLg ?_; first | refine LW_take rfl ?_) | (refine isLload ?_; first | refine LW_loadCAE 0 [.int .i64 kk1, .int .i64 ii1, sv tt1, .slice NA1 ns1.length nc1, .slice IA1 xs1.length ic1] TOK hs rfl rfl rfl rfl (Nat.le_of_ble_eq_true rfl) rfl ?_) | (refine isLcall ?_; first | (refine LW_call (cap := []) rfl rfl ent12 (num_call _ _ (by omega) (by omega)) ?_; rintro _ w2 ⟨rfl, rfl⟩) | (refine LW_call (cap := []) rfl rfl ent14 (sameV_call (hx1 _ hs) (RV.mk 2 n [] none 0 [] none 0 []) [] _ (.mk (.nil _ _ _) (.nil _ _ _) (Nat.le_refl _) (Nat.le_refl _) (fun x hx => by cases hx)) (by rw [hx1j]; simp [RV.j, RV.js]) (by rw [hx1j]; exact .mk (by simp) (by simp) (by simp) (by simp) (by simp)) (Sat.start _)) ?_; rintro _ w2 ⟨rfl, hs2⟩; replace hs := hs.and0 hs2; clear hs2)) | (refine isLbin ?_; first | (refine LW_cmp rfl (fun _ => ?_) (fun _ => ?_) <;> try (exfalso; omega))) | refine LW_pure TOK rfl ?_ | refine LW_build TOK rfl rfl rfl rfl rfl rfl ?_) | (with_reducible first | refine then_n ?_ | refine CW_ret ?_) | refine RET1 Tryd.results22 rfl ?_))
  exact ⟨rfl, hs.firsts 0⟩
end
end Go.Proofs.YtbmeafeojcgndaaDoor

/- The law of numbers, walked to its end. -/
set_option linter.unusedVariables false
set_option linter.unusedSimpArgs false
namespace Go.Proofs.YtbmeafeojcgndaaDoor
open Go Go.Sl Go.RowKit
set_option maxRecDepth 100000
attribute [local irreducible] CW LW DW FR DP Calls Res Ret
theorem read_m0 : looseM [45, 48] = .ok (.mk 2 0 [] [] []) := by kernel_rfl
section
variable {W : World}
theorem looseE_call {b : List UInt8} {B : Option Addr} {c : Nat} {e : Er} (hU : Lib.Utf8Tabs 1 2 W) (rb : Rd eB W B b) (hcb : b.length ≤ c) (h : looseM b = .error e) :
    Calls Tryd.prog 11 [Value.slice B b.length c].toArray W (Ret fun v w' => ∃ x : RV, v = .tuple #[.agg (eV x).toArray, .int .i64 e.1, .int .i64 e.2] ∧ x.j = zeroJ ∧ Sat W w' x.rows) := by
  have := loose_call hU rb hcb
  rw [h] at this
  exact this
set_option maxHeartbeats 16000000 in
theorem CjsonNumbers_call (hU : Lib.Utf8Tabs 1 2 W) (hT : Tab W) (n k0 : Int) (h0 : -9223372036854775808 ≤ n) (h1 : n ≤ 9223372036854775807) (g0 : -9223372036854775808 ≤ k0) (g1 : k0 ≤ 9223372036854775807) :
    Calls Tryd.prog 8 [.int .i64 n, .int .i64 k0].toArray W (Ret fun v w' => v = .bool true ∧ Sat W w' []) := by
  have hs := Sat.start W
  refine Calls_of Tryd.func8 rfl 160 Tryd.ntmps8 rfl ?_
  have hnl : (Lib.itoa n).length ≤ 21 := itoa_len h0 h1
  by_cases hk : 1 ≤ k0 ∧ k0 ≤ 400
  · obtain ⟨k, rfl⟩ : ∃ k : Nat, k0 = (k : Int) := ⟨k0.toNat, by omega⟩
    have hk1 : 1 ≤ k := by omega
    have hk2 : k ≤ 400 := by omega
    have hik : Lib.itoa (k : Int) = Lib.decDigits k := Lib.itoa_nonneg k
    have hik1 : Lib.itoa ((k : Int) + 1) = Lib.decDigits (k + 1) := Lib.itoa_nonneg (k + 1)
    have hkl : (Lib.decDigits k).length ≤ 20 := dec_len (Nat.lt_of_le_of_lt hk2 (by decide))
    have hkl1 : (Lib.decDigits (k + 1)).length ≤ 20 := dec_len (Nat.lt_of_le_of_lt (show k + 1 ≤ 401 by omega) (by decide))
    by_cases hn : n = 0
    · (repeat' (first | refine LW_svCat (a := Lib.itoa n) (b := [101, 48]) rfl rfl rfl rfl (by simp only [List.length_append, List.length_cons, List.length_nil, List.length_replicate]; omega) ?_ | refine LW_svCat (a := Lib.itoa n) (b := [46, 48, 69, 43, 48, 48]) rfl rfl rfl rfl (by simp only [List.length_append, List.length_cons, List.length_nil, List.length_replicate]; omega) ?_ | refine LW_svCat (a := [48, 46]) (b := zr k) rfl rfl rfl rfl (by simp only [List.length_append, List.length_cons, List.length_nil, List.length_replicate]; omega) ?_ | refine LW_svCat (a := [45, 48, 101]) (b := Lib.decDigits k) rfl rfl rfl rfl (by simp only [List.length_append, List.length_cons, List.length_nil, List.length_replicate]; omega) ?_ | refine LW_svCat (a := [48, 101, 45]) (b := Lib.decDigits k) rfl rfl rfl rfl (by simp only [List.length_append, List.length_cons, List.length_nil, List.length_replicate]; omega) ?_ | (refine isLW ?_; first | refine LW_nil ?_ | (refine isLg ?_; first | refine LW_take rfl ?_) | (refine isLcall ?_; first | (refine LW_call (cap := []) rfl rfl ent13 (started_call (tabs_of hU hs) (Tab.to hT hs)) ?_; rintro _ w2 ⟨rfl, hs2⟩; replace hs := hs.and0 hs2; clear hs2) | (refine LW_call (cap := []) rfl rfl ent21 (itoa_call hT _ n h0 h1 hs) ?_; clear hs; rintro _ w2 ⟨rfl, hs⟩) | (refine LW_call (cap := []) rfl rfl ent21 (itoa_call hT _ (k : Int) (by omega) (by omega) hs) ?_; clear hs; rintro _ w2 ⟨rfl, hs⟩; rw [hik]) | (refine LW_call (cap := []) rfl rfl ent23 (zeros_call _ k (by omega)) ?_; rintro _ w2 ⟨rfl, hs2⟩; replace hs := hs.and0 hs2; clear hs2) | (refine LW_call (cap := []) rfl rfl ent22 (reads_call (tabs_of hU hs) _ _ (by first | exact read_plain h0 h1 | exact read_e0 h0 h1 | exact read_dot h0 h1 | exact read_m0)) ?_; rintro _ w2 ⟨rfl, hs2⟩; replace hs := hs.and0 hs2; clear hs2) | (refine LW_call (cap := []) rfl rfl ent22 (reads_call (tabs_of hU hs) _ _ (by first | exact read_z1 hk1 hk2 | exact read_z2 hk1 hk2 | exact read_z3 hk1 hk2)) ?_; rintro _ w2 ⟨rfl, hs2⟩; replace hs := hs.and0 hs2; clear hs2)) | (refine isLbin ?_; first | (refine LW_cmp rfl (fun _ => ?_) (fun _ => ?_) <;> try (exfalso; omega))) | refine LW_pure TOK rfl ?_) | (with_reducible first | refine then_n ?_ | refine CW_seq ?_ | refine CW_region ?_ | refine CW_skip ?_ | refine CW_ret ?_ | refine then_r ?_) | refine CW_true rfl ?_ | refine CW_false rfl ?_ | refine RET1 Tryd.results8 rfl ?_))
      exact ⟨rfl, hs⟩
    · (repeat' (first | refine LW_svCat (a := Lib.itoa n) (b := [101, 48]) rfl rfl rfl rfl (by simp only [List.length_append, List.length_cons, List.length_nil, List.length_replicate]; omega) ?_ | refine LW_svCat (a := Lib.itoa n) (b := [46, 48, 69, 43, 48, 48]) rfl rfl rfl rfl (by simp only [List.length_append, List.length_cons, List.length_nil, List.length_replicate]; omega) ?_ | refine LW_svCat (a := Lib.itoa n) (b := [46]) rfl rfl rfl rfl (by simp only [List.length_append, List.length_cons, List.length_nil, List.length_replicate]; omega) ?_ | refine LW_svCat (a := Lib.itoa n ++ [46]) (b := zr k) rfl rfl rfl rfl (by simp only [List.length_append, List.length_cons, List.length_nil, List.length_replicate]; omega) ?_ | refine LW_svCat (a := Lib.itoa n) (b := zr k) rfl rfl rfl rfl (by simp only [List.length_append, List.length_cons, List.length_nil, List.length_replicate]; omega) ?_ | refine LW_svCat (a := Lib.itoa n ++ zr k) (b := [101, 45]) rfl rfl rfl rfl (by simp only [List.length_append, List.length_cons, List.length_nil, List.length_replicate]; omega) ?_ | refine LW_svCat (a := Lib.itoa n ++ zr k ++ [101, 45]) (b := Lib.decDigits k) rfl rfl rfl rfl (by simp only [List.length_append, List.length_cons, List.length_nil, List.length_replicate]; omega) ?_ | refine LW_svCat (a := Lib.itoa n ++ zr k) (b := [46]) rfl rfl rfl rfl (by simp only [List.length_append, List.length_cons, List.length_nil, List.length_replicate]; omega) ?_ | refine LW_svCat (a := Lib.itoa n ++ zr k ++ [46]) (b := zr k) rfl rfl rfl rfl (by simp only [List.length_append, List.length_cons, List.length_nil, List.length_replicate]; omega) ?_ | refine LW_svCat (a := Lib.itoa n ++ zr k ++ [46] ++ zr k) (b := [101, 45]) rfl rfl rfl rfl (by simp only [List.length_append, List.length_cons, List.length_nil, List.length_replicate]; omega) ?_ | refine LW_svCat (a := Lib.itoa n ++ zr k ++ [46] ++ zr k ++ [101, 45]) (b := Lib.decDigits k) rfl rfl rfl rfl (by simp only [List.length_append, List.length_cons, List.length_nil, List.length_replicate]; omega) ?_ | refine LW_svCat (a := Lib.itoa n ++ [46] ++ zr k) (b := [49]) rfl rfl rfl rfl (by simp only [List.length_append, List.length_cons, List.length_nil, List.length_replicate]; omega) ?_ | refine LW_svCat (a := Lib.itoa n ++ zr k) (b := zr 20) rfl rfl rfl rfl (by simp only [List.length_append, List.length_cons, List.length_nil, List.length_replicate]; omega) ?_ | refine LW_svCat (a := Lib.itoa n) (b := [49, 101, 45]) rfl rfl rfl rfl (by simp only [List.length_append, List.length_cons, List.length_nil, List.length_replicate]; omega) ?_ | refine LW_svCat (a := Lib.itoa n ++ [49, 101, 45]) (b := Lib.decDigits (k + 1)) rfl rfl rfl rfl (by simp only [List.length_append, List.length_cons, List.length_nil, List.length_replicate]; omega) ?_ | (refine isLW ?_; first | refine LW_nil ?_ | (refine isLg ?_; first | refine LW_take rfl ?_) | (refine isLstore ?_; first | (refine LW_storeCA 0 TOK hs rfl rfl rfl rfl rfl (oneV _ _ _ _ _ _ _ _ _) rfl (Nat.le_of_ble_eq_true rfl) ?_; clear hs; intro w hs)) | (refine isLcall ?_; first | (refine LW_call (cap := []) rfl rfl ent13 (started_call (tabs_of hU hs) (Tab.to hT hs)) ?_; rintro _ w2 ⟨rfl, hs2⟩; replace hs := hs.and0 hs2; clear hs2) | (refine LW_call (cap := []) rfl rfl ent21 (itoa_call hT _ n h0 h1 hs) ?_; clear hs; rintro _ w2 ⟨rfl, hs⟩) | (refine LW_call (cap := []) rfl rfl ent21 (itoa_call hT _ (k : Int) (by omega) (by omega) hs) ?_; clear hs; rintro _ w2 ⟨rfl, hs⟩; rw [hik]) | (refine LW_call (cap := []) rfl rfl ent21 (itoa_call hT _ ((k : Int) + 1) (by omega) (by omega) hs) ?_; clear hs; rintro _ w2 ⟨rfl, hs⟩; rw [hik1]) | (refine LW_call (cap := []) rfl rfl ent23 (zeros_call _ k (by omega)) ?_; rintro _ w2 ⟨rfl, hs2⟩; replace hs := hs.and0 hs2; clear hs2) | (refine LW_call (cap := []) rfl rfl ent22 (reads_call (tabs_of hU hs) _ _ (by first | exact read_plain h0 h1 | exact read_e0 h0 h1 | exact read_dot h0 h1 | exact read_m0)) ?_; rintro _ w2 ⟨rfl, hs2⟩; replace hs := hs.and0 hs2; clear hs2) | (refine LW_call (cap := []) rfl rfl ent22 (reads_call (tabs_of hU hs) _ _ (by first | exact read_frac h0 h1 hk1 hk2 | exact read_exp h0 h1 hn hk1 hk2 | exact read_both h0 h1 hn hk1 hk2)) ?_; rintro _ w2 ⟨rfl, hs2⟩; replace hs := hs.and0 hs2; clear hs2) | (refine LW_call (cap := []) rfl rfl ent11 (looseE_call (tabs_of hU hs) (hrd 0 _ _ rfl hs) hcl (by first | exact err_frac h0 h1 hk2 | exact err_exp h0 h1 hn hk1 hk2 | exact err_big h0 h1 hn hk2)) ?_; rintro _ w2 ⟨x1, rfl, hx1j, hs2⟩; obtain ⟨R1, hR1⟩ : ∃ R1, x1.rows = R1 := ⟨_, rfl⟩; rw [hR1] at hs2; replace hs := (hs.andThen hs2).perm List.perm_append_comm; clear hs2 hrd hR1 hx1j; obtain ⟨kk1, ii1, tt1, NA1, nc1, ns1, IA1, ic1, xs1⟩ := x1) | (refine LW_call (cap := []) rfl rfl ent12 (num_call _ _ (by omega) (by omega)) ?_; rintro _ w2 ⟨rfl, rfl⟩)) | (refine isLbin ?_; first | refine LW_i64 rfl (by omega) (by omega) ?_ | (refine LW_cmp rfl (fun _ => ?_) (fun _ => ?_) <;> try (exfalso; omega))) | (refine LW_strBytes _ TOK hs rfl rfl rfl rfl rfl rfl rfl ?_; clear hs; intro bl cl ql w hcl hs hrd) | refine LW_pure TOK rfl ?_ | (refine LW_alloc TOK hs rfl rfl ?_; clear hs; intro _ w hs)) | (with_reducible first | refine then_n ?_ | refine CW_seq ?_ | refine CW_region ?_ | refine CW_skip ?_ | refine CW_ret ?_) | refine CW_false rfl ?_ | refine RET1 Tryd.results8 rfl ?_))
      exact ⟨rfl, hs.firsts 0⟩
  · (repeat' (first | refine LW_svCat (a := Lib.itoa n) (b := [101, 48]) rfl rfl rfl rfl (by simp only [List.length_append, List.length_cons, List.length_nil, List.length_replicate]; omega) ?_ | refine LW_svCat (a := Lib.itoa n) (b := [46, 48, 69, 43, 48, 48]) rfl rfl rfl rfl (by simp only [List.length_append, List.length_cons, List.length_nil, List.length_replicate]; omega) ?_ | (refine isLW ?_; first | refine LW_nil ?_ | (refine isLg ?_; first | refine LW_take rfl ?_ | refine LW_pass rfl rfl ?_) | (refine isLcall ?_; first | (refine LW_call (cap := []) rfl rfl ent13 (started_call (tabs_of hU hs) (Tab.to hT hs)) ?_; rintro _ w2 ⟨rfl, hs2⟩; replace hs := hs.and0 hs2; clear hs2) | (refine LW_call (cap := []) rfl rfl ent21 (itoa_call hT _ n h0 h1 hs) ?_; clear hs; rintro _ w2 ⟨rfl, hs⟩) | (refine LW_call (cap := []) rfl rfl ent22 (reads_call (tabs_of hU hs) _ _ (by first | exact read_plain h0 h1 | exact read_e0 h0 h1 | exact read_dot h0 h1 | exact read_m0)) ?_; rintro _ w2 ⟨rfl, hs2⟩; replace hs := hs.and0 hs2; clear hs2)) | (refine isLbin ?_; first | (refine LW_cmp rfl (fun _ => ?_) (fun _ => ?_) <;> try (exfalso; omega))) | refine LW_pure TOK rfl ?_) | (with_reducible first | refine then_n ?_ | refine CW_seq ?_ | refine CW_region ?_ | refine CW_skip ?_ | refine CW_ret ?_ | refine then_r ?_) | refine CW_true rfl ?_ | refine CW_false rfl ?_ | refine RET1 Tryd.results8 rfl ?_))
    all_goals exact ⟨rfl, hs⟩
end
end Go.Proofs.YtbmeafeojcgndaaDoor
