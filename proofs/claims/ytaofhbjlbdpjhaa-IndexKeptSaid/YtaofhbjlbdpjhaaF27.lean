/- Walks: what a container's bytes are, and that they are read as it was. -/
import Derived.Test.YtaofhbjlbdpjhaaF18
import Derived.Test.YtaofhbjlbdpjhaaF25
import Derived.Test.YtaofhbjlbdpjhaaP6
set_option linter.unusedVariables false
set_option linter.unusedSimpArgs false
namespace Go.Proofs.Ytaofhbjlbdpjhaa
open Go Go.Sl Go.RowKit
set_option maxRecDepth 100000
attribute [local irreducible] CW LW DW FR DP Calls

theorem given_keysR {mu : Mu Int} {l : List (Int × Int)} (ho : mu.Of l) (hok : ∀ p ∈ l, okI p.1) : seqP l (keysR l) = allP l := by
  show seqP l (keysR l) = srt (-9223372036854775808) 9223372036854775807 l
  rw [← given_srt ho, given_ends ho hok, Mu_keys ho hok]
theorem Of_same {mu : Mu Int} {l l' : List (Int × Int)} (h : mu.Of l') (hk : ∀ k, getK l' k = getK l k) (hl : l'.length = l.length) : mu.Of l := by
  refine ⟨h.keys, h.borns, h.lt, h.ne, fun e he => (h.vals e he).trans (hk _), fun p hp => ?_, h.tot.trans hl⟩
  have hne : getK l' p.1 ≠ [] := by
    rw [hk]
    intro he
    have : p.2 ∈ getK l p.1 := by
      unfold getK
      exact List.mem_map.2 ⟨p, List.mem_filter.2 ⟨hp, by simp⟩, rfl⟩
    rw [he] at this; cases this
  rcases h.find p.1 with ⟨E1, e, E2, hE, hek, _⟩ | ⟨_, hg⟩
  · exact ⟨e, by rw [hE]; simp, hek⟩
  · exact (hne hg).elim
theorem Of_allP {mu : Mu Int} {l : List (Int × Int)} (hok : ∀ p ∈ l, okI p.1) (h : mu.Of (allP l)) : mu.Of l := by
  refine Of_same h (fun k => ?_) (allP_perm hok).length_eq
  rw [getK_srt]
  split
  · rfl
  · rename_i hk
    refine (getK_nil_of fun p hp he => hk ?_).symm
    have := hok p hp
    unfold okI at this
    omega
theorem encK_err {L : List (Int × Int)} : ∀ (ks : List Int) (prev : Int) (out : List UInt8), ¬ (encK L ks prev out).1 = 0 → (encK L ks prev out).2 = []
  | [], _, _, h => (h rfl).elim
  | k :: ks, prev, out, h => by
    rw [encK] at h ⊢
    split at h
    · rw [if_pos ‹_›]
    · rw [if_neg ‹_›]
      split at h
      · rfl
      · exact encK_err ks k _ h
theorem encP_len (l : List (Int × Int)) : ∀ (ps : List (Int × Int)) (key at' : Int) (out : List UInt8), (encP l ps key at' out).2.length ≤ out.length + 30 * ps.length
  | [], _, _, out => by simp [encP]
  | x :: ps, key, at', out => by
    have h1 := ub_len (x.1 - key).toNat
    have h2 := ub_len (getK l x.1).length
    have h3 := ub_len (x.2 - 0).toNat
    have h4 := ub_len (x.2 - at').toNat
    rw [encP, List.length_cons]
    split
    · simp
    split
    · split
      · simp
      · have := encP_len l ps x.1 x.2 (out ++ ub (x.1 - key).toNat ++ ub (getK l x.1).length ++ ub (x.2 - 0).toNat)
        rw [List.length_append, List.length_append, List.length_append] at this
        omega
    · split
      · simp
      · have := encP_len l ps key x.2 (out ++ ub (x.2 - at').toNat)
        rw [List.length_append] at this
        omega
set_option maxHeartbeats 2000000 in
theorem plain_call (W w : World) (L : List HProp) (mu : Mu Int) (l : List (Int × Int)) (A : Option Addr) (c : Nat) (hs : Sat W w (muL mu ++ L)) (ho : mu.Of l) (hl : l.length ≤ 100000) (hok1 : ∀ p ∈ l, okI p.1) (hok2 : ∀ p ∈ l, okI p.2) (rl : ∀ w', Sat W w' L → Rd eP w' A l) :
    Calls Try.prog 55 [Value.pointer (some ⟨mu.m, 0, none⟩), .slice A l.length c].toArray w (Ret fun v w' => v = .bool true ∧ Sat W w' (muL mu ++ L)) := by
  refine Calls_of Try.func55 rfl 52 Try.ntmps55 rfl ?_
  obtain ⟨e, bs, hE⟩ : ∃ e bs, encR l = (e, bs) := ⟨_, _, rfl⟩
  have hbl : bs.length ≤ 10000000 := by
    have h1 := encP_len l (given mu l (-9223372036854775808) 9223372036854775807) 0 0 (ub (keysR l).length)
    rw [encP_given ho hok1, hE, given_all_len ho hok1] at h1
    have h2 := ub_len (keysR l).length
    dsimp only at h1
    omega
  have herr : ¬ e = 0 → bs = [] := fun h => by
    have := encK_err (L := l) (keysR l) 0 (ub (keysR l).length)
    rw [show encK l (keysR l) 0 (ub (keysR l).length) = (e, bs) from hE] at this
    exact this h
  (repeat' (first | (refine isLW ?_; first | refine LW_nil ?_ | (refine isLg ?_; first | refine LW_take rfl ?_ | refine LW_pass rfl rfl ?_ | refine LW_pass0 rfl rfl ?_ | refine LW_passV rfl rfl rfl ?_) | (refine isLload ?_; first | refine LW_loadC 0 TOK hs rfl rfl rfl rfl rfl ?_) | (refine isLstore ?_; first | (refine LW_storeC 0 TOK hs rfl rfl rfl rfl rfl rfl rfl ?_; clear hs; intro w hs)) | (refine isLcall ?_; first | (refine LW_call (cap := []) rfl rfl ent46 (Encode_call W _ L mu l hs ho hl hok1 hok2) ?_; clear hs; rintro _ w ⟨A1, c1, rfl, hs⟩; rw [hE] at hs ⊢) | (refine LW_call (cap := []) rfl rfl ent47 (RefEncode_call _ l A c (rl _ hs.drop1.drop1.drop1.drop1.drop1) hl hok1 hok2) ?_; rintro _ w ⟨A2, c2, rfl, hs2⟩; replace hs := hs.and1 hs2; clear hs2; rw [hE] at hs ⊢) | (refine LW_call (cap := []) rfl rfl ent48 (sameBytes_call _ bs bs A1 A2 c1 c2 (hs.rd 1 rfl) (hs.rd 0 rfl) (by omega)) ?_; rintro _ w ⟨rfl, hs2⟩; replace hs := hs.and0 hs2; clear hs2; rw [decide_eq_true rfl]) | (refine LW_call (cap := []) rfl rfl ent43 (holds_call W _ (RowOf eB 5 1 A2 c2 bs :: RowOf eB 5 1 A1 c1 bs :: L) mu l A c (hs.picks [2, 2, 2, 2]) ho hok1 (fun w' h => rl w' h.drop1.drop1) (by omega)) ?_; clear hs; rintro v w ⟨rfl, hs⟩) | refine LW_pure TOK rfl ?_ | refine LW_pure0 TOK rfl ?_) | (refine isLidx ?_; first | refine LW_indexAddr TOK rfl rfl rfl rfl rfl (by omega) (by omega) ?_) | (refine isLbin ?_; first | refine LW_pure TOK rfl ?_ | refine LW_i64 rfl (by omega) (by omega) ?_ | (refine LW_cmp rfl (fun _ => ?_) (fun _ => ?_) <;> try (exfalso; omega)) | refine LW_nileq TOK rfl ?_ | refine LW_cmpB rfl ?_) | refine LW_pure TOK rfl ?_ | refine LW_pure0 TOK rfl ?_ | refine LW_i64 rfl (by omega) (by omega) ?_ | (refine LW_box hs rfl rfl ?_; clear hs; intro _ w hs) | (refine LW_alloc TOK hs rfl rfl ?_; clear hs; intro _ w hs) | (refine LW_makeMap hs ?_; clear hs; intro _ w hs) | (refine LW_buildSlice TOK hs rfl rfl rfl rfl rfl rfl rfl ?_; clear hs; intro _ w hs) | refine LW_build TOK rfl rfl rfl rfl rfl rfl ?_) | (refine isDP ?_; first | (refine isDnil ?_; refine DP_end ?_ ?_) | (refine isDe rfl ?_; refine DP_eff rfl rfl ?_ ?_) | (refine isDg rfl ?_; first | refine DP_pass rfl rfl rfl rfl ?_ | refine DP_passU (j' := 0) rfl rfl rfl rfl rfl ?_) | (refine isDload rfl ?_; first | refine DP_loadC 0 hs TOK rfl rfl (by first | exact trivial | rfl) rfl rfl rfl rfl rfl ?_ ?_) | (refine isDbin rfl ?_; first | refine DP_pure TOK rfl rfl (by first | exact trivial | rfl) rfl ?_ | (refine DP_cmp rfl rfl (by first | exact trivial | rfl) rfl (fun _ => ?_) (fun _ => ?_) <;> try (exfalso; omega)) | refine DP_i64 rfl rfl (by first | exact trivial | rfl) rfl (by omega) (by omega) ?_ | refine DP_cmpB rfl rfl (by first | exact trivial | rfl) rfl ?_ | refine DP_nileq TOK rfl rfl (by first | exact trivial | rfl) rfl ?_) | refine DP_pure TOK rfl rfl (by first | exact trivial | rfl) rfl ?_) | (refine isI0 ?_; exact Inv.nil) | (refine isI1 ?_; first | refine Inv.keepB hs ?_ | refine Inv.keepB (Sat.start _) ?_ | refine Inv.keepC 0 hs rfl rfl ?_ | refine Inv.gone (by kernel_rfl) ?_) | (with_reducible first | refine LW_nil ?_ | refine then_n ?_ | refine CW_seq ?_ | refine CW_region ?_ | refine CW_block ?_ | refine CW_skip ?_ | refine CW_label ?_ | refine CW_exit ?_ | refine CW_ret ?_ | refine then_e ?_ | refine then_r ?_ | refine blk_n ?_ | refine blk_r ?_ | refine blk_same ?_ | refine QN_n ?_) | refine blk_other rfl ?_ | refine CW_true rfl ?_ | refine CW_false rfl ?_ | refine RET1 Try.results55 rfl ?_ | refine RET2 Try.results55 rfl rfl ?_ | refine RET3 Try.results55 rfl rfl rfl ?_ | refine RET0 Try.results55 ?_ | refine RET0n Try.results55 ?_))
  · exact ⟨rfl, Sat.drop1 (Sat.drop1 (hs.picks [4, 4]))⟩
  · exfalso
    rename_i h1 h2
    dsimp only at h1 h2
    exact h2 (by rw [herr h1]; rfl)
  have he0 : e = 0 := by
    rename_i h1
    dsimp only at h1
    omega
  subst he0
  have hd := dec_forth hok1 hok2 hl hE
  rw [given_keysR ho hok1] at hd
  (repeat' (first | (refine isLW ?_; first | refine LW_nil ?_ | (refine isLg ?_; first | refine LW_take rfl ?_ | refine LW_pass rfl rfl ?_ | refine LW_pass0 rfl rfl ?_ | refine LW_passV rfl rfl rfl ?_) | (refine isLload ?_; first | refine LW_loadC 0 TOK hs rfl rfl rfl rfl rfl ?_) | (refine isLstore ?_; first | (refine LW_storeC 0 TOK hs rfl rfl rfl rfl rfl rfl rfl ?_; clear hs; intro w hs)) | (refine isLcall ?_; first | (refine LW_call (cap := []) rfl rfl ent51 (Decode_ok _ bs A1 c1 (hs.rd 5 rfl) hbl hd) ?_; rintro v w ⟨mu2, rfl, ho2, hll, hs2⟩; replace hs := hs.andThen hs2; clear hs2) | (refine LW_call (cap := []) rfl rfl ent43 (holds_call W _ (muL mu ++ RowOf eB 5 1 A2 c2 bs :: RowOf eB 5 1 A1 c1 bs :: L) mu2 l A c hs (Of_allP hok1 ho2) hok1 (fun w' h => rl w' h.drop1.drop1.drop1.drop1.drop1.drop1) (by omega)) ?_; clear hs; rintro v w ⟨rfl, hs⟩) | refine LW_pure TOK rfl ?_ | refine LW_pure0 TOK rfl ?_) | (refine isLidx ?_; first | refine LW_indexAddr TOK rfl rfl rfl rfl rfl (by omega) (by omega) ?_) | (refine isLbin ?_; first | refine LW_pure TOK rfl ?_ | refine LW_i64 rfl (by omega) (by omega) ?_ | (refine LW_cmp rfl (fun _ => ?_) (fun _ => ?_) <;> try (exfalso; omega)) | refine LW_nileq TOK rfl ?_ | refine LW_cmpB rfl ?_) | refine LW_pure TOK rfl ?_ | refine LW_pure0 TOK rfl ?_ | refine LW_i64 rfl (by omega) (by omega) ?_ | (refine LW_box hs rfl rfl ?_; clear hs; intro _ w hs) | (refine LW_alloc TOK hs rfl rfl ?_; clear hs; intro _ w hs) | (refine LW_makeMap hs ?_; clear hs; intro _ w hs) | (refine LW_buildSlice TOK hs rfl rfl rfl rfl rfl rfl rfl ?_; clear hs; intro _ w hs) | refine LW_build TOK rfl rfl rfl rfl rfl rfl ?_) | (refine isDP ?_; first | (refine isDnil ?_; refine DP_end ?_ ?_) | (refine isDe rfl ?_; refine DP_eff rfl rfl ?_ ?_) | (refine isDg rfl ?_; first | refine DP_pass rfl rfl rfl rfl ?_ | refine DP_passU (j' := 0) rfl rfl rfl rfl rfl ?_) | (refine isDload rfl ?_; first | refine DP_loadC 0 hs TOK rfl rfl (by first | exact trivial | rfl) rfl rfl rfl rfl rfl ?_ ?_) | (refine isDbin rfl ?_; first | refine DP_pure TOK rfl rfl (by first | exact trivial | rfl) rfl ?_ | (refine DP_cmp rfl rfl (by first | exact trivial | rfl) rfl (fun _ => ?_) (fun _ => ?_) <;> try (exfalso; omega)) | refine DP_i64 rfl rfl (by first | exact trivial | rfl) rfl (by omega) (by omega) ?_ | refine DP_cmpB rfl rfl (by first | exact trivial | rfl) rfl ?_ | refine DP_nileq TOK rfl rfl (by first | exact trivial | rfl) rfl ?_) | refine DP_pure TOK rfl rfl (by first | exact trivial | rfl) rfl ?_) | (refine isI0 ?_; exact Inv.nil) | (refine isI1 ?_; first | refine Inv.keepB hs ?_ | refine Inv.keepB (Sat.start _) ?_ | refine Inv.keepC 0 hs rfl rfl ?_ | refine Inv.gone (by kernel_rfl) ?_) | (with_reducible first | refine LW_nil ?_ | refine then_n ?_ | refine CW_seq ?_ | refine CW_region ?_ | refine CW_block ?_ | refine CW_skip ?_ | refine CW_label ?_ | refine CW_exit ?_ | refine CW_ret ?_ | refine then_e ?_ | refine then_r ?_ | refine blk_n ?_ | refine blk_r ?_ | refine blk_same ?_ | refine QN_n ?_) | refine blk_other rfl ?_ | refine CW_true rfl ?_ | refine CW_false rfl ?_ | refine RET1 Try.results55 rfl ?_ | refine RET2 Try.results55 rfl rfl ?_ | refine RET3 Try.results55 rfl rfl rfl ?_ | refine RET0 Try.results55 ?_ | refine RET0n Try.results55 ?_))
  exact ⟨rfl, Sat.drop1 (Sat.drop1 ((Sat.drop1 (Sat.drop1 (Sat.drop1 (Sat.drop1 hs)))).picks [4, 4]))⟩
end Go.Proofs.Ytaofhbjlbdpjhaa
