/- Regions whose order is drawn: what only reads is taken first, where what it reads is shown to stay. -/
import Derived.Test.YtaofhbjlbdpjhaaSlOps
import Derived.OrdersIn
set_option linter.unusedVariables false
set_option linter.unusedSimpArgs false
namespace Go.Sl
open Go.RowKit

def QF : Exit → Act → World → Prop := fun _ _ _ => False
def QN (K : Act → World → Prop) : Exit → Act → World → Prop
  | .normal, a, w => K a w
  | _, _, _ => False
theorem uponIn_mono {F : Fence} {n : Nat} {P : Program} {o : Oper} {a : Act} {K K' : Act → World → Prop} {Q Q' : Exit → Act → World → Prop} (hK : ∀ a w, K a w → K' a w) (hQ : ∀ c a w, Q (.panic c) a w → Q' (.panic c) a w) (hO : ∀ a w, Q .outgrown a w → Q' .outgrown a w) :
    ∀ {x : Result Next}, o.uponIn F n P a K Q x → o.uponIn F n P a K' Q' x := by
  intro x h
  unfold Oper.uponIn at h ⊢
  split at h
  · exact hK _ _ h
  · exact hK _ _ h
  · exact hK _ _ h
  · exact ⟨h.1, h.2.mono fun e w q => by
      cases e
      · exact hK _ _ q
      · exact hQ _ _ _ q
      · obtain ⟨a', w', q⟩ := q; exact ⟨a', w', hO _ _ q⟩⟩
  · exact ⟨h.1, h.2.mono fun v w q => hK _ _ q⟩
  · exact ⟨h.1, h.2.mono fun e w q => by
      cases e
      · exact hK _ _ q
      · exact hQ _ _ _ q
      · obtain ⟨a', w', q⟩ := q; exact ⟨a', w', hO _ _ q⟩⟩
  · exact hQ _ _ _ h
  · exact h.elim

section
variable {r : Option Nat} {P : Program} {ops : Array Oper}
/-- One operation, its guard asked, nothing but going on allowed. -/
def opW (r : Option Nat) (P : Program) (ops : Array Oper) (o : Oper) (K : Act → World → Prop) (a : Act) (w : World) : Prop :=
  if Region.wanted o (yielded ops a.tmps) then o.uponIn (FW r) 0 P a K QF ((execOp a.eval o).run P w) else K (a.put o.dst undef) w
theorem opW_mono {o : Oper} {K K' : Act → World → Prop} (hK : ∀ a w, K a w → K' a w) {a : Act} {w : World} (h : opW r P ops o K a w) : opW r P ops o K' a w := by
  unfold opW at h ⊢
  split at h
  · rw [if_pos ‹_›]; exact uponIn_mono hK (fun _ _ _ q => q) (fun _ _ q => q) h
  · rw [if_neg ‹_›]; exact hK _ _ h
def noDefer (ops : Array Oper) : Bool := ops.all fun o => match o.op with | .defer _ => false | .select .. => false | _ => true
theorem noDefer_spec (h : noDefer ops = true) {j : Nat} {o : Oper} (ho : ops[j]? = some o) : (∀ c, o.op ≠ .defer c) ∧ ∀ cs b, o.op ≠ .select cs b := by
  have := Array.all_eq_true_iff_forall_mem.1 h o (Array.mem_of_getElem? ho)
  exact ⟨fun c e => by simp [e] at this, fun cs b e => by simp [e] at this⟩
def wpI (r : Option Nat) (P : Program) (ops : Array Oper) (K : Act → World → Prop) (I : Array Bool → World → Prop) : Nat → Array Bool → Act → World → Prop
  | 0, listed, a, w => Region.ready .any ops listed = [] ∧ K a w
  | fuel + 1, listed, a, w => (Region.ready .any ops listed = [] → K a w) ∧
    ∀ i ∈ Region.ready .any ops listed, ∀ o, ops[i]? = some o → opW r P ops o (fun a' w' => I (listed.setIfInBounds i true) w' ∧ wpI r P ops K I fuel (listed.setIfInBounds i true) a' w') a w
theorem wpI_sound {K : Act → World → Prop} {I : Array Bool → World → Prop} {Q : Exit → Act → World → Prop} (hnd : noDefer ops = true) (hKQ : ∀ a w, K a w → Q .normal a w) :
    ∀ (fuel : Nat) (listed : Array Bool) (a : Act) (w : World), wpI r P ops K I fuel listed a w → wpAnyIn (FW r) 0 P .any ops Q fuel listed a w := by
  intro fuel
  induction fuel with
  | zero => exact fun listed a w h => ⟨h.1, hKQ _ _ h.2⟩
  | succ fuel ih =>
    intro listed a w h
    refine ⟨fun hr => hKQ _ _ (h.1 hr), fun i hi => ?_⟩
    obtain ⟨_, o, ho, _⟩ := mem_ready.1 hi
    have h1 := h.2 i hi o ho
    unfold wpOpIn
    simp only [ho]
    unfold opW at h1
    split at h1
    · rw [if_pos ‹_›]
      refine ⟨fun _ _ => trivial, ?_⟩
      rw [Oper.semAt_eq _ _ _ (noDefer_spec hnd ho).1]
      exact uponIn_mono (fun a w q => ih _ _ _ q.2) (fun _ _ _ q => q.elim) (fun _ _ q => q.elim) h1
    · rw [if_neg ‹_›]
      exact ⟨fun _ _ => trivial, ih _ _ _ h1.2⟩
/-- What an operation yields as long as c holds of the world. -/
def YC (P : Program) (ops : Array Oper) (c : World → Prop) (o : Oper) (v : Value) (a : Act) : Prop :=
  (Region.wanted o (yielded ops a.tmps) = true ∧ ∀ w, c w → (execOp a.eval o).run P w = .ok (.value v) w) ∨ (Region.wanted o (yielded ops a.tmps) = false ∧ v = undef)
theorem YC.opW {c : World → Prop} {o : Oper} {v : Value} {a : Act} (hy : YC P ops c o v a) {K : Act → World → Prop} {w : World} (hc : c w) (h : K (a.put o.dst v) w) : opW r P ops o K a w := by
  unfold Sl.opW
  rcases hy with ⟨hw, hv⟩ | ⟨hw, rfl⟩
  · rw [if_pos hw, hv w hc]; exact h
  · rw [if_neg (by simp [hw])]; exact h
theorem opW_put {oi oj : Oper} {v : Value} (hap : oi.apart ops oj = true) (hsel : ∀ cs b, oj.op ≠ .select cs b) {K : Act → World → Prop} {a : Act} {w : World}
    (h : opW r P ops oj K (a.put oi.dst v) w) : opW r P ops oj (fun a' w' => K (a'.put oi.dst v) w') a w := by
  obtain ⟨h1, h2, _⟩ := Oper.apart_spec hap
  unfold opW at h ⊢
  rw [wanted_put oj a oi.dst v h1, execOp_put oj hsel a oi.dst v h1] at h
  split at h
  · rw [if_pos ‹_›]
    unfold Oper.uponIn at h ⊢
    split at h
    · show K _ _; rw [← Act.put_comm a v _ h2]; exact h
    · show K _ _; rw [← Act.put_comm a v _ h2]; exact h
    · show K _ _; rw [← Act.put_comm _ v undef h2, ← Act.put_defers]; exact h
    · exact ⟨h.1, h.2.mono fun e w q => by
        cases e
        · show K _ _; rw [← Act.put_comm a v _ h2]; exact q
        · exact q.elim
        · obtain ⟨a', w', q⟩ := q; exact q.elim⟩
    · exact ⟨h.1, h.2.mono fun u w q => by show K _ _; rw [← Act.put_comm a v _ h2]; exact q⟩
    · exact ⟨h.1, h.2.mono fun e w q => by
        cases e
        · show K _ _; rw [← Act.put_comm a v _ h2]; exact q
        · exact q.elim
        · obtain ⟨a', w', q⟩ := q; exact q.elim⟩
    · exact h.elim
    · exact h.elim
  · rw [if_neg ‹_›]; show K _ _; rw [← Act.put_comm a v _ h2]; exact h
theorem YC.same {c : World → Prop} {oi oj : Oper} {v : Value} {a : Act} {u : Value} (hap : oi.apart ops oj = true) (hsel : ∀ cs b, oi.op ≠ .select cs b) (h : YC P ops c oi v a) : YC P ops c oi v (a.put oj.dst u) := by
  obtain ⟨_, _, h3⟩ := Oper.apart_spec hap
  unfold YC at h ⊢
  rw [wanted_put oi a oj.dst u h3, execOp_put oi hsel a oj.dst u h3]
  exact h
theorem YC.defers {c : World → Prop} {oi : Oper} {v : Value} {a : Act} {ds : List Deferred} (h : YC P ops c oi v a) : YC P ops c oi v { a with defers := ds } := by
  have e : ({ a with defers := ds } : Act).eval = a.eval := by funext x; cases x <;> rfl
  unfold YC at h ⊢
  rw [e]; exact h
/-- What an operation leaves of the frame: one slot at most. -/
theorem opW_keeps {c : World → Prop} {oi oj : Oper} {v : Value} (hap : oi.apart ops oj = true) (hsel : ∀ cs b, oi.op ≠ .select cs b) {K K' : Act → World → Prop} {a : Act} {w : World} (hy : YC P ops c oi v a)
    (hK : ∀ a' w', YC P ops c oi v a' → K a' w' → K' a' w') (h : opW r P ops oj K a w) : opW r P ops oj K' a w := by
  unfold opW at h ⊢
  split at h
  · rw [if_pos ‹_›]
    unfold Oper.uponIn at h ⊢
    split at h
    · exact hK _ _ (hy.same hap hsel) h
    · exact hK _ _ (hy.same hap hsel) h
    · exact hK _ _ ((hy.defers).same hap hsel) h
    · exact ⟨h.1, h.2.mono fun e w q => by
        cases e
        · exact hK _ _ (hy.same hap hsel) q
        · exact q.elim
        · obtain ⟨a', w', q⟩ := q; exact q.elim⟩
    · exact ⟨h.1, h.2.mono fun u w q => hK _ _ (hy.same hap hsel) q⟩
    · exact ⟨h.1, h.2.mono fun e w q => by
        cases e
        · exact hK _ _ (hy.same hap hsel) q
        · exact q.elim
        · obtain ⟨a', w', q⟩ := q; exact q.elim⟩
    · exact h.elim
    · exact h.elim
  · rw [if_neg ‹_›]; exact hK _ _ (hy.same hap hsel) h
/-- What each operation hangs on, through others too: as the bits of a number. -/
def clo : List Oper → List Nat → List Nat
  | [], acc => acc
  | o :: l, acc => clo l (acc ++ [o.after.toList.foldl (fun s e => cond (Region.binds .any e) (s ||| 2 ^ e.on ||| acc.getD e.on 0) s) 0])
def Down (ops : Array Oper) (S : Nat → Bool) : Prop := ∀ j o, ops[j]? = some o → S j = true → ∀ e ∈ o.after, Region.binds .any e = true → S e.on = true
theorem fold_bit (S : Nat → Bool) (acc : List Nat) (hacc : ∀ k r, (acc.getD k 0).testBit r = true → S k = true → S r = true) : ∀ (l : List Edge) (m : Nat), (∀ e ∈ l, Region.binds .any e = true → S e.on = true) → (∀ r, m.testBit r = true → S r = true) →
    ∀ r, (l.foldl (fun s e => cond (Region.binds .any e) (s ||| 2 ^ e.on ||| acc.getD e.on 0) s) m).testBit r = true → S r = true
  | [], m, _, hm, r, h => hm r h
  | e :: l, m, he, hm, r, h => by
    refine fold_bit S acc hacc l _ (fun e' h' => he e' (List.mem_cons_of_mem _ h')) ?_ r h
    intro r hr
    simp only at hr
    cases hb : Region.binds .any e with
    | false => rw [hb] at hr; exact hm r hr
    | true =>
      have hs := he e (List.mem_cons_self) hb
      rw [hb] at hr
      simp only [cond_true, Nat.testBit_or, Bool.or_eq_true] at hr
      rcases hr with (hr | hr) | hr
      · exact hm r hr
      · rw [Nat.testBit_two_pow] at hr
        have : e.on = r := by simpa using hr
        exact this ▸ hs
      · exact hacc e.on r hr hs
theorem clo_bit (S : Nat → Bool) : ∀ (l pre : List Oper) (acc : List Nat), acc.length = pre.length → Down (pre ++ l).toArray S → (∀ k r, (acc.getD k 0).testBit r = true → S k = true → S r = true) →
    ∀ k r, ((clo l acc).getD k 0).testBit r = true → S k = true → S r = true
  | [], pre, acc, _, _, hacc, k, r, h, hk => hacc k r h hk
  | o :: l, pre, acc, hlen, hd, hacc, k, r, h, hk => by
    refine clo_bit S l (pre ++ [o]) _ (by simp [hlen]) (by simpa using hd) ?_ k r h hk
    intro k r hb hk
    by_cases hlt : k < acc.length
    · rw [List.getD_eq_getElem?_getD, List.getElem?_append_left hlt, ← List.getD_eq_getElem?_getD] at hb
      exact hacc k r hb hk
    · by_cases heq : k = acc.length
      · subst heq
        rw [List.getD_eq_getElem?_getD, List.getElem?_append_right (Nat.le_refl _)] at hb
        simp only [Nat.sub_self, List.getElem?_cons_zero, Option.getD_some] at hb
        refine fold_bit S acc hacc _ 0 ?_ (fun r h => by simp at h) r hb
        intro e he hbind
        exact hd acc.length o (by simp [hlen]) hk e (by simpa using he) hbind
      · rw [List.getD_eq_getElem?_getD, List.getElem?_eq_none (by simp; omega)] at hb
        simp at hb
def live (ops : List Oper) (eff : List Nat) (listed : Array Bool) (i : Nat) : Bool := eff.all fun e => !(listed.getD e false) || !((clo ops []).getD e 0).testBit i
def Inv (ops : List Oper) (eff : List Nat) (Cs : List (Nat × (World → Prop))) (listed : Array Bool) (w : World) : Prop := ∀ p ∈ Cs, live ops eff listed p.1 = true → p.2 w
theorem live_set {l : List Oper} {eff : List Nat} {listed : Array Bool} {i j : Nat} (h : eff.contains i = false) : live l eff (listed.setIfInBounds i true) j = live l eff listed j := by
  unfold live
  have hk : ∀ e ∈ eff, (listed.setIfInBounds i true).getD e false = listed.getD e false := fun e he => getD_set_ne false (fun hie => by
    subst hie; simp at h; exact h he)
  rw [Bool.eq_iff_iff, List.all_eq_true, List.all_eq_true]
  exact ⟨fun h e he => by have := h e he; rwa [hk e he] at this, fun h e he => by rw [hk e he]; exact h e he⟩
end
section
variable {r : Option Nat} {P : Program} {l : List Oper} {eff : List Nat}
theorem down_ready {listed : Array Bool} {i : Nat} (hd : Down l.toArray (fun j => listed.getD j false)) (hi : i ∈ Region.ready .any l.toArray listed) : Down l.toArray (fun j => (listed.setIfInBounds i true).getD j false) := by
  intro j o ho hj e he hb
  obtain ⟨_, oi, hoi, hall⟩ := mem_ready.1 hi
  by_cases hij : i = j
  · subst hij
    rw [ho] at hoi; cases hoi
    exact getD_set_true (hall e he hb)
  · have hj' : listed.getD j false = true := by
      have := getD_set_ne (listed := listed) false hij
      simp only at hj; rw [this] at hj; exact hj
    exact getD_set_true (hd j o ho hj' e he hb)
theorem wpI_first {K : Act → World → Prop} {c : World → Prop} {i : Nat} {oi : Oper} {v : Value} (hi : l.toArray[i]? = some oi) (hnd : noDefer l.toArray = true) (heff : eff.contains i = false) :
    ∀ (fuel : Nat) (Cs : List (Nat × (World → Prop))) (listed : Array Bool) (a : Act) (w : World),
      (∀ j oj, l.toArray[j]? = some oj → j ≠ i → listed.getD j true = false → (∀ e ∈ oj.after, Region.binds .any e = true → e.on ≠ i) → oi.apart l.toArray oj = true) →
      Down l.toArray (fun j => listed.getD j false) → i ∈ Region.ready .any l.toArray listed → YC P l.toArray c oi v a → c w → Inv l eff Cs listed w →
      wpI r P l.toArray K (Inv l eff ((i, c) :: Cs)) fuel (listed.setIfInBounds i true) (a.put oi.dst v) w → wpI r P l.toArray K (Inv l eff Cs) (fuel + 1) listed a w := by
  intro fuel
  induction fuel with
  | zero =>
    intro Cs listed a w _ hd hr hy hc hI H
    refine ⟨fun h => (by rw [h] at hr; cases hr), fun j hj o ho => ?_⟩
    by_cases hji : j = i
    · subst hji; rw [hi] at ho; cases ho
      refine hy.opW hc ⟨fun p hp hl => hI p hp (by rwa [live_set heff] at hl), H⟩
    · have := ready_mono hj hji
      rw [H.1] at this
      cases this
  | succ fuel ih =>
    intro Cs listed a w hfree hd hr hy hc hI H
    refine ⟨fun h => (by rw [h] at hr; cases hr), fun j hj o ho => ?_⟩
    by_cases hji : j = i
    · subst hji; rw [hi] at ho; cases ho
      refine hy.opW hc ⟨fun p hp hl => hI p hp (by rwa [live_set heff] at hl), ?_⟩
      have mono : ∀ (fuel : Nat) (listed : Array Bool) (a : Act) (w : World), wpI r P l.toArray K (Inv l eff ((j, c) :: Cs)) fuel listed a w → wpI r P l.toArray K (Inv l eff Cs) fuel listed a w := by
        intro fuel
        induction fuel with
        | zero => exact fun _ _ _ h => h
        | succ f ih => exact fun l a w h => ⟨h.1, fun k hk o ho => opW_mono (fun a w q => ⟨fun p hp hl => q.1 p (List.mem_cons_of_mem _ hp) hl, ih _ _ _ q.2⟩) (h.2 k hk o ho)⟩
      exact mono _ _ _ _ H
    · have h1 := H.2 j (ready_mono hj hji) o ho
      obtain ⟨hjun, oj, hoj, hall⟩ := mem_ready.1 hj
      obtain rfl : o = oj := by rw [ho] at hoj; cases hoj; rfl
      have hiun : listed.getD i false = false := by
        have h0 := (mem_ready.1 hr).1
        rcases Nat.lt_or_ge i listed.size with h' | h'
        · simp [h'] at h0 ⊢; exact h0
        · simp [Array.getElem?_eq_none h']
      have hnot : ∀ e ∈ o.after, Region.binds .any e = true → e.on ≠ i := fun e he hb heq => by
        have h1 := hall e he hb
        rw [heq] at h1; rw [h1] at hiun; cases hiun
      have hap := hfree j o ho hji hjun hnot
      have h2 := opW_put hap (noDefer_spec hnd ho).2 h1
      have hfree' : ∀ k ok, l.toArray[k]? = some ok → k ≠ i → (listed.setIfInBounds j true).getD k true = false →
          (∀ e ∈ ok.after, Region.binds .any e = true → e.on ≠ i) → oi.apart l.toArray ok = true := fun k ok hk hki hun hno => by
        refine hfree k ok hk hki ?_ hno
        by_cases hjk : j = k
        · subst hjk; exact hjun
        · rw [getD_set_ne true hjk] at hun; exact hun
      have hd' := down_ready hd hj
      refine opW_keeps hap (noDefer_spec hnd hi).2 hy (fun a' w' hy' q => ?_) h2
      have hset : (listed.setIfInBounds i true).setIfInBounds j true = (listed.setIfInBounds j true).setIfInBounds i true := Array.setIfInBounds_comm _ _ (Ne.symm hji)
      rw [hset] at q
      have hI' : Inv l eff Cs (listed.setIfInBounds j true) w' := fun p hp hl => q.1 p (List.mem_cons_of_mem _ hp) (by rw [live_set heff]; exact hl)
      have hc' : c w' := by
        refine q.1 (i, c) (List.mem_cons_self) ?_
        rw [live_set heff]
        unfold live
        rw [List.all_eq_true]
        intro e he
        cases hle : (listed.setIfInBounds j true).getD e false with
        | false => rfl
        | true =>
          cases hb : ((clo l []).getD e 0).testBit i with
          | false => rfl
          | true =>
            exfalso
            have := clo_bit (fun j' => (listed.setIfInBounds j true).getD j' false) l [] [] rfl (by simpa using hd') (fun k r h => by simp at h) e i hb hle
            rw [getD_set_ne false hji, hiun] at this
            cases this
      refine ⟨hI', ih Cs (listed.setIfInBounds j true) a' w' hfree' hd' (ready_mono hr (Ne.symm hji)) hy' hc' hI' q.2⟩

def DW (r : Option Nat) (P : Program) (l : List Oper) (eff : List Nat) (K : Act → World → Prop) (Cs : List (Nat × (World → Prop))) (fuel : Nat) (listed : Array Bool) (a : Act) (w : World) : Prop :=
  Down l.toArray (fun j => listed.getD j false) → Inv l eff Cs listed w ∧ wpI r P l.toArray K (Inv l eff Cs) fuel listed a w
theorem CW_draw {Q : Exit → Act → World → Prop} {a : Act} {w : World} {id : Nat} (eff : List Nat) (hm : P.follows .mixedOrders = true) (hnd : noDefer l.toArray = true)
    (h : DW r P l eff (fun a w => Q .normal a w) [] l.length (Array.replicate l.length false) a w.drew) : CW r P (.region id l.toArray true) Q a w := by
  refine wpIn_region_any hm ?_
  have h1 := (h (fun j o _ hj => by
    exfalso
    by_cases hlt : j < l.length <;> simp [hlt] at hj)).2
  exact wpI_sound hnd (fun _ _ q => q) _ _ _ _ (by simpa using h1)
variable {K : Act → World → Prop} {Cs : List (Nat × (World → Prop))} {fuel : Nat} {listed : Array Bool} {a : Act} {w : World} {n : Nat} {s : List (Nat × Value)} {τ : Nat → Value} {ds : List Deferred}
theorem DW_yield (i : Nat) {o : Oper} {v : Value} (c : World → Prop) (hi : getA l i = some o) (hnd : noDefer l.toArray = true) (heff : eff.contains i = false) (hf : Region.free .any l.toArray listed i = true) (hr : (Region.ready .any l.toArray listed).contains i = true)
    (hy : YC P l.toArray c o v a) (hc : c w) (hI : Inv l eff Cs listed w) (k : DW r P l eff K ((i, c) :: Cs) fuel (listed.setIfInBounds i true) (a.put o.dst v) w) : DW r P l eff K Cs (fuel + 1) listed a w := by
  intro hd
  have hi' : l.toArray[i]? = some o := by rw [getA_eq] at hi; simpa using hi
  have hr' : i ∈ Region.ready .any l.toArray listed := by simpa using hr
  exact ⟨hI, wpI_first hi' hnd heff fuel Cs listed a w (Region.free_spec hi' hf) hd hr' hy hc hI (k (down_ready hd hr')).2⟩
theorem DW_plain (i : Nat) {o : Oper} {v : Value} (hi : getA l i = some o) (hnd : noDefer l.toArray = true) (heff : eff.contains i = false) (hf : Region.free .any l.toArray listed i = true) (hr : (Region.ready .any l.toArray listed).contains i = true)
    (hy : YC P l.toArray (fun _ => True) o v a) (k : DW r P l eff K Cs fuel (listed.setIfInBounds i true) (a.put o.dst v) w) : DW r P l eff K Cs (fuel + 1) listed a w := by
  intro hd
  have hi' : l.toArray[i]? = some o := by rw [getA_eq] at hi; simpa using hi
  have hr' : i ∈ Region.ready .any l.toArray listed := by simpa using hr
  have hk := k (down_ready hd hr')
  have hI : Inv l eff Cs listed w := fun p hp hl => hk.1 p hp (by rwa [live_set heff])
  refine ⟨hI, wpI_first (c := fun _ => True) hi' hnd heff fuel Cs listed a w (Region.free_spec hi' hf) hd hr' hy trivial hI ?_⟩
  have mono : ∀ (fuel : Nat) (listed : Array Bool) (a : Act) (w : World), wpI r P l.toArray K (Inv l eff Cs) fuel listed a w → wpI r P l.toArray K (Inv l eff ((i, fun _ => True) :: Cs)) fuel listed a w := by
    intro fuel
    induction fuel with
    | zero => exact fun _ _ _ h => h
    | succ f ih => exact fun l a w h => ⟨h.1, fun k hk o ho => opW_mono (fun a w q => ⟨fun p hp hl => by
        rcases List.mem_cons.1 hp with rfl | hp
        · trivial
        · exact q.1 p hp hl, ih _ _ _ q.2⟩) (h.2 k hk o ho)⟩
  exact mono _ _ _ _ hk.2
theorem Inv.nil : Inv l eff [] listed w := fun p hp => by cases hp
theorem Inv.cons {i : Nat} {c : World → Prop} (h : live l eff listed i = true → c w) (k : Inv l eff Cs listed w) : Inv l eff ((i, c) :: Cs) listed w := fun p hp hl => by
  rcases List.mem_cons.1 hp with rfl | hp
  · exact h hl
  · exact k p hp hl
theorem Inv.keep {i : Nat} {c : World → Prop} (h : c w) (k : Inv l eff Cs listed w) : Inv l eff ((i, c) :: Cs) listed w := Inv.cons (fun _ => h) k
theorem Inv.gone {i : Nat} {c : World → Prop} (h : live l eff listed i = false) (k : Inv l eff Cs listed w) : Inv l eff ((i, c) :: Cs) listed w := Inv.cons (fun e => by rw [h] at e; cases e) k
theorem DW_done (hr : Region.ready .any l.toArray listed = []) (hI : Inv l eff Cs listed w) (h : K a w) : ∀ {fuel : Nat}, DW r P l eff K Cs fuel listed a w
  | 0 => fun _ => ⟨hI, hr, h⟩
  | _ + 1 => fun _ => ⟨hI, fun _ => h, by rw [hr]; simp⟩
/-- The last of all. -/
theorem DW_end (h : Inv l eff Cs listed w ∧ K a w) (hr : Region.ready .any l.toArray listed = []) : DW r P l eff K Cs fuel listed a w := DW_done hr h.1 h.2
theorem opW_of_LW {ops : Array Oper} {o : Oper} {K : Act → World → Prop} (hnd : (∀ c, o.op ≠ .defer c)) (h : LW r P ops (QN K) [o] a w) : opW r P ops o K a w := by
  unfold LW wpListIn at h
  unfold opW
  split at h
  · rw [if_pos ‹_›]
    have := h.2
    rw [Oper.semAt_eq _ _ _ hnd] at this
    exact uponIn_mono (fun _ _ q => q) (fun _ _ _ q => q) (fun _ _ q => q) this
  · rw [if_neg ‹_›]; exact h.2
/-- One operation alone may come next. -/
theorem DW_eff (i : Nat) {o : Oper} (hi : getA l i = some o) (hnd : noDefer l.toArray = true) (hr : Region.ready .any l.toArray listed = [i]) (hI : Inv l eff Cs listed w)
    (h : LW r P l.toArray (QN (DW r P l eff K Cs fuel (listed.setIfInBounds i true))) [o] a w) : DW r P l eff K Cs (fuel + 1) listed a w := by
  intro hd
  have hi' : l.toArray[i]? = some o := by rw [getA_eq] at hi; simpa using hi
  refine ⟨hI, ?_⟩
  unfold wpI
  refine ⟨fun h0 => (by rw [hr] at h0; cases h0), fun j hj o' ho => ?_⟩
  rw [hr] at hj
  obtain rfl : j = i := by simpa using hj
  rw [hi'] at ho; cases ho
  have hd' := down_ready hd (show j ∈ Region.ready .any l.toArray listed by rw [hr]; simp)
  exact opW_mono (fun a w q => q hd') (opW_of_LW (noDefer_spec hnd hi').1 h)
/-- Several may come next. -/
theorem DW_all {rs : List Nat} (hnd : noDefer l.toArray = true) (hr : Region.ready .any l.toArray listed = rs) (hne : rs ≠ []) (hI : Inv l eff Cs listed w)
    (h : ∀ i ∈ rs, ∀ o, getA l i = some o → LW r P l.toArray (QN (DW r P l eff K Cs fuel (listed.setIfInBounds i true))) [o] a w) : DW r P l eff K Cs (fuel + 1) listed a w := by
  intro hd
  refine ⟨hI, ?_⟩
  unfold wpI
  refine ⟨fun h0 => absurd (hr ▸ h0) hne, fun j hj o' ho => ?_⟩
  have hd' := down_ready hd hj
  rw [hr] at hj
  exact opW_mono (fun a w q => q hd') (opW_of_LW (noDefer_spec hnd ho).1 (h j hj o' (by rw [getA_eq]; simpa using ho)))
end
end Go.Sl
