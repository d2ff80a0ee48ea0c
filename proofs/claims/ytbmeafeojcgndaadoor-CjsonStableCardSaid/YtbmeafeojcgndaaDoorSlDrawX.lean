/- Regions whose order is drawn, of which an operation may give up. Printed out of SlDraw and SlDraw2. -/
import Derived.Test.YtbmeafeojcgndaaDoorSlPan
import Derived.Test.YtbmeafeojcgndaaDoorSlText2
set_option linter.unusedVariables false
set_option linter.unusedSimpArgs false
namespace Go.Sl
open Go.RowKit
/-- What is left where an operation gives up: the chain, what is deferred, the world. -/
def XQ (X : List PanicEntry → List Deferred → World → Prop) : Exit → Act → World → Prop
  | .panic c, a, w => X c a.defers w
  | _, _, _ => False
def QX (X : List PanicEntry → List Deferred → World → Prop) (K : Act → World → Prop) : Exit → Act → World → Prop
  | .normal, a, w => K a w
  | .panic c, a, w => X c a.defers w
  | _, _, _ => False
theorem put_def (a : Act) (d : Option Tmp) (v : Value) : (a.put d v).defers = a.defers := by cases d <;> rfl
section
variable {P : Program} {fn : Func} {R Y : Value → World → Prop} {a : Act} {w : World}
theorem RXPa {v : Value} (hd : a.defers = []) (k : Y v w) : bodyPost P fn (Res R Y) (.panic [{ v := v, recovered := false }]) a w := ⟨hd, v, rfl, k⟩
end
section
variable {r : Option Nat} {P : Program} {ops : Array Oper} {X : List PanicEntry → List Deferred → World → Prop}
/-- One operation, its guard asked, nothing but going on allowed. -/
def opWX (X : List PanicEntry → List Deferred → World → Prop) (r : Option Nat) (P : Program) (ops : Array Oper) (o : Oper) (K : Act → World → Prop) (a : Act) (w : World) : Prop :=
  if Region.wanted o (yielded ops a.tmps) then o.uponIn (FW r) 0 P a K (XQ X) ((execOp a.eval o).run P w) else K (a.put o.dst undef) w
theorem opWX_mono {o : Oper} {K K' : Act → World → Prop} (hK : ∀ a w, K a w → K' a w) {a : Act} {w : World} (h : opWX X r P ops o K a w) : opWX X r P ops o K' a w := by
  unfold opWX at h ⊢
  split at h
  · rw [if_pos ‹_›]; exact uponIn_mono hK (fun _ _ _ q => q) (fun _ _ q => q) h
  · rw [if_neg ‹_›]; exact hK _ _ h
def wpIX (X : List PanicEntry → List Deferred → World → Prop) (r : Option Nat) (P : Program) (ops : Array Oper) (K : Act → World → Prop) (I : Array Bool → World → Prop) : Nat → Array Bool → Act → World → Prop
  | 0, listed, a, w => Region.ready .any ops listed = [] ∧ K a w
  | fuel + 1, listed, a, w => (Region.ready .any ops listed = [] → K a w) ∧
    ∀ i ∈ Region.ready .any ops listed, ∀ o, ops[i]? = some o → opWX X r P ops o (fun a' w' => I (listed.setIfInBounds i true) w' ∧ wpIX X r P ops K I fuel (listed.setIfInBounds i true) a' w') a w
theorem wpIX_sound {K : Act → World → Prop} {I : Array Bool → World → Prop} {Q : Exit → Act → World → Prop} (hnd : noDefer ops = true) (hKQ : ∀ a w, K a w → Q .normal a w) (hXQ : ∀ c a w, X c a.defers w → Q (.panic c) a w) :
    ∀ (fuel : Nat) (listed : Array Bool) (a : Act) (w : World), wpIX X r P ops K I fuel listed a w → wpAnyIn (FW r) 0 P .any ops Q fuel listed a w := by
  intro fuel
  induction fuel with
  | zero => exact fun listed a w h => ⟨h.1, hKQ _ _ h.2⟩
  | succ fuel ih =>
    intro listed a w h
    refine ⟨fun hr => hKQ _ _ (h.1 hr), fun i hi => ?_⟩
    obtain ⟨_, o, ho, _⟩ := mem_ready.1 hi
    have h1 := h.2 i hi o ho
    unfold wpOpIn
    simp only [ho]
    unfold opWX at h1
    split at h1
    · rw [if_pos ‹_›]
      refine ⟨fun _ _ => trivial, ?_⟩
      rw [Oper.semAt_eq _ _ _ (noDefer_spec hnd ho).1]
      exact uponIn_mono (fun a w q => ih _ _ _ q.2) (fun _ _ _ q => hXQ _ _ _ q) (fun _ _ q => q.elim) h1
    · rw [if_neg ‹_›]
      exact ⟨fun _ _ => trivial, ih _ _ _ h1.2⟩
theorem YC.opWX {c : World → Prop} {o : Oper} {v : Value} {a : Act} (hy : YC P ops c o v a) {K : Act → World → Prop} {w : World} (hc : c w) (h : K (a.put o.dst v) w) : opWX X r P ops o K a w := by
  unfold Sl.opWX
  rcases hy with ⟨hw, hv⟩ | ⟨hw, rfl⟩
  · rw [if_pos hw, hv w hc]; exact h
  · rw [if_neg (by simp [hw])]; exact h
theorem put_defX {c : List PanicEntry} {a : Act} {d : Option Tmp} {v : Value} {w : World} (h : XQ X (.panic c) (a.put d v) w) : XQ X (.panic c) a w := by
  have : X c (a.put d v).defers w := h
  rw [put_def] at this; exact this
theorem opWX_put {oi oj : Oper} {v : Value} (hap : oi.apart ops oj = true) (hsel : ∀ cs b, oj.op ≠ .select cs b) {K : Act → World → Prop} {a : Act} {w : World}
    (h : opWX X r P ops oj K (a.put oi.dst v) w) : opWX X r P ops oj (fun a' w' => K (a'.put oi.dst v) w') a w := by
  obtain ⟨h1, h2, _⟩ := Oper.apart_spec hap
  unfold opWX at h ⊢
  rw [wanted_put oj a oi.dst v h1, execOp_put oj hsel a oi.dst v h1] at h
  split at h
  · rw [if_pos ‹_›]
    unfold Oper.uponIn at h ⊢
    split at h
    · show K _ _; rw [← Act.put_comm a v _ h2]; exact h
    · show K _ _; rw [← Act.put_comm a v _ h2]; exact h
    · show K _ _; rw [← Act.put_comm _ v undef h2, ← Act.put_defers]; exact h
    · exact ⟨h.1, h.2.mono fun e w q => by
        cases e
        · show K _ _; rw [← Act.put_comm a v _ h2]; exact q
        · exact put_defX q
        · obtain ⟨a', w', q⟩ := q; exact q.elim⟩
    · exact ⟨h.1, h.2.mono fun u w q => by show K _ _; rw [← Act.put_comm a v _ h2]; exact q⟩
    · exact ⟨h.1, h.2.mono fun e w q => by
        cases e
        · show K _ _; rw [← Act.put_comm a v _ h2]; exact q
        · exact put_defX q
        · obtain ⟨a', w', q⟩ := q; exact q.elim⟩
    · exact put_defX h
    · exact h.elim
  · rw [if_neg ‹_›]; show K _ _; rw [← Act.put_comm a v _ h2]; exact h
/-- What an operation leaves of the frame: one slot at most. -/
theorem opWX_keeps {c : World → Prop} {oi oj : Oper} {v : Value} (hap : oi.apart ops oj = true) (hsel : ∀ cs b, oi.op ≠ .select cs b) {K K' : Act → World → Prop} {a : Act} {w : World} (hy : YC P ops c oi v a)
    (hK : ∀ a' w', YC P ops c oi v a' → K a' w' → K' a' w') (h : opWX X r P ops oj K a w) : opWX X r P ops oj K' a w := by
  unfold opWX at h ⊢
  split at h
  · rw [if_pos ‹_›]
    unfold Oper.uponIn at h ⊢
    split at h
    · exact hK _ _ (hy.same hap hsel) h
    · exact hK _ _ (hy.same hap hsel) h
    · exact hK _ _ ((hy.defers).same hap hsel) h
    · exact ⟨h.1, h.2.mono fun e w q => by
        cases e
        · exact hK _ _ (hy.same hap hsel) q
        · exact q
        · obtain ⟨a', w', q⟩ := q; exact q.elim⟩
    · exact ⟨h.1, h.2.mono fun u w q => hK _ _ (hy.same hap hsel) q⟩
    · exact ⟨h.1, h.2.mono fun e w q => by
        cases e
        · exact hK _ _ (hy.same hap hsel) q
        · exact q
        · obtain ⟨a', w', q⟩ := q; exact q.elim⟩
    · exact h
    · exact h.elim
  · rw [if_neg ‹_›]; exact hK _ _ (hy.same hap hsel) h
end
section
variable {r : Option Nat} {P : Program} {l : List Oper} {eff : List Nat} {X : List PanicEntry → List Deferred → World → Prop}
theorem wpIX_first {K : Act → World → Prop} {c : World → Prop} {i : Nat} {oi : Oper} {v : Value} (hi : l.toArray[i]? = some oi) (hnd : noDefer l.toArray = true) (heff : eff.contains i = false) :
    ∀ (fuel : Nat) (Cs : List (Nat × (World → Prop))) (listed : Array Bool) (a : Act) (w : World),
      (∀ j oj, l.toArray[j]? = some oj → j ≠ i → listed.getD j true = false → (∀ e ∈ oj.after, Region.binds .any e = true → e.on ≠ i) → oi.apart l.toArray oj = true) →
      Down l.toArray (fun j => listed.getD j false) → i ∈ Region.ready .any l.toArray listed → YC P l.toArray c oi v a → c w → Inv l eff Cs listed w →
      wpIX X r P l.toArray K (Inv l eff ((i, c) :: Cs)) fuel (listed.setIfInBounds i true) (a.put oi.dst v) w → wpIX X r P l.toArray K (Inv l eff Cs) (fuel + 1) listed a w := by
  intro fuel
  induction fuel with
  | zero =>
    intro Cs listed a w _ hd hr hy hc hI H
    refine ⟨fun h => (by rw [h] at hr; cases hr), fun j hj o ho => ?_⟩
    by_cases hji : j = i
    · subst hji; rw [hi] at ho; cases ho
      refine hy.opWX hc ⟨fun p hp hl => hI p hp (by rwa [live_set heff] at hl), H⟩
    · have := ready_mono hj hji
      rw [H.1] at this
      cases this
  | succ fuel ih =>
    intro Cs listed a w hfree hd hr hy hc hI H
    refine ⟨fun h => (by rw [h] at hr; cases hr), fun j hj o ho => ?_⟩
    by_cases hji : j = i
    · subst hji; rw [hi] at ho; cases ho
      refine hy.opWX hc ⟨fun p hp hl => hI p hp (by rwa [live_set heff] at hl), ?_⟩
      have mono : ∀ (fuel : Nat) (listed : Array Bool) (a : Act) (w : World), wpIX X r P l.toArray K (Inv l eff ((j, c) :: Cs)) fuel listed a w → wpIX X r P l.toArray K (Inv l eff Cs) fuel listed a w := by
        intro fuel
        induction fuel with
        | zero => exact fun _ _ _ h => h
        | succ f ih => exact fun l a w h => ⟨h.1, fun k hk o ho => opWX_mono (fun a w q => ⟨fun p hp hl => q.1 p (List.mem_cons_of_mem _ hp) hl, ih _ _ _ q.2⟩) (h.2 k hk o ho)⟩
      exact mono _ _ _ _ H
    · have h1 := H.2 j (ready_mono hj hji) o ho
      obtain ⟨hjun, oj, hoj, hall⟩ := mem_ready.1 hj
      obtain rfl : o = oj := by rw [ho] at hoj; cases hoj; rfl
      have hiun : listed.getD i false = false := by
        have h0 := (mem_ready.1 hr).1
        rcases Nat.lt_or_ge i listed.size with h' | h'
        · simp [h'] at h0 ⊢; exact h0
        · simp [Array.getElem?_eq_none h']
      have hnot : ∀ e ∈ o.after, Region.binds .any e = true → e.on ≠ i := fun e he hb heq => by
        have h1 := hall e he hb
        rw [heq] at h1; rw [h1] at hiun; cases hiun
      have hap := hfree j o ho hji hjun hnot
      have h2 := opWX_put hap (noDefer_spec hnd ho).2 h1
      have hfree' : ∀ k ok, l.toArray[k]? = some ok → k ≠ i → (listed.setIfInBounds j true).getD k true = false →
          (∀ e ∈ ok.after, Region.binds .any e = true → e.on ≠ i) → oi.apart l.toArray ok = true := fun k ok hk hki hun hno => by
        refine hfree k ok hk hki ?_ hno
        by_cases hjk : j = k
        · subst hjk; exact hjun
        · rw [getD_set_ne true hjk] at hun; exact hun
      have hd' := down_ready hd hj
      refine opWX_keeps hap (noDefer_spec hnd hi).2 hy (fun a' w' hy' q => ?_) h2
      have hset : (listed.setIfInBounds i true).setIfInBounds j true = (listed.setIfInBounds j true).setIfInBounds i true := Array.setIfInBounds_comm _ _ (Ne.symm hji)
      rw [hset] at q
      have hI' : Inv l eff Cs (listed.setIfInBounds j true) w' := fun p hp hl => q.1 p (List.mem_cons_of_mem _ hp) (by rw [live_set heff]; exact hl)
      have hc' : c w' := by
        refine q.1 (i, c) (List.mem_cons_self) ?_
        rw [live_set heff]
        unfold live
        rw [List.all_eq_true]
        intro e he
        cases hle : (listed.setIfInBounds j true).getD e false with
        | false => rfl
        | true =>
          cases hb : ((clo l []).getD e 0).testBit i with
          | false => rfl
          | true =>
            exfalso
            have := clo_bit (fun j' => (listed.setIfInBounds j true).getD j' false) l [] [] rfl (by simpa using hd') (fun k r h => by simp at h) e i hb hle
            rw [getD_set_ne false hji, hiun] at this
            cases this
      refine ⟨hI', ih Cs (listed.setIfInBounds j true) a' w' hfree' hd' (ready_mono hr (Ne.symm hji)) hy' hc' hI' q.2⟩

def DWX (X : List PanicEntry → List Deferred → World → Prop) (r : Option Nat) (P : Program) (l : List Oper) (eff : List Nat) (K : Act → World → Prop) (Cs : List (Nat × (World → Prop))) (fuel : Nat) (listed : Array Bool) (a : Act) (w : World) : Prop :=
  Down l.toArray (fun j => listed.getD j false) → Inv l eff Cs listed w ∧ wpIX X r P l.toArray K (Inv l eff Cs) fuel listed a w
theorem CW_drawX {Q : Exit → Act → World → Prop} {a : Act} {w : World} {id : Nat} (eff : List Nat) (hm : P.follows .mixedOrders = true) (hnd : noDefer l.toArray = true) (hX : ∀ c a w, X c a.defers w → Q (.panic c) a w)
    (h : DWX X r P l eff (fun a w => Q .normal a w) [] l.length (Array.replicate l.length false) a w.drew) : CW r P (.region id l.toArray true) Q a w := by
  refine wpIn_region_any hm ?_
  have h1 := (h (fun j o _ hj => by
    exfalso
    by_cases hlt : j < l.length <;> simp [hlt] at hj)).2
  exact wpIX_sound hnd (fun _ _ q => q) hX _ _ _ _ (by simpa using h1)
variable {K : Act → World → Prop} {Cs : List (Nat × (World → Prop))} {fuel : Nat} {listed : Array Bool} {a : Act} {w : World} {n : Nat} {s : List (Nat × Value)} {τ : Nat → Value} {ds : List Deferred}
theorem DWX_yield (i : Nat) {o : Oper} {v : Value} (c : World → Prop) (hi : getA l i = some o) (hnd : noDefer l.toArray = true) (heff : eff.contains i = false) (hf : Region.free .any l.toArray listed i = true) (hr : (Region.ready .any l.toArray listed).contains i = true)
    (hy : YC P l.toArray c o v a) (hc : c w) (hI : Inv l eff Cs listed w) (k : DWX X r P l eff K ((i, c) :: Cs) fuel (listed.setIfInBounds i true) (a.put o.dst v) w) : DWX X r P l eff K Cs (fuel + 1) listed a w := by
  intro hd
  have hi' : l.toArray[i]? = some o := by rw [getA_eq] at hi; simpa using hi
  have hr' : i ∈ Region.ready .any l.toArray listed := by simpa using hr
  exact ⟨hI, wpIX_first hi' hnd heff fuel Cs listed a w (Region.free_spec hi' hf) hd hr' hy hc hI (k (down_ready hd hr')).2⟩
theorem DWX_plain (i : Nat) {o : Oper} {v : Value} (hi : getA l i = some o) (hnd : noDefer l.toArray = true) (heff : eff.contains i = false) (hf : Region.free .any l.toArray listed i = true) (hr : (Region.ready .any l.toArray listed).contains i = true)
    (hy : YC P l.toArray (fun _ => True) o v a) (k : DWX X r P l eff K Cs fuel (listed.setIfInBounds i true) (a.put o.dst v) w) : DWX X r P l eff K Cs (fuel + 1) listed a w := by
  intro hd
  have hi' : l.toArray[i]? = some o := by rw [getA_eq] at hi; simpa using hi
  have hr' : i ∈ Region.ready .any l.toArray listed := by simpa using hr
  have hk := k (down_ready hd hr')
  have hI : Inv l eff Cs listed w := fun p hp hl => hk.1 p hp (by rwa [live_set heff])
  refine ⟨hI, wpIX_first (c := fun _ => True) hi' hnd heff fuel Cs listed a w (Region.free_spec hi' hf) hd hr' hy trivial hI ?_⟩
  have mono : ∀ (fuel : Nat) (listed : Array Bool) (a : Act) (w : World), wpIX X r P l.toArray K (Inv l eff Cs) fuel listed a w → wpIX X r P l.toArray K (Inv l eff ((i, fun _ => True) :: Cs)) fuel listed a w := by
    intro fuel
    induction fuel with
    | zero => exact fun _ _ _ h => h
    | succ f ih => exact fun l a w h => ⟨h.1, fun k hk o ho => opWX_mono (fun a w q => ⟨fun p hp hl => by
        rcases List.mem_cons.1 hp with rfl | hp
        · trivial
        · exact q.1 p hp hl, ih _ _ _ q.2⟩) (h.2 k hk o ho)⟩
  exact mono _ _ _ _ hk.2
theorem DWX_done (hr : Region.ready .any l.toArray listed = []) (hI : Inv l eff Cs listed w) (h : K a w) : ∀ {fuel : Nat}, DWX X r P l eff K Cs fuel listed a w
  | 0 => fun _ => ⟨hI, hr, h⟩
  | _ + 1 => fun _ => ⟨hI, fun _ => h, by rw [hr]; simp⟩
/-- The last of all. -/
theorem DWX_end (h : Inv l eff Cs listed w ∧ K a w) (hr : Region.ready .any l.toArray listed = []) : DWX X r P l eff K Cs fuel listed a w := DWX_done hr h.1 h.2
theorem opWX_of_LW {ops : Array Oper} {o : Oper} {K : Act → World → Prop} (hnd : (∀ c, o.op ≠ .defer c)) (h : LW r P ops (QX X K) [o] a w) : opWX X r P ops o K a w := by
  unfold LW wpListIn at h
  unfold opWX
  split at h
  · rw [if_pos ‹_›]
    have := h.2
    rw [Oper.semAt_eq _ _ _ hnd] at this
    exact uponIn_mono (fun _ _ q => q) (fun _ _ _ q => q) (fun _ _ q => q) this
  · rw [if_neg ‹_›]; exact h.2
/-- One operation alone may come next. -/
theorem DWX_eff (i : Nat) {o : Oper} (hi : getA l i = some o) (hnd : noDefer l.toArray = true) (hr : Region.ready .any l.toArray listed = [i]) (hI : Inv l eff Cs listed w)
    (h : LW r P l.toArray (QX X (DWX X r P l eff K Cs fuel (listed.setIfInBounds i true))) [o] a w) : DWX X r P l eff K Cs (fuel + 1) listed a w := by
  intro hd
  have hi' : l.toArray[i]? = some o := by rw [getA_eq] at hi; simpa using hi
  refine ⟨hI, ?_⟩
  unfold wpIX
  refine ⟨fun h0 => (by rw [hr] at h0; cases h0), fun j hj o' ho => ?_⟩
  rw [hr] at hj
  obtain rfl : j = i := by simpa using hj
  rw [hi'] at ho; cases ho
  have hd' := down_ready hd (show j ∈ Region.ready .any l.toArray listed by rw [hr]; simp)
  exact opWX_mono (fun a w q => q hd') (opWX_of_LW (noDefer_spec hnd hi').1 h)
end
def DPX (X : List PanicEntry → List Deferred → World → Prop) (r : Option Nat) (P : Program) (l : List Oper) (eff : List Nat) (K : Act → World → Prop) (Cs : List (Nat × (World → Prop))) (plan : List Nat) (listed : Array Bool) (a : Act) (w : World) : Prop :=
  noDefer l.toArray = true → planOK l eff plan listed = true → DWX X r P l eff K Cs plan.length listed a w
section
variable {r : Option Nat} {P : Program} {T : List (Nat × TI)} {l : List Oper} {eff : List Nat} {X : List PanicEntry → List Deferred → World → Prop} {K : Act → World → Prop} {Cs : List (Nat × (World → Prop))} {plan : List Nat} {listed : Array Bool} {a : Act} {w : World} {n : Nat} {s : List (Nat × Value)} {τ : Nat → Value} {ds : List Deferred}
  {W : World} {L : List HProp} {op : Op} {ty : TypeId} {ps : String} {af : Array Edge} {d i : Nat} {α : Type} {gd : Option (Nat × Bool)}
theorem CW_drawPX {Q : Exit → Act → World → Prop} {id : Nat} (eff plan : List Nat) (hm : P.follows .mixedOrders = true) (hok : (noDefer l.toArray && planOK l eff plan (Array.replicate l.length false) && Nat.beq plan.length l.length) = true) (hX : ∀ c a w, X c a.defers w → Q (.panic c) a w) (hs : Sat W w L)
    (h : Sat W w.drew L → DPX X r P l eff (fun a w => Q .normal a w) [] plan (Array.replicate l.length false) a w.drew) : CW r P (.region id l.toArray true) Q a w := by
  simp only [Bool.and_eq_true] at hok
  refine CW_drawX eff hm hok.1.1 hX ?_
  have := h hs.drew hok.1.1 hok.1.2
  rwa [Nat.eq_of_beq_eq_true hok.2] at this
theorem DPX_end (hI : Inv l eff Cs listed w) (h : K a w) : DPX X r P l eff K Cs [] listed a w := fun _ hp => by
  refine DWX_done ?_ hI h
  unfold planOK at hp
  split at hp
  · assumption
  · cases hp
theorem DPX_eff {o : Oper} (heff : eff.contains i = true) (hi : getA l i = some o) (hI : Inv l eff Cs listed w) (h : LW r P l.toArray (QX X (DPX X r P l eff K Cs plan (listed.setIfInBounds i true))) [o] a w) : DPX X r P l eff K Cs (i :: plan) listed a w := fun hnd hp => by
  unfold planOK at hp
  simp only [Bool.and_eq_true, heff, cond_true] at hp
  obtain ⟨h1, h2⟩ := hp
  split at h1
  · rename_i j hr
    obtain rfl := Nat.eq_of_beq_eq_true h1
    refine DWX_eff i hi hnd hr hI ?_
    have mono : ∀ {o : List Oper} {a : Act} {w : World}, LW r P l.toArray (QX X (DPX X r P l eff K Cs plan (listed.setIfInBounds i true))) o a w → LW r P l.toArray (QX X (DWX X r P l eff K Cs plan.length (listed.setIfInBounds i true))) o a w := by
      intro o
      induction o with
      | nil => exact fun h => h hnd h2
      | cons o os ih =>
        intro a w h
        unfold LW wpListIn at h ⊢
        split at h
        · rw [if_pos ‹_›]
          refine ⟨h.1, uponIn_mono (fun a w q => ih q) (fun _ _ _ q => q) (fun _ _ q => q) h.2⟩
        · rw [if_neg ‹_›]; exact ⟨h.1, ih h.2⟩
    exact mono h
  · cases h1
theorem DPX_plain {o : Oper} {v : Value} (heff : eff.contains i = false) (hi : getA l i = some o) (hy : YC P l.toArray (fun _ => True) o v a) (k : DPX X r P l eff K Cs plan (listed.setIfInBounds i true) (a.put o.dst v) w) : DPX X r P l eff K Cs (i :: plan) listed a w := fun hnd hp => by
  unfold planOK at hp
  simp only [Bool.and_eq_true, heff, cond_false] at hp
  exact DWX_plain i hi hnd heff hp.1.1 hp.1.2 hy (k hnd hp.2)
theorem DPX_yield {o : Oper} {v : Value} (c : World → Prop) (heff : eff.contains i = false) (hi : getA l i = some o) (hy : YC P l.toArray c o v a) (hc : c w) (hI : Inv l eff Cs listed w) (k : DPX X r P l eff K ((i, c) :: Cs) plan (listed.setIfInBounds i true) (a.put o.dst v) w) : DPX X r P l eff K Cs (i :: plan) listed a w := fun hnd hp => by
  unfold planOK at hp
  simp only [Bool.and_eq_true, heff, cond_false] at hp
  exact DWX_yield i c hi hnd heff hp.1.1 hp.1.2 hy hc hI (k hnd hp.2)
theorem DPX_pure (hT : TyOK P T) (heff : eff.contains i = false) (hi : getA l i = some ⟨some d, op, ty, ps, af, gd⟩) (hg : gdOK s n l gd) {v : Value} (h : evalOp T n s op = some v) (k : DPX X r P l eff K Cs plan (listed.setIfInBounds i true) (FR n ((d, v) :: s) τ ds) w) :
    DPX X r P l eff K Cs (i :: plan) listed (FR n s τ ds) w :=
  DPX_plain heff hi (YC.mkD hg fun w _ => evalOp_run (fun x v => eval_of) hT h w) (by rw [put_FR]; exact k)
theorem DPX_loadC (j : Nat) {x : Operand} {t : TypeId} {ti : TI} {b o : Nat} {v : Value} {vs : List Value} {te : TypeId} (hs : Sat W w L) (hT : TyOK P T) (heff : eff.contains i = false) (hi : getA l i = some ⟨some d, .load t x, ty, ps, af, gd⟩) (hg : gdOK s n l gd) (hx : EVO n s x = some (.pointer (some ⟨b, o, none⟩))) (ht : lookT T t = some ti) (ha : ti.agg = false) (hj : getA L j = some (Cl b vs te)) (hv : getA vs o = some v)
    (hI : Inv l eff Cs listed w) (k : DPX X r P l eff K ((i, fun w' => w'.cell? ⟨b, o, none⟩ = some v) :: Cs) plan (listed.setIfInBounds i true) (FR n ((d, v) :: s) τ ds) w) : DPX X r P l eff K Cs (i :: plan) listed (FR n s τ ds) w := by
  rw [getA_eq] at hj hv
  refine DPX_yield (v := v) (fun w' => w'.cell? ⟨b, o, none⟩ = some v) heff hi (YC.mkD hg fun w' hw' => ?_) ((hs.cell j hj o).trans hv) hI (by rw [put_FR]; exact k)
  show Sem.run P (do let v ← Instr.loadAt t ((FR n s τ ds).eval x); pure (Next.value v)) w' = _
  rw [eval_of hx, Sem.run_bind, run_load1 (hT _ _ ht) ha hw']; rfl
theorem QX_n (h : K a w) : QX X K .normal a w := h
theorem QX_p {c : List PanicEntry} (h : X c ds w) : QX X K (.panic c) (FR n s τ ds) w := h
end
end Go.Sl
