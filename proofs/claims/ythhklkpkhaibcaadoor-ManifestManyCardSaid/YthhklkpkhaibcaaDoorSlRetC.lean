/- Results that lie in boxes of several cells. -/
import Derived.Test.YthhklkpkhaibcaaDoorSlB
set_option linter.unusedVariables false
set_option linter.unusedSimpArgs false
namespace Go.Sl
open Go.RowKit
section
variable {P : Program} {fn : Func} {Post : Value → World → Prop} {n : Nat} {s : List (Nat × Value)} {τ : Nat → Value} {w W : World} {L : List HProp} {T : List (Nat × TI)}
theorem RETA (i : Nat) {t : Tmp} {ti : TI} {ta te : TypeId} {b : Nat} {vs : List Value} (hs : Sat W w L) (hT : TyOK P T) (h : fn.results = #[.cell t ta]) (hv : EVO n s (.tmp t) = some (.pointer (some ⟨b, 0, none⟩)))
    (h1 : lookT T ta = some ti) (ha : ti.agg = true) (hi : getA L i = some (Cl b vs te)) (hl : vs.length = ti.size) (k : Post (.agg vs.toArray) w) : bodyPost P fn (Ret Post) .ret (FR n s τ []) w := by
  rw [getA_eq] at hi
  have e1 := slot_of (τ := τ) hv
  have r1 := ty_isAgg (hT _ _ h1) w
  have r2 := ty_sizeOf (hT _ _ h1) w
  have h3 := run_loadCells_list (P := P) (w := w) ⟨b, 0, none⟩ vs (fun j v hj => by
    have e : (⟨b, 0, none⟩ : Addr).add j = ⟨b, 0 + j, none⟩ := by unfold Addr.add; split <;> simp_all
    rw [e, hs.cell i hi (0 + j), Nat.zero_add]; exact hj)
  rw [hl] at h3
  have h4 : Sem.run P (loadCellsFrom ⟨b, 0, none⟩ 0 ti.size #[]) w = Result.ok vs.toArray w := h3
  rw [ha] at r1
  refine ⟨rfl, .agg vs.toArray, ?_, k⟩
  simp [results, h, go_sem, e1, asAddr, r1, r2, h4, Result.andThen]
theorem RETA2 (i : Nat) {t u : Tmp} {ti : TI} {ta te : TypeId} {b : Nat} {vs : List Value} {v' : Value} (hs : Sat W w L) (hT : TyOK P T) (h : fn.results = #[.cell t ta, .tmp u]) (hv : EVO n s (.tmp t) = some (.pointer (some ⟨b, 0, none⟩))) (hv' : EVO n s (.tmp u) = some v')
    (h1 : lookT T ta = some ti) (ha : ti.agg = true) (hi : getA L i = some (Cl b vs te)) (hl : vs.length = ti.size) (k : Post (.tuple #[.agg vs.toArray, v']) w) : bodyPost P fn (Ret Post) .ret (FR n s τ []) w := by
  rw [getA_eq] at hi
  have e1 := slot_of (τ := τ) hv
  have e2 := slot_of (τ := τ) hv'
  have r1 := ty_isAgg (hT _ _ h1) w
  have r2 := ty_sizeOf (hT _ _ h1) w
  have h3 := run_loadCells_list (P := P) (w := w) ⟨b, 0, none⟩ vs (fun j v hj => by
    have e : (⟨b, 0, none⟩ : Addr).add j = ⟨b, 0 + j, none⟩ := by unfold Addr.add; split <;> simp_all
    rw [e, hs.cell i hi (0 + j), Nat.zero_add]; exact hj)
  rw [hl] at h3
  have h4 : Sem.run P (loadCellsFrom ⟨b, 0, none⟩ 0 ti.size #[]) w = Result.ok vs.toArray w := h3
  rw [ha] at r1
  refine ⟨rfl, .tuple #[.agg vs.toArray, v'], ?_, k⟩
  simp [results, h, go_sem, e1, e2, asAddr, r1, r2, h4, Result.andThen]
end
end Go.Sl
