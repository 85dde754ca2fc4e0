/-
  What the rows share that list the table and the handle of package errors; an argument of ints.
-/
import Derived.Test.YteediemhcocgdaaDoorBlk
import Derived.Test.YteediemhcocgdaaDoorRowKit
import Derived.Test.YteediemhcocgdaaDoorAsWalk
import Derived.LaidHandle
namespace Go.Proofs.YteediemhcocgdaaDoor
open Go.ChangeShapes Go.WideShapes Go.ChangeAt Go.RowKit
open HeapP (at_)

theorem gErr : Tryd.prog.globalNamed "errors.errorType" = some 1 := by kernel_rfl
theorem rtNo : (Tryd.prog.cutTypes.find? (·.1 == "internal/reflectlite.rtype")).map (·.2) = some 153 := by kernel_rfl
theorem errRow : ((List.range Tryd.prog.types.size).filter fun t => Tryd.prog.rowNamed t [101, 114, 114, 111, 114]) = [46] := by kernel_rfl

/-- What the condition gives a walk. -/
theorem both_of_laid {W : World} (h : laidMetH Tryd.prog [("errors.errorType", Rows.laid_errors_errorType), ("blotter/sum.nibbles", Rows.laid_blotter_sum_nibbles)] W) : Nib W ∧ ErrH W := by
  have h' : laidMet Tryd.prog [("blotter/sum.nibbles", Rows.laid_blotter_sum_nibbles)] W ∧ handlesMet Tryd.prog [("errors.errorType", Rows.laid_errors_errorType)] W := h
  refine ⟨nib_of_table (Lib.tabIs_of_head (rest := []) gTab gTabType Tryd.underlying82 Tryd.underlying80 cellsU32 cellsNib h'.1), ?_⟩
  obtain ⟨name, u, ty, e1, e2, e3, e4, e5⟩ := h'.2 _ (List.mem_singleton.2 rfl)
  have en : name = [101, 114, 114, 111, 114] := (Option.some.inj e1).symm
  subst en
  obtain rfl := Option.some.inj (rtNo.symm.trans e2)
  have hm : ty ∈ (List.range Tryd.prog.types.size).filter fun t => Tryd.prog.rowNamed t [101, 114, 114, 111, 114] := List.mem_filter.2 ⟨List.mem_range.2 e3, e4⟩
  rw [errRow] at hm
  obtain rfl := List.mem_singleton.1 hm
  have hh : typeHandle Tryd.prog 46 = .pointer (some ⟨2, 46, none⟩) := by kernel_rfl
  rw [hh] at e5
  have h0 : W.cell? ⟨1, 0, none⟩ = some (.iface 153 (.agg #[.pointer (some ⟨2, 46, none⟩)])) := by simpa using World.var?_cell gErr e5 0
  exact h0
theorem err_pos {w : World} (h : ErrH w) : 1 < w.heap.size := lt_of_cell h

/-- A world for the witness: both variables laid. -/
noncomputable def laidWorld2 (os : Os) : World :=
  let w0 := laidWorld os
  { w0 with heap := w0.heap.modify 1 fun
      | .cells _ t frozen => .cells #[.iface 153 (.agg #[.pointer (some ⟨2, 46, none⟩)])] t frozen
      | o => o }
theorem laid_met2 (os : Os) (args : Array Value) : laidMetH Tryd.prog [("errors.errorType", Rows.laid_errors_errorType), ("blotter/sum.nibbles", Rows.laid_blotter_sum_nibbles)] ((laidWorld2 os).forCall (fun _ _ => 0) ⟨#[], args, []⟩).memory :=
  laidMetH_of_parts (laidMet_of_run' 8 (by kernel_rfl) (by kernel_rfl)) (by kernel_rfl)

set_option maxRecDepth 100000 in
/-- An argument of ints. -/
theorem open_iarg {H : Type} {enc : TypeId × Value → H} {W : World} {base : Nat} {v : Value} {d : DataW H} {p : List MemPlace}
    (hval : Value.okWide Tryd.prog W .any base 41 v) (h : DataW.Trod enc Tryd.prog W 0 (fun _ => true) true 41 v d p) :
    ∃ (A : Option Addr) (c : Nat) (l : List Int), v = .slice A l.length c ∧ l.length ≤ c ∧ c ≤ 9223372036854775807 ∧ IArg W W.heap.size A l ∧
      (l = [] ∨ ∃ elems spare, d = .slice elems spare ∧ elems.length = l.length) := by
  obtain ⟨a0, len, cap, rfl⟩ := okWide_slice Tryd.underlying41 hval
  obtain ⟨fuel, hf⟩ := h
  rcases open_ints Tryd.underlying41 Tryd.underlying3 (by kernel_rfl) hf with ⟨hcs, hx⟩ | ⟨a, len', cap', zs, hcs, _, hl, hm, hz, hx, hcell, hwz⟩
  · obtain ⟨rfl, rfl, rfl⟩ : a0 = none ∧ len = 0 ∧ cap = 0 := by simpa [Value.cells] using hcs
    exact ⟨none, 0, [], rfl, Nat.le_refl _, by omega, fun h => absurd h (by simp), .inl rfl⟩
  · obtain ⟨rfl, rfl, rfl⟩ : a0 = some a ∧ len = len' ∧ cap = cap' := by simpa [Value.cells] using hcs
    simp only [if_true] at hz
    have hlen : (zs.take len).length = len := by simp; omega
    refine ⟨some a, cap, zs.take len, by rw [hlen], by rw [hlen]; exact hl, by unfold maxLen at hm; omega, ?_, ?_⟩
    · intro hpos
      rw [hlen] at hpos
      have h0 := hcell 0 (by omega)
      rw [show a.add 0 = a by simp [Addr.add]] at h0
      obtain ⟨b, off, spot⟩ := a
      have hsp : spot = none := by
        cases spot with
        | none => rfl
        | some s => simp only [World.cell?] at h0; split at h0 <;> simp at h0
      subst hsp
      refine ⟨b, off, rfl, lt_of_cell h0, fun i hi => ?_⟩
      rw [hlen] at hi
      have hi' : i < zs.length := by omega
      have hc := hcell i hi'
      rw [show (⟨b, off, none⟩ : Addr).add i = ⟨b, off + i, none⟩ by unfold Addr.add; split <;> simp_all] at hc
      rw [hc]
      have e : at_ (zs.take len) i = zs[i] := by
        unfold at_
        rw [List.getD_eq_getElem?_getD, List.getElem?_take_of_lt hi, List.getElem?_eq_getElem hi']
        rfl
      rw [e, List.getD_eq_getElem?_getD, List.getElem?_eq_getElem hi']
      rfl
    · right
      simp only [Prod.mk.injEq] at hx
      refine ⟨_, _, hx.1, ?_⟩
      rw [hlen]
      simp [lits]
      omega
theorem ints_reach {H : Type} {ts : List TypeId} {ds : List (DataW H)} (h : (DataW.weightsEach Tryd.prog ts ds).all (· ≤ reachBytes) = true) {j : Nat} {d : DataW H} {l : List Int} (ht : ts[j]? = some 41) (hd : ds[j]? = some d)
    (hl : l = [] ∨ ∃ elems spare, d = .slice elems spare ∧ elems.length = l.length) : l.length ≤ 140737488351232 := by
  rcases hl with rfl | ⟨elems, spare, rfl, he⟩
  · simp
  · have h1 := sized_slice h ht hd Tryd.underlying41
    rw [show Tryd.prog.bytesOf 3 = 8 by kernel_rfl] at h1
    have h2 : reachBytes = 140737488351232 := by decide
    omega
end Go.Proofs.YteediemhcocgdaaDoor
