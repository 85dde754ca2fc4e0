/-
  An argument of bools, opened.
-/
import Derived.Test.YteediemhcocgdaaDoorRowsArg
import Derived.Test.YteediemhcocgdaaDoorDiskCrash
import Derived.Deep.Grids
namespace Go.Proofs.YteediemhcocgdaaDoor
open Go.ChangeShapes Go.WideShapes Go.ChangeAt Go.RowKit Go.Deep

set_option maxRecDepth 100000 in
theorem open_bargs {H : Type} {enc : TypeId × Value → H} {W : World} {base : Nat} {v : Value} {d : DataW H} {p : List MemPlace} {ts : List TypeId} {ds : List (DataW H)} {j : Nat}
    (hval : Value.okWide Tryd.prog W .any base 65 v) (h : DataW.Trod enc Tryd.prog W 0 (fun _ => true) true 65 v d p) (hsz : (DataW.weightsEach Tryd.prog ts ds).all (· ≤ reachBytes) = true) (ht : ts[j]? = some 65) (hd : ds[j]? = some d) :
    ∃ (A : Option Addr) (c : Nat) (l : List Bool), v = .slice A l.length c ∧ l.length ≤ c ∧ BIn W A l (fun g => g < W.heap.size) ∧ l.length ≤ 140737488351232 := by
  obtain ⟨a0, len, cap, rfl⟩ := okWide_slice Tryd.underlying65 hval
  obtain ⟨fuel, hf⟩ := h
  have h2 : reachBytes = 140737488351232 := by decide
  rcases open_bools Tryd.underlying65 Tryd.underlying4 (by kernel_rfl) hf with ⟨hcs, hx⟩ | ⟨a, len', cap', B, hcs, _, hl, hm, hx, hcell⟩
  · obtain ⟨rfl, rfl, rfl⟩ : a0 = none ∧ len = 0 ∧ cap = 0 := by simpa [Value.cells] using hcs
    exact ⟨none, 0, [], rfl, Nat.le_refl _, fun h => absurd h (by simp), by simp⟩
  · obtain ⟨rfl, rfl, rfl⟩ : a0 = some a ∧ len = len' ∧ cap = cap' := by simpa [Value.cells] using hcs
    simp only [Prod.mk.injEq] at hx
    obtain ⟨rfl, rfl⟩ := hx
    have hw0 := sized_slice hsz ht hd Tryd.underlying65
    rw [show Tryd.prog.bytesOf 4 = 1 by kernel_rfl] at hw0
    simp only [List.length_map, List.length_range] at hw0
    have hlen : ((List.range len).map B).length = len := by simp
    refine ⟨some a, cap, (List.range len).map B, by rw [hlen], by rw [hlen]; exact hl, fun hp => ?_, by rw [hlen]; omega⟩
    rw [hlen] at hp
    have h0 := hcell 0 (by omega)
    rw [show a.add 0 = a by simp [Addr.add]] at h0
    have hs := spot_none h0
    obtain ⟨b, off, spot⟩ := a
    simp only at hs
    subst hs
    refine ⟨b, off, rfl, lt_of_cell h0, fun i hi => ?_⟩
    rw [hlen] at hi
    have hci := hcell i (by omega)
    rw [show (⟨b, off, none⟩ : Addr).add i = ⟨b, off + i, none⟩ by unfold Addr.add; split <;> simp_all] at hci
    rw [hci, List.getD_eq_getElem?_getD, List.getElem?_map, List.getElem?_range hi]
    rfl
end Go.Proofs.YteediemhcocgdaaDoor
