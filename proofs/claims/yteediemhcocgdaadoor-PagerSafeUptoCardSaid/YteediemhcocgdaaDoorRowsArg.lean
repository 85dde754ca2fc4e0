/-
  An argument of rows of bytes, opened.
-/
import Derived.Test.YteediemhcocgdaaDoorRowBoth
import Derived.Test.YteediemhcocgdaaDoorBlk
import Derived.Deep.Matrix
namespace Go.Proofs.YteediemhcocgdaaDoor
open Go.ChangeShapes Go.WideShapes Go.ChangeAt Go.RowKit Go.Deep

theorem spot_none {W : World} {a : Addr} {v : Value} (h : W.cell? a = some v) : a.spot = none := by
  obtain ⟨b, off, spot⟩ := a
  cases spot with
  | none => rfl
  | some s => simp only [World.cell?] at h; split at h <;> simp at h
theorem weights_in {H : Type} {e : TypeId} {n : Nat} : ∀ (ls : List (DataW H)) (d : DataW H), d ∈ ls → n ∈ d.weights Tryd.prog e → n ∈ DataW.weightsAll Tryd.prog e ls
  | [], d, h, _ => by cases h
  | x :: r, d, h, hn => by
    unfold DataW.weightsAll
    rcases List.mem_cons.1 h with rfl | h
    · exact List.mem_append_left _ hn
    · exact List.mem_append_right _ (weights_in r d h hn)
set_option maxRecDepth 100000 in
theorem open_rows {H : Type} {enc : TypeId × Value → H} {W : World} {base : Nat} {v : Value} {d : DataW H} {p : List MemPlace} {ts : List TypeId} {ds : List (DataW H)} {j : Nat}
    (hval : Value.okWide Tryd.prog W .any base 36 v) (h : DataW.Trod enc Tryd.prog W 0 (fun _ => true) true 36 v d p) (hsz : (DataW.weightsEach Tryd.prog ts ds).all (· ≤ reachBytes) = true) (ht : ts[j]? = some 36) (hd : ds[j]? = some d) :
    ∃ (A : Option Addr) (c : Nat) (ls : List (List UInt8)), v = .slice A ls.length c ∧ ls.length ≤ c ∧ c ≤ 9223372036854775807 ∧ RArg W W.heap.size A ls ∧ ls.length ≤ 140737488351232 := by
  obtain ⟨a0, len, cap, rfl⟩ := okWide_slice Tryd.underlying36 hval
  obtain ⟨fuel, hf⟩ := h
  have h2 : reachBytes = 140737488351232 := by decide
  rcases open_int_rows Tryd.underlying36 Tryd.underlying23 Tryd.underlying5 (by kernel_rfl) (by kernel_rfl) hf with ⟨hcs, hx⟩ | ⟨a, len', cap', A, L, C, Z, hcs, hb, hl, hm, hx, hrow⟩
  · obtain ⟨rfl, rfl, rfl⟩ : a0 = none ∧ len = 0 ∧ cap = 0 := by simpa [Value.cells] using hcs
    exact ⟨none, 0, [], rfl, Nat.le_refl _, by omega, fun h => absurd h (by simp), by simp⟩
  · obtain ⟨rfl, rfl, rfl⟩ : a0 = some a ∧ len = len' ∧ cap = cap' := by simpa [Value.cells] using hcs
    simp only [Prod.mk.injEq] at hx
    obtain ⟨rfl, rfl⟩ := hx
    have hw0 := sized_slice hsz ht hd Tryd.underlying36
    rw [show Tryd.prog.bytesOf 23 = 24 by kernel_rfl] at hw0
    simp only [List.length_map, List.length_range] at hw0
    have hin : ∀ r, r < len → L r ≤ 140737488351232 := by
      intro r hr
      obtain ⟨_, hLC, _, hZ, _, hA0, _⟩ := hrow r (by omega)
      cases hA : A r with
      | none => have := hA0 hA; omega
      | some a' =>
        have hmem : ((L r + (C r - L r)) * Tryd.prog.bytesOf 5) ∈ (intRow (H := H) .u8 (A r) (L r) (Z r)).weights Tryd.prog 23 := by
          rw [hA]
          unfold intRow DataW.weights
          rw [Tryd.underlying23]
          simp [lits, hZ]
          left
          rw [Nat.min_eq_left (by omega)]
        have := List.all_eq_true.1 hsz _ (DataW.weights_mem_each ht hd _ (by
          unfold DataW.weights
          rw [Tryd.underlying36]
          refine List.mem_cons_of_mem _ (List.mem_append_left _ (weights_in _ _ (List.mem_map.2 ⟨r, List.mem_range.2 hr, rfl⟩) hmem))))
        rw [show Tryd.prog.bytesOf 5 = 1 by kernel_rfl] at this
        have := of_decide_eq_true this
        omega
    have hlen : ((List.range len).map fun r => ((Z r).take (L r)).map fun n => UInt8.ofNat n.toNat).length = len := by simp
    refine ⟨some a, cap, (List.range len).map fun r => ((Z r).take (L r)).map fun n => UInt8.ofNat n.toNat, by rw [hlen], by rw [hlen]; exact hl, by unfold maxLen at hm; omega, ?_, by rw [hlen]; omega⟩
    intro hpos
    rw [hlen] at hpos
    have h0 := (hrow 0 (by omega)).1
    rw [show a.add 0 = a by simp [Addr.add]] at h0
    have hs := spot_none h0
    obtain ⟨b, off, spot⟩ := a
    simp only at hs
    subst hs
    refine ⟨b, off, rfl, lt_of_cell h0, fun r hr => ?_⟩
    rw [hlen] at hr
    have hget : ((List.range len).map fun r => ((Z r).take (L r)).map fun n => UInt8.ofNat n.toNat).getD r [] = ((Z r).take (L r)).map fun n => UInt8.ofNat n.toNat := by
      rw [List.getD_eq_getElem?_getD, List.getElem?_map, List.getElem?_range hr]
      rfl
    obtain ⟨hc, hLC, hCm, hZ, hwf, hA0, hin2⟩ := hrow r (by omega)
    rw [show (⟨b, off, none⟩ : Addr).add r = ⟨b, off + r, none⟩ by unfold Addr.add; split <;> simp_all] at hc
    have hll : (((Z r).take (L r)).map fun n => UInt8.ofNat n.toNat).length = L r := by simp; omega
    rw [hget, hll]
    refine ⟨A r, C r, hc, hLC, by unfold maxLen at hCm; omega, hin r hr, ?_⟩
    intro hp
    rw [hll] at hp
    cases hA : A r with
    | none => have := hA0 hA; omega
    | some a' =>
      obtain ⟨_, hcell⟩ := hin2 a' hA
      have h0 := hcell 0 (by omega)
      rw [show a'.add 0 = a' by simp [Addr.add]] at h0
      have hs := spot_none h0
      obtain ⟨b', off', spot'⟩ := a'
      simp only at hs
      subst hs
      refine ⟨b', off', rfl, lt_of_cell h0, fun i hi => ?_⟩
      rw [hll] at hi
      have hi' : i < (Z r).length := by omega
      have hci := hcell i (by omega)
      rw [show (⟨b', off', none⟩ : Addr).add i = ⟨b', off' + i, none⟩ by unfold Addr.add; split <;> simp_all] at hci
      rw [hci]
      have hw := bounds_u8 (hwf (Z r)[i] (List.getElem_mem hi'))
      congr 2
      simp only [List.getD_eq_getElem?_getD, List.getElem?_map, List.getElem?_take_of_lt hi, List.getElem?_eq_getElem hi', Option.map_some, Option.getD_some]
      rw [UInt8.toNat_ofNat']
      omega
end Go.Proofs.YteediemhcocgdaaDoor
