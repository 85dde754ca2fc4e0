/-
  append(x, make([]byte, k)...), x of the call's own.
-/
import Derived.Test.YteediemhcocgdaaDoorClear
namespace Go.Proofs.YteediemhcocgdaaDoor
open Go.RowKit

theorem zeroCells_arr (k : Nat) : Builtin.zeroCells #[Value.int .u8 0] k = (List.replicate k (Value.int .u8 0)).toArray := Array.ext' (by rw [zeroCells_one])
theorem zs_cells (k : Nat) : (List.replicate k (0 : UInt8)).map cu8 = List.replicate k (Value.int .u8 0) := by
  rw [List.map_replicate]; rfl
theorem run_append_zeros_own (w : World) (ty : TypeId) (base : Nat) (A : Option Addr) (c : Nat) (l : List UInt8) (hown : Own w base A c l) (k : Nat) (hb : l.length + k ≤ 1099511627776) (hbase : base ≤ w.heap.size) :
    ∃ A' c' w', (Builtin.append_ #[23, 3] ty #[.slice A l.length c, .int .i64 (k : Int)]).run Tryd.prog w = .ok (.slice A' (l ++ List.replicate k 0).length c') w' ∧ Own w' base A' c' (l ++ List.replicate k 0) ∧ w.grownBy w' (blkOf A) := by
  obtain ⟨i0, hi, hz0, hz1, hz2⟩ := info_parts u8_info
  have hlen := hown.len_le
  have hle : l.length ≤ c := hlen.1
  have hw : IntKind.i64.wrap (k : Int) = k := by rw [IntKind.wrap_i64]; omega
  have hneg : ¬ ((k : Int) < 0) := by omega
  have h48 : ¬ (281474976710656 < (k : Int)) := by omega
  rcases Nat.eq_zero_or_pos k with hk | hk
  · refine ⟨A, c, w, ?_, by rw [hk]; simpa using hown, World.grownBy.refl w _⟩
    have hl0 : (l ++ List.replicate k (0 : UInt8)).length = l.length := by rw [hk]; simp
    rw [hl0]
    subst hk
    cases A <;> simp [Builtin.append_, run_underlying Tryd.underlying23, run_underlying Tryd.underlying3, sizeOf, typeInfo, zeroValue, hi, hz0, hz2, asInt, asIntOf, hle, storeCells, show IntKind.i64.wrap 0 = 0 by decide]
  · have hk0 : k ≠ 0 := by omega
    by_cases hfit : l.length + k ≤ c
    · obtain ⟨h1, ⟨hv, h0⟩ | ⟨g, cap, cur, hv, hg, hh, r1, r2, r3, r4⟩⟩ := hown
      · injection hv with _ _ hc
        omega
      · injection hv with hA _ hc
        subst hA hc
        rw [Nat.mul_one] at r4
        have hcl : cur.size = c := by simpa using r3
        have hst := run_storeCells_at Tryd.prog g l.length 5 (List.replicate k (Value.int .u8 0)) 0 cur w hh (by simp; omega) (by intro v hv; obtain rfl := List.eq_of_mem_replicate hv; rfl)
        refine ⟨some ⟨g, 0, none⟩, c, w.setRow g (cur.toList.take l.length ++ List.replicate k (Value.int .u8 0) ++ cur.toList.drop (l.length + k)).toArray, ?_, ?_, ?_⟩
        · have hz1' : (Value.int .u8 0).cells = #[Value.int .u8 0] := rfl
          simp only [Nat.add_zero, List.length_replicate] at hst
          rw [List.length_append, List.length_replicate]
          simp [Builtin.append_, run_underlying Tryd.underlying23, run_underlying Tryd.underlying3, sizeOf, typeInfo, zeroValue, hi, hz0, hz1, hz2, asInt, asIntOf, hw, hneg, h48, hfit, hk0, hz1', zeroCells_arr, Addr.add, Result.andThen]
          have hif : (if l = [] then (⟨g, 0, none⟩ : Addr) else ⟨g, l.length, none⟩) = ⟨g, l.length, none⟩ := by
            by_cases e : l = []
            · rw [if_pos e, e]; rfl
            · rw [if_neg e]
          rw [hif, hst]
          simp
        · refine ⟨by simp, .inr ⟨g, c, (cur.toList.take l.length ++ List.replicate k (Value.int .u8 0) ++ cur.toList.drop (l.length + k)).toArray, rfl, hg, ?_, ?_, r2, ?_, ?_⟩⟩
          · exact setRow_heap w g cur _ 5 (0, 0) hh
          · rw [List.length_append, List.length_replicate]; exact hfit
          · simp [hcl]; omega
          · rw [Nat.mul_one, List.map_append, zs_cells, r4]
            rw [List.take_append_of_le_length (by simp), List.take_of_length_le (by simp)]
        · exact ⟨rfl, rfl, rfl, by simp [World.setRow], fun b hb hn => setRow_other w g b _ (fun e => hn (by rw [e]; rfl))⟩
    · have hold : (Builtin.firstCells i0.size l.length (.slice A l.length c)).run Tryd.prog w.drew = .ok (l.map cu8).toArray w.drew := by
        rw [hz1]
        rcases l with _ | ⟨y, l'⟩
        · cases A <;> simp [Builtin.firstCells, loadCells]
          all_goals rfl
        · obtain ⟨b, off, rfl, _, hc⟩ := hown.byt (by simp)
          have := run_loadCells_list (P := Tryd.prog) (w := w.drew) ⟨b, off, none⟩ ((y :: l').map cu8) (fun j v hj => by
            rw [List.getElem?_map] at hj
            obtain ⟨z, hz, rfl⟩ := Option.map_eq_some_iff.1 hj
            have hjl : j < (y :: l').length := (List.getElem?_eq_some_iff.1 hz).1
            have := hc j hjl
            rw [List.getD_eq_getElem?_getD, hz] at this
            rw [show ((⟨b, off, none⟩ : Addr).add j) = ⟨b, off + j, none⟩ by unfold Addr.add; split <;> simp_all]
            exact this)
          rw [List.length_map] at this
          simpa [Builtin.firstCells] using this
      have hrz := Lib.run_append_grow_zeros (P := Tryd.prog) w 23 3 ty 5 i0 (.int .u8 0) .i64 .i64 Tryd.underlying23 Tryd.underlying3 hi hz0 A l.length c (l.map cu8) hold k hk (by omega) (by omega) (by omega) (by rw [hz2]; omega) (growslice_fits (by omega) (by rw [hz2]; omega))
      have hG := grownCap_le_maxLen w (l.length + k) c 5 (by unfold maxLen; omega)
      have hGn := grownCap_ge w (l.length + k) c 5
      generalize grownCap w (l.length + k) c 5 = G at hrz hG hGn
      refine ⟨some ⟨w.heap.size, 0, none⟩, G, _, by rw [List.length_append, List.length_replicate]; exact hrz, ⟨by simp, .inr ⟨w.heap.size, G, _, rfl, hbase, heap_alloc_new w.drew _, by rw [List.length_append, List.length_replicate]; exact hGn, hG, ?_, ?_⟩⟩, ?_⟩
      · have e1 : (Value.int .u8 0).cells = #[Value.int .u8 0] := rfl
        simp [e1, zeroCells_arr]; omega
      · have e1 : (Value.int .u8 0).cells = #[Value.int .u8 0] := rfl
        rw [e1, zeroCells_arr, zeroCells_arr, Nat.mul_one, List.map_append, zs_cells]
        simp only [Array.toList_append, List.append_assoc]
        rw [← List.append_assoc, List.take_append_of_le_length (by simp), List.take_of_length_le (by simp)]
      · exact ⟨rfl, rfl, rfl, by simp, fun b hb _ => Below.heap_alloc w.drew _ b hb⟩
end Go.Proofs.YteediemhcocgdaaDoor
