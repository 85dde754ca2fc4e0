/-
  What blotterlaw09.awake answers: true.
-/
import Derived.Test.YteediemhcocgdaaDoorOpenWalk
import Derived.Test.YteediemhcocgdaaDoorNumWalk
import Derived.Test.YteediemhcocgdaaDoorReadWalk
import Derived.Lib.SlBytesConst
namespace Go.Proofs.YteediemhcocgdaaDoor
open Go.RowKit

theorem awake_sum : SumP.sum [49, 50, 51, 52, 53, 54, 55, 56, 57] = 3421780262 := by decide +kernel
theorem byt_blk {w : World} {g : Nat} {t : TypeId} {l : List UInt8} (h : Blk w g t (l.map cu8)) : Byt w (g + 1) (some ⟨g, 0, none⟩) l := fun _ => ⟨g, 0, rfl, by omega, fun i hi => by
  rw [h.cell, Nat.zero_add, List.getElem?_map, List.getElem?_eq_getElem hi]
  simp [cu8, List.getD, hi]⟩

theorem byt_new (w : World) (t : TypeId) (fr : Nat × Nat) (l : List UInt8) : Byt (w.alloc (.cells (l.map cu8).toArray t fr)) (w.heap.size + 1) (some ⟨w.heap.size, 0, none⟩) l := fun _ => ⟨_, 0, rfl, by omega, fun i hi => by
  rw [cell_of_row _ _ _ _ t fr (heap_alloc_new w _), Nat.zero_add, List.getElem?_toArray, List.getElem?_map, List.getElem?_eq_getElem hi]
  simp [cu8, List.getD, hi]⟩

set_option maxRecDepth 100000 in
theorem awake09_any (w : World) (hn : Nib w) (h0 : 0 < w.heap.size) :
    Calls Tryd.prog 14 #[] w fun e w' => e = .returned (.bool true) ∧ Below w.heap.size w w' := by
  go_enter Tryd.func14, Tryd.ntmps14
  go_wp2_with fail
  refine (number_ok 258 2 w (by omega) (by omega) (by omega) (by omega)).mono ?_
  rintro e w1 ⟨A, rfl, hown, hb1⟩
  obtain ⟨g, off, rfl, hg, hcell⟩ := hown.byt (by simp [SumP.be_length])
  have hc0 : w1.cell? ⟨g, off, none⟩ = some (.int .u8 1) := by have := hcell 0 (by simp [SumP.be_length]); simpa [SumP.be] using this
  have HC0 := Lib.hid hc0
  have HB1 := Lib.hid hb1
  clear hown hb1 hcell hc0
  go_wp2_with fail
  have hb2 := HB1.out.alloc HB1.out.size (.cells #[Value.int .u8 1, .int .u8 2, .int .u8 3] 5)
  have hk2 : Blk (w1.alloc (.cells #[Value.int .u8 1, .int .u8 2, .int .u8 3] 5)) w1.heap.size 5 (([1, 2, 3] : List UInt8).map cu8) := Blk.new w1 5 [Value.int .u8 1, .int .u8 2, .int .u8 3]
  refine (read_any (w1.heap.size + 1) _ 3 [1, 2, 3] 1 2 _ (byt_blk hk2) (by simp) (by simp)).mono ?_
  rintro e w2 ⟨rfl, rfl⟩
  rw [show SumP.rdR [1, 2, 3] 1 2 = (515, 0) by decide +kernel]
  have HB2 := Lib.hid hb2
  clear hb2 hk2
  go_wp2_with fail
  refine (open_short _ 3 3 _ (by omega)).mono ?_
  rintro e w3 ⟨rfl, hb3⟩
  have hb13 : Below w1.heap.size w1 w3 := ((((Below.refl _ _).alloc (Nat.le_refl _) _).alloc (by simp) _).trans (hb3.mono (by simp; omega)))
  have hb03 : Below w.heap.size w w3 := HB1.out.trans (hb13.mono HB1.out.size)
  have hc3 : w3.cell? ⟨g, off, none⟩ = some (.int .u8 1) := (hb13.cell (p := ⟨g, off, none⟩) hg).trans HC0.out
  have hg3 : g < w3.heap.size := by have := hb13.size; omega
  have hn3 : Nib w3 := hn.below hb03 h0
  have HB3 := Lib.hid hb03
  clear hb3 hb13 hb03 hn HB2
  have kc := fun (w : World) (C : Array Value) (n c : Nat) => Lib.run_convert_bytes_const (P := Tryd.prog) w 23 5 C n c Tryd.underlying23 Tryd.underlying5
  go_wp2_with fail
  have hn4 : Nib (w3.alloc (.cells (([49, 50, 51, 52, 53, 54, 55, 56, 57] : List UInt8).map cu8).toArray 5 (9, 10))) := hn3.below ((Below.refl _ _).alloc (Nat.le_refl _) _) (by omega)
  have hy4 := byt_new w3 5 (9, 10) [49, 50, 51, 52, 53, 54, 55, 56, 57]
  have hb4 : Below w.heap.size w (w3.alloc (.cells (([49, 50, 51, 52, 53, 54, 55, 56, 57] : List UInt8).map cu8).toArray 5 (9, 10))) := HB3.out.alloc HB3.out.size _
  refine (sum_any (w3.heap.size + 1) _ 9 [49, 50, 51, 52, 53, 54, 55, 56, 57] _ hy4 hn4 (by simp)).mono ?_
  rintro e w4 ⟨rfl, rfl⟩
  rw [awake_sum]
  have HB4 := Lib.hid hb4
  clear hb4 hy4 hn4 hn3 kc
  go_wp2_with fail
  go_ret
  exact ⟨rfl, HB4.out⟩
end Go.Proofs.YteediemhcocgdaaDoor
