/-
  slices.Clone of a row of bytes that is not nil.
-/
import Derived.Test.YteediemhcocgdaaDoorWords
namespace Go.Proofs.YteediemhcocgdaaDoor
open Go.RowKit

set_option maxRecDepth 100000 in
theorem clone_any (B : Nat) (a : Addr) (c : Nat) (l : List UInt8) (w : World) (hb : Byt w B (some a) l) (hB : B ≤ w.heap.size) (hl : l.length ≤ 140737488355328) :
    Calls Tryd.prog 68 #[.slice (some a) l.length c] w fun e w' => ∃ A' c', e = .returned (.slice A' l.length c') ∧ Own w' w.heap.size A' c' l ∧ Below w.heap.size w w' := by
  have hown0 : Own (w.alloc (.cells #[] 5)) w.heap.size (some ⟨w.heap.size, 0, none⟩) 0 [] := Own.of_blk (l := []) (Blk.new w 5 []) (Nat.le_refl _) (by simp)
  have hb0 : Byt (w.alloc (.cells #[] 5)) B (some a) l := hb.below ((Below.refl B w).alloc hB _)
  have hbel0 : Hid (Below w.heap.size w (w.alloc (.cells #[] 5))) := (Below.refl _ w).alloc (Nat.le_refl _) _
  have heq : (binOp BinOp.eql 23 (.slice (some a) l.length c) (.slice none 0 0)).run Tryd.prog w = .ok (.bool false) w := by kernel_rfl
  go_enter Tryd.func68, Tryd.ntmps68
  go_wp2_with (at_builtin; refine wp_append_bytes rfl (.tmp 5) (.tmp 6) rfl w.heap.size (some ⟨w.heap.size, 0, none⟩) 0 [] B (some a) c l rfl rfl hown0 hb0 (by simp; omega) (by simp) ?_; intro A1 n1 w1 hown1 hg1 hat1; have HB1 : Hid (Below w.heap.size w w1) := (hown0.grown_below hbel0.out hg1 (by simp)); have HO1 : Hid (Own w1 w.heap.size A1 n1 l) := hown1; clear hown1 hg1 hat1)
  go_ret
  exact ⟨A1, n1, rfl, HO1.out, HB1.out⟩
end Go.Proofs.YteediemhcocgdaaDoor
