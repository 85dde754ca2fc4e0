/-
  pager's Pool: Read of a page that is taken.
-/
import Derived.Test.YteediemhcocgdaaDoorPoolMore
import Derived.Test.YteediemhcocgdaaDoorClone
import Derived.Test.YteediemhcocgdaaDoorAwake09
namespace Go.Proofs.YteediemhcocgdaaDoor
open Go.RowKit

set_option maxRecDepth 100000 in
theorem read_taken (p : Nat) (S : PoolS) (x : Int) (g : Nat) (l : List UInt8) (w : World) (h : PoolAt w p S) (hx : I64 x) (hp : S.pg x = some (g, l)) :
    Calls Tryd.prog 48 #[.pointer (some ⟨p, 0, none⟩), .int .i64 x] w fun e w' => ∃ A' c', e = .returned (.tuple #[.slice A' l.length c', .nilIface]) ∧ Own w' w.heap.size A' c' l ∧ Below w.heap.size w w' := by
  obtain ⟨c0, c1, c2, c3, c4, c5, c6, c7⟩ := h.cell
  have hlt := h.lookT hx 0
  rw [show w.drewN 0 = w from rfl] at hlt
  have hpp : pageF S.pg x = some (.slice (some ⟨g, 0, none⟩) 500 500) := by unfold pageF; rw [hp]; rfl
  rw [hpp] at hlt
  obtain ⟨hblk, hlen⟩ := h.page x g l hp
  have hby := (byt_blk hblk).more (Nat.succ_le_of_lt hblk.lt)
  have HC := Lib.hid (clone_any w.heap.size ⟨g, 0, none⟩ 500 l w hby (Nat.le_refl _) (by omega))
  rw [hlen] at HC
  rw [hlen]
  clear h hblk hby hp hpp
  go_enter Tryd.func48, Tryd.ntmps48
  go_wp2_with fail
  refine HC.out.mono ?_
  rintro e w1 ⟨A', c', rfl, hown, hb⟩
  have HO := Lib.hid hown
  have HB := Lib.hid hb
  clear hown hb
  go_wp2_with fail
  go_ret2
  exact ⟨A', c', rfl, HO.out, HB.out⟩
end Go.Proofs.YteediemhcocgdaaDoor
