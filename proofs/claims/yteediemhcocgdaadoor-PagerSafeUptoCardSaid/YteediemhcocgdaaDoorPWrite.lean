/-
  pager's Pool: Write.
-/
import Derived.Test.YteediemhcocgdaaDoorPoolRead
import Derived.Test.YteediemhcocgdaaDoorClear
import Derived.Laws.CopyOwn
namespace Go.Proofs.YteediemhcocgdaaDoor
open Go.RowKit

set_option maxRecDepth 100000 in
theorem pwrite_none (p : Nat) (S : PoolS) (x : Int) (v : Value) (w : World) (h : PoolAt w p S) (hx : I64 x) (hp : S.pg x = none) :
    Calls Tryd.prog 47 #[.pointer (some ⟨p, 0, none⟩), .int .i64 x, v] w fun e w' => e = .returned (.int .i64 130) ∧ w = w' := by
  obtain ⟨c0, c1, c2, c3, c4, c5, c6, c7⟩ := h.cell
  have hlt := h.lookT hx 0
  rw [show w.drewN 0 = w from rfl] at hlt
  have hpp : pageF S.pg x = none := by unfold pageF; rw [hp]; rfl
  rw [hpp] at hlt
  clear h hp hpp
  go_enter Tryd.func47, Tryd.ntmps47
  go_wp2_with fail
  go_ret
  exact ⟨rfl, rfl⟩

set_option maxRecDepth 100000 in
theorem pwrite_long (p : Nat) (S : PoolS) (x : Int) (q : Nat × List UInt8) (A : Option Addr) (n c : Nat) (w : World) (h : PoolAt w p S) (hx : I64 x) (hp : S.pg x = some q) (hn : 500 < n) :
    Calls Tryd.prog 47 #[.pointer (some ⟨p, 0, none⟩), .int .i64 x, .slice A n c] w fun e w' => e = .returned (.int .i64 2) ∧ w = w' := by
  obtain ⟨c0, c1, c2, c3, c4, c5, c6, c7⟩ := h.cell
  have hlt := h.lookT hx 0
  rw [show w.drewN 0 = w from rfl] at hlt
  have hpp : pageF S.pg x = some (.slice (some ⟨q.1, 0, none⟩) 500 500) := by unfold pageF; rw [hp]; rfl
  rw [hpp] at hlt
  clear h hp hpp
  go_enter Tryd.func47, Tryd.ntmps47
  go_wp2_with fail
  go_ret
  exact ⟨rfl, rfl⟩
end Go.Proofs.YteediemhcocgdaaDoor
