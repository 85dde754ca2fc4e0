/-
  pager's Pool: Free.
-/
import Derived.Test.YteediemhcocgdaaDoorPWriteOk
import Derived.Deep.QuietTactic
import Derived.BigQuiet
namespace Go.Proofs.YteediemhcocgdaaDoor
open Go.RowKit

set_option maxRecDepth 100000 in
theorem free_any (p : Nat) (S : PoolS) (w : World) (h : PoolAt w p S) (hok : PoolOK S) :
    Calls Tryd.prog 53 #[.pointer (some ⟨p, 0, none⟩)] w fun e w' => e = .returned (.int .i64 (S.many - (S.tn + S.fn : Int) - S.ln)) ∧ ∃ n, w' = w.drewN n := by
  obtain ⟨c0, c1, c2, c3, c4, c5, c6, c7⟩ := h.cell
  have h1 := hok.tnLe
  have h2 := hok.fnLe
  have hN := hok.next0
  have hnM := hok.nextM
  have hM := hok.manyM
  have h3 := hok.lnLe (show S.next ≤ 1048576 by omega)
  have hll : ∀ n, (Builtin.len_ #[94] 3 #[.map (some S.lb)]).run Tryd.prog (w.drewN n) = .ok (.int .i64 S.ln) (w.drewN n) := fun n => (h.drewN n).lm.len Tryd.underlying94 3
  have H := Lib.hid h
  have HK := Lib.hid hok
  have s1 : IntKind.i64.wrap (S.many - (↑S.tn + ↑S.fn)) = S.many - (↑S.tn + ↑S.fn) := IntWalk.i64_in _ (by omega)
  have s2 : IntKind.i64.wrap (S.many - (↑S.tn + ↑S.fn) - ↑S.ln) = S.many - (↑S.tn + ↑S.fn) - ↑S.ln := IntWalk.i64_in _ (by omega)
  clear h hok h1 h2 h3 hN hnM hM
  go_enter Tryd.func53, Tryd.ntmps53
  go_wp2_with fail
  go_quiet ((go_at_call 52; exact Calls.quiet_of (inUse_any p S _ (H.out.drewN _) HK.out)))
  go_wp2_with fail
  go_ret
  exact ⟨rfl, _, rfl⟩
end Go.Proofs.YteediemhcocgdaaDoor
