/-
  errors.Is at the error of a disk that is down.
-/
import Derived.Test.YteediemhcocgdaaDoorBlk
import Derived.Test.YteediemhcocgdaaDoorAsWalk
namespace Go.Proofs.YteediemhcocgdaaDoor
open Go.RowKit Go.Extern.Stop Go.Stop Go.Extern

theorem rv_mComp (n : Nat) (h : Value) (w : World) : (Go.method (n + 1) 153 (.agg #[h]) "Comparable").run Tryd.prog w = .ok (141, .agg #[h]) w := by kernel_rfl

set_option maxRecDepth 100000 in
theorem is_nil (w : World) : Calls Tryd.prog 82 #[.nilIface, .iface 24 (.int .i64 5)] w fun e w' => e = .returned (.bool false) ∧ w = w' := by
  have he : ∀ w, (binOp BinOp.eql 46 Value.nilIface (.iface 24 (.int .i64 5))).run Tryd.prog w = .ok (.bool false) w := fun _ => by kernel_rfl
  go_enter Tryd.func82, Tryd.ntmps82
  go_wp2_with fail
  go_ret
  exact ⟨rfl, rfl⟩

set_option maxHeartbeats 2000000 in
set_option maxRecDepth 100000 in
theorem is_down (w : World) : Calls Tryd.prog 82 #[.iface 24 (.int .i64 5), .iface 24 (.int .i64 5)] w fun e w' => e = .returned (.bool true) ∧ w = w' := by
  have h10 := @run_callFunc_extern Tryd.prog 92 _ ReflectliteType.typeOf Tryd.func92 (by kernel_rfl) (by kernel_rfl) (by kernel_rfl) (by kernel_rfl)
  have h11 := @run_callFunc_extern Tryd.prog 141 _ (ReflectliteType.method fun t => do Rtype.noPackHeld "Comparable" t; pure (.bool (← typeInfo t).comparable)) Tryd.func141 (by kernel_rfl) (by kernel_rfl) (by kernel_rfl) (by kernel_rfl)
  have tO := rv_typeOf
  have mC := rv_mComp
  have hcmp : ∀ w, (ReflectliteType.method (fun t => do Rtype.noPackHeld "Comparable" t; (fun a => Value.bool a.comparable) <$> typeInfo t) #[.agg #[.pointer (some ⟨2, 24, none⟩)]]).run Tryd.prog w = .ok (.bool true) w := fun _ => by kernel_rfl
  have he : ∀ w, (binOp BinOp.eql 46 (.iface 24 (.int .i64 5)) (.iface 24 (.int .i64 5))).run Tryd.prog w = .ok (.bool true) w := fun _ => by kernel_rfl
  have he1 : ∀ w, (binOp BinOp.eql 46 (.iface 24 (.int .i64 5)) Value.nilIface).run Tryd.prog w = .ok (.bool false) w := fun _ => by kernel_rfl
  go_enter Tryd.func82, Tryd.ntmps82
  go_wp2
  refine wp_loop_rounds 1 ?_
  rw [rounds_succ]
  go_wp2
  go_ret
  exact ⟨rfl, rfl⟩
end Go.Proofs.YteediemhcocgdaaDoor
