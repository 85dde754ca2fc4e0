/-
  pager.Open refused; api.Number; InUse, Free.
-/
import Derived.Test.YteediemhcocgdaaDoorPoolOpen
import Derived.Test.YteediemhcocgdaaDoorAsWalk
namespace Go.Proofs.YteediemhcocgdaaDoor
open Go.RowKit

set_option maxRecDepth 100000 in
theorem popen_bad (db bb : Nat) (frm many n : Int) (v : Value) (w : World) (hd : w.cell? ⟨db, 0, none⟩ = some (.pointer (some ⟨bb, 0, none⟩))) (h2 : w.cell? ⟨bb, 0, none⟩ = some (.int .i64 n))
    (hf0 : 0 ≤ frm) (hfn : frm ≤ n) (hm1 : 1 ≤ many) (hmM : many ≤ 1048576) (hmn : n - frm < many) (hn : n ≤ 1099511627776) :
    Calls Tryd.prog 31 #[.pointer (some ⟨db, 0, none⟩), .int .i64 frm, .int .i64 many, v] w fun e w' => e = .returned (.tuple #[.pointer none, .iface 24 (.int .i64 1)]) ∧ w = w' := by
  go_enter Tryd.func31, Tryd.ntmps31
  go_wp2_with fail
  refine (sectors_any db bb n w hd h2).mono ?_
  rintro e w1 ⟨rfl, rfl⟩
  go_wp2_with fail
  go_ret2
  exact ⟨rfl, rfl⟩

theorem step_map_len {w : World} {ops : Array Oper} {o : Oper} {a : Act} {K : Act → World → Prop} {Q : Exit → Act → World → Prop} {E : Prop} (hgd : o.guard = none) (m : Operand) (t e : TypeId) (hop : o.op = Op.call { callee := Callee.builtin Builtin.len, args := #[m], argTypes := #[t] })
    (ht : Tryd.prog.underlying t = some (.map 3 e)) (b sz : Nat) (f : Int → Option Value) (hm : a.eval m = .map (some b)) (h : MapV w b f sz) (hK : K (a.put o.dst (.int .i64 sz)) w) :
    if Region.wanted o (yielded ops a.tmps) = true then Oper.wp Tryd.prog o a w K Q else E := by
  have hw : Region.wanted o (yielded ops a.tmps) = true := by simp [Region.wanted, hgd]
  rw [if_pos hw]
  unfold Oper.wp
  simp [execOp, hop, resolve, invoke, builtin, hm, h.len ht o.type, Result.andThen]
  exact hK

set_option maxRecDepth 100000 in
theorem inUse_any (p : Nat) (S : PoolS) (w : World) (h : PoolAt w p S) (hok : PoolOK S) :
    Calls Tryd.prog 52 #[.pointer (some ⟨p, 0, none⟩)] w fun e w' => e = .returned (.int .i64 (S.tn + S.fn : Int)) ∧ ∃ n, w' = w.drewN n := by
  obtain ⟨c0, c1, c2, c3, c4, c5, c6, c7⟩ := h.cell
  have h1 := hok.tnLe
  have h2 := hok.fnLe
  have H := Lib.hid h
  clear h hok
  go_enter Tryd.func52, Tryd.ntmps52
  go_wp2_with fail
  go_region_law (first | refine step_map_len rfl (.tmp 6) 88 23 rfl Tryd.underlying88 S.tb S.tn _ rfl (H.out.drewN _).tm ?_ | refine step_map_len rfl (.tmp 11) 94 4 rfl Tryd.underlying94 S.fb S.fn _ rfl (H.out.drewN _).fm ?_ | refine step_map_len rfl (.tmp 6) 88 23 rfl Tryd.underlying88 S.tb S.tn _ rfl H.out.drew.tm ?_ | refine step_map_len rfl (.tmp 11) 94 4 rfl Tryd.underlying94 S.fb S.fn _ rfl H.out.drew.fm ?_)
  all_goals go_wp2_with fail
  all_goals go_ret
  all_goals refine ⟨?_, 1, rfl⟩
  all_goals simp [go_sem]
  all_goals exact IntWalk.i64_in _ (by omega)
end Go.Proofs.YteediemhcocgdaaDoor
