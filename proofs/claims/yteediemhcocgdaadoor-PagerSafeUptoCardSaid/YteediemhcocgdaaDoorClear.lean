/-
  The builtin clear on a row of bytes.
-/
import Derived.Test.YteediemhcocgdaaDoorWords
import Derived.Laws.CopyRow
namespace Go.Proofs.YteediemhcocgdaaDoor
open Go.RowKit

theorem zeroCells_one (n : Nat) : (Builtin.zeroCells #[Value.int .u8 0] n).toList = List.replicate n (.int .u8 0) := by
  unfold Builtin.zeroCells
  rw [Array.toList_map, Array.toList_range]
  apply List.ext_getElem
  · simp
  · intro i h1 h2
    simp [Nat.mod_one]

theorem run_clear_bytes (w : World) (g off n c : Nat) (cs : List Value) (ty : TypeId) (hb : Blk w g 5 cs) (hfit : off + n ≤ cs.length) :
    (Builtin.clear_ #[23] ty #[.slice (some ⟨g, off, none⟩) n c]).run Tryd.prog w = .ok (.tuple #[]) (w.setRow g (cs.take off ++ List.replicate n (Value.int .u8 0) ++ cs.drop (off + n)).toArray) := by
  rcases n with _ | n
  · have h0 : (w.setRow g (cs.take off ++ List.replicate 0 (Value.int .u8 0) ++ cs.drop (off + 0)).toArray) = w := by
      rw [show cs.take off ++ List.replicate 0 (Value.int .u8 0) ++ cs.drop (off + 0) = cs by simp]
      exact setRow_self w g cs.toArray 5 (0, 0) hb
    rw [h0]
    simp [Builtin.clear_, run_underlying Tryd.underlying23, Result.andThen]
  · have hst := run_storeCells_at Tryd.prog g off 5 (List.replicate (n + 1) (Value.int .u8 0)) 0 cs.toArray w hb (by simpa using hfit) (by intro v hv; obtain rfl := List.eq_of_mem_replicate hv; rfl)
    have hz : (zeroValue 5).run Tryd.prog w = .ok (.int .u8 0) w := by kernel_rfl
    simp only [List.length_replicate, Nat.add_zero] at hst
    have hz1 : (Value.int .u8 0).cells = #[Value.int .u8 0] := rfl
    simp [Builtin.clear_, run_underlying Tryd.underlying23, hz, hz1, zeroCells_one, Result.andThen, hst]
end Go.Proofs.YteediemhcocgdaaDoor
