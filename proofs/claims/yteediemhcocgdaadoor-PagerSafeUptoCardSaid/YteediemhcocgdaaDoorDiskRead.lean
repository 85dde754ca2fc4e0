/-
  block.Disk's Read.
-/
import Derived.Test.YteediemhcocgdaaDoorDiskWrite
import Derived.Laws.CopyOwn
namespace Go.Proofs.YteediemhcocgdaaDoor
open Go.RowKit

def zc512 : List Value := List.replicate 512 (.int .u8 0)
theorem z512_cells : z512.map cu8 = zc512 := by
  unfold z512
  rw [List.map_replicate]
  rfl
/-- What Read leaves. -/
def ReadR (V : DV) (x : Int) (w : World) (e : Ending) (w' : World) : Prop :=
  ∃ g, e = .returned (.tuple #[.slice (some ⟨g, 0, none⟩) 512 512, .nilIface]) ∧ w.heap.size ≤ g ∧ Blk w' g 5 ((V.now x).map cu8) ∧ Below w.heap.size w w'

theorem SecAt.src {w : World} {q : SecV} (h : SecAt w q) : ∀ j v, (q.2.2.map cu8)[j]? = some v → w.cell? ((⟨q.1, 0, none⟩ : Addr).add j) = some v := by
  intro j v hj
  rw [List.getElem?_map] at hj
  obtain ⟨y, hy, rfl⟩ := Option.map_eq_some_iff.1 hj
  have hjl : j < q.2.2.length := (List.getElem?_eq_some_iff.1 hy).1
  obtain ⟨b, off, hA, _, hc⟩ := h.byt (by omega)
  cases hA
  have := hc j hjl
  rw [List.getD_eq_getElem?_getD, hy] at this
  rw [show ((⟨q.1, 0, none⟩ : Addr).add j) = ⟨q.1, 0 + j, none⟩ by unfold Addr.add; split <;> simp_all]
  exact this

set_option maxHeartbeats 1000000 in
set_option maxRecDepth 100000 in
theorem dread_v {K : Nat → Prop} {w : World} {bb : Nat} {V : DV} (h : Dk K w bb V) (x : Int) (db : Nat) (h0 : 0 ≤ x) (hn : x < V.n) (hdn : V.down = false) (hdb : w.cell? ⟨db, 0, none⟩ = some (.pointer (some ⟨bb, 0, none⟩))) :
    Calls Tryd.prog 69 #[.pointer (some ⟨db, 0, none⟩), .int .i64 x] w (ReadR V x w) := by
  have hmk : ∀ W, (Instr.makeSlice 23 (.int .i64 512) (.int .i64 512)).run Tryd.prog W = .ok (.slice (some ⟨W.heap.size, 0, none⟩) 512 512) (W.alloc (.cells zc512.toArray 5)) := fun W => make_bytes 512 (by omega) W
  have e7 := h.cells.2.2.2.1
  rw [hdn] at e7
  have e0 := h.cell0
  have hI : I64 x := i64_of (by omega) (by have := h.ok; omega)
  obtain ⟨⟨S, rfl, ha, hok, hf⟩, hl⟩ := h
  have hdbl := cell_lt hdb
  have hbl := cell_lt e0
  have e2 := ha.cell.2.2.1
  have d0 : (w.alloc (.cells zc512.toArray 5)).cell? ⟨db, 0, none⟩ = some (.pointer (some ⟨bb, 0, none⟩)) := (World.cell?_alloc_lt w _ ⟨db, 0, none⟩ hdbl).trans hdb
  have d2 : (w.alloc (.cells zc512.toArray 5)).cell? ⟨bb, 2, none⟩ = some (.map (some S.nb)) := (World.cell?_alloc_lt w _ ⟨bb, 2, none⟩ hbl).trans e2
  have hlk := (ha.nm.alloc (.cells zc512.toArray 5)).look Tryd.underlying88 (z := .slice none 0 0) (by kernel_rfl) hI
  have hal : Below w.heap.size w (w.alloc (.cells zc512.toArray 5)) := (Below.refl _ _).alloc (Nat.le_refl _) _
  have hnew : Blk (w.alloc (.cells zc512.toArray 5)) w.heap.size 5 zc512 := Blk.new _ _ _
  have k1 : decide (x < 0) = false := by simp; omega
  have k2 : decide (S.view.n ≤ x) = false := by simp; omega
  rcases hx : S.nw x with _ | q
  · have hs : (secF S.nw x).getD (.slice none 0 0) = .slice none 0 0 := by unfold secF; rw [hx]; rfl
    rw [hs] at hlk
    have hcp : (Builtin.copy_ #[23, 23] 3 #[.slice (some ⟨w.heap.size, 0, none⟩) 512 512, .slice none 0 0]).run Tryd.prog (w.alloc (.cells zc512.toArray 5)) = .ok (.int .i64 0) (w.alloc (.cells zc512.toArray 5)) := run_copy_none _ 23 23 3 5 _ _ _ _ _ _ Tryd.underlying23 (by kernel_rfl) rfl
    have hv : S.view.now x = z512 := by show secL (S.nw x) = _; rw [hx]; rfl
    have HP : Hid (ReadR S.view x w (.returned (.tuple #[.slice (some ⟨w.heap.size, 0, none⟩) 512 512, .nilIface])) (w.alloc (.cells zc512.toArray 5))) := ⟨w.heap.size, rfl, Nat.le_refl _, by rw [hv, z512_cells]; exact hnew, hal⟩
    clear ha hok hf hl hal hnew hv hx hs
    go_enter Tryd.func69, Tryd.ntmps69
    go_wp2_with fail
    go_ret2
    exact HP.out
  · obtain ⟨qg, qc, ql⟩ := q
    have hs : (secF S.nw x).getD (.slice none 0 0) = .slice (some ⟨qg, 0, none⟩) 512 qc := by unfold secF; rw [hx]; rfl
    rw [hs] at hlk
    have hsec := (ha.nat x _ hx).keep (Below.heap_alloc w (.cells zc512.toArray 5) qg (ha.nat x _ hx).lt)
    have hql : ql.length = 512 := hsec.1
    have hcr := run_copy_row (P := Tryd.prog) (w.alloc (.cells zc512.toArray 5)) 23 23 3 5 w.heap.size 0 512 512 ⟨qg, 0, none⟩ 512 qc zc512.toArray 5 (ql.map cu8) Tryd.underlying23 (by kernel_rfl) hnew (by rw [List.length_map, hql]; rfl) hsec.src (by simp [zc512, hql]) (by simp [cu8, Value.oneCell'])
    obtain ⟨w1, hw1⟩ : ∃ w1, w1 = (w.alloc (.cells zc512.toArray 5)).setRow w.heap.size (zc512.toArray.toList.take 0 ++ (ql.map cu8) ++ zc512.toArray.toList.drop (0 + (ql.map cu8).length)).toArray := ⟨_, rfl⟩
    rw [← hw1, show goInt ((ql.map cu8).length : Int) = .int .i64 512 by rw [List.length_map, hql]; rfl] at hcr
    have hcells : zc512.toArray.toList.take 0 ++ (ql.map cu8) ++ zc512.toArray.toList.drop (0 + (ql.map cu8).length) = ql.map cu8 := by
      rw [List.drop_eq_nil_of_le (by simp [zc512, hql])]
      simp
    have hv : S.view.now x = ql := by show secL (S.nw x) = _; rw [hx]; rfl
    have HP : Hid (ReadR S.view x w (.returned (.tuple #[.slice (some ⟨w.heap.size, 0, none⟩) 512 512, .nilIface])) w1) := by
      refine Lib.hid ⟨w.heap.size, rfl, Nat.le_refl _, ?_, ?_⟩
      · rw [hv, hw1, hcells]
        have := setRow_heap (w.alloc (.cells zc512.toArray 5)) w.heap.size zc512.toArray (ql.map cu8).toArray 5 (0, 0) hnew
        exact this
      · rw [hw1]
        exact ⟨rfl, rfl, rfl, by simp [World.setRow], fun b hb => (setRow_other _ w.heap.size b _ (by omega)).trans (hal.block b hb)⟩
    clear ha hok hf hl hal hnew hv hx hs hw1 hcells hsec
    go_enter Tryd.func69, Tryd.ntmps69
    go_wp2_with fail
    go_ret2
    exact HP.out
end Go.Proofs.YteediemhcocgdaaDoor
