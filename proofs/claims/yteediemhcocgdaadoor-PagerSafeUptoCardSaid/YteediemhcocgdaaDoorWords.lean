/-
  Words on memory that the walks of this seat use: bytes in a slice.
-/
import Derived.WalkKit
import Derived.WalkSmall
import Derived.Lib.Hide
import Derived.Deep.OwnRows
import Derived.Laws.OwnMore
import Derived.Laws.MakeOwn
import Derived.Laws.BytesArg
import Derived.Maps.AppendAt
import Derived.Lib.AppendZeros
import Derived.Lib.AppendZerosOnto
import Derived.Test.YteediemhcocgdaaDoorProg
namespace Go.Proofs.YteediemhcocgdaaDoor
open Go.RowKit

theorem ret_int {k : IntKind} {a b : Int} (h : a = b) : Ending.returned (.int k a) = .returned (.int k b) := by rw [h]
theorem ret_bool {a b : Bool} (h : a = b) : Ending.returned (.bool a) = .returned (.bool b) := by rw [h]
/-- A byte as a cell's value. -/
def cu8 (c : UInt8) : Value := .int .u8 (c.toNat : Int)
theorem cu8_eq (c : UInt8) : cu8 c = .int .u8 (c.toNat : Int) := rfl

/-- The slice at A holds the bytes l, in a block below B. -/
def Byt (w : World) (B : Nat) (A : Option Addr) (l : List UInt8) : Prop :=
  0 < l.length → ∃ b off, A = some ⟨b, off, none⟩ ∧ b < B ∧ ∀ i, i < l.length → w.cell? ⟨b, off + i, none⟩ = some (.int .u8 ((l.getD i 0).toNat : Int))

theorem Byt.nil (w : World) (B : Nat) (A : Option Addr) : Byt w B A [] := fun h => absurd h (by simp)
theorem Byt.keep {w w' : World} {B : Nat} {A : Option Addr} {l : List UInt8} (h : Byt w B A l) (hk : ∀ k, k < B → w'.heap[k]? = w.heap[k]?) : Byt w' B A l := fun hl => by
  obtain ⟨b, off, hA, hb, hc⟩ := h hl
  exact ⟨b, off, hA, hb, fun i hi => (World.cell?_of_block (w := w) (hk b hb)).trans (hc i hi)⟩
theorem Byt.below {w w' : World} {B : Nat} {A : Option Addr} {l : List UInt8} (h : Byt w B A l) (hb : Below B w w') : Byt w' B A l := h.keep hb.block
theorem Byt.more {w : World} {B B' : Nat} {A : Option Addr} {l : List UInt8} (h : Byt w B A l) (hB : B ≤ B') : Byt w B' A l := fun hl => by
  obtain ⟨b, off, hA, hb, hc⟩ := h hl
  exact ⟨b, off, hA, by omega, hc⟩

/-! ### A block that is known whole -/
def Blk (w : World) (g : Nat) (t : TypeId) (cs : List Value) : Prop := w.heap[g]? = some (.cells cs.toArray t (0, 0))
section
variable {w w' : World} {g : Nat} {t : TypeId} {cs : List Value}
theorem Blk.lt (h : Blk w g t cs) : g < w.heap.size := by
  rcases Nat.lt_or_ge g w.heap.size with hlt | hge
  · exact hlt
  · unfold Blk at h; rw [Array.getElem?_eq_none hge] at h; cases h
theorem Blk.cell (h : Blk w g t cs) (i : Nat) : w.cell? ⟨g, i, none⟩ = cs[i]? := by
  rw [cell_of_row w g i cs.toArray t (0, 0) h]; simp
theorem Blk.frozen (h : Blk w g t cs) (i : Nat) : w.frozen? ⟨g, i, none⟩ = false := by
  unfold Blk at h
  simp [World.frozen?, h]
theorem Blk.new (w : World) (t : TypeId) (cs : List Value) : Blk (w.alloc (.cells cs.toArray t)) w.heap.size t cs := heap_alloc_new w _
theorem Blk.drew (h : Blk w g t cs) : Blk w.drew g t cs := h
theorem Blk.alloc (h : Blk w g t cs) (o : Obj) : Blk (w.alloc o) g t cs := (Below.heap_alloc w o g h.lt).trans h
theorem Blk.set_ (h : Blk w g t cs) (i : Nat) (u : Value) : Blk (w.setCell ⟨g, i, none⟩ u) g t (cs.set i u) := by
  unfold Blk at h ⊢
  simp [World.setCell, Array.getElem?_modify, h]
theorem Blk.far (h : Blk w g t cs) {p : Addr} (hp : g ≠ p.block) (u : Value) : Blk (w.setCell p u) g t cs := (Below.heap_setCell w p u g hp).trans h
theorem Blk.below {B : Nat} (h : Blk w g t cs) (hb : Below B w w') (hg : g < B) : Blk w' g t cs := (hb.block g hg).trans h
theorem Blk.grown {row : Option Nat} (h : Blk w g t cs) (hb : w.grownBy w' row) (hg : some g ≠ row) : Blk w' g t cs := (hb.block g h.lt hg).trans h
end

/-! ### Bytes in a slice of the call's own -/
/-- The slice at A holds the bytes l in a block of its own from base on (or is nil). -/
def Own (w : World) (base : Nat) (A : Option Addr) (c : Nat) (l : List UInt8) : Prop := w.ownsRow base 5 1 (.slice A l.length c) l.length (l.map cu8)
theorem Own.none_ (w : World) (base : Nat) : Own w base none 0 [] := World.ownsRow_nil w base _ _
theorem Own.of_blk {w : World} {base g : Nat} {l : List UInt8} (h : Blk w g 5 (l.map cu8)) (hb : base ≤ g) (hl : l.length ≤ maxLen) : Own w base (some ⟨g, 0, none⟩) l.length l :=
  ⟨by simp, .inr ⟨g, l.length, (l.map cu8).toArray, rfl, hb, h, Nat.le_refl _, hl, by simp, by rw [List.take_of_length_le (by simp)]⟩⟩
theorem Own.byt {w : World} {base c : Nat} {A : Option Addr} {l : List UInt8} (h : Own w base A c l) : Byt w w.heap.size A l := fun hl => by
  obtain ⟨_, ⟨hv, h0⟩ | ⟨g, cap, cur, hv, hg, hh, r⟩⟩ := h
  · omega
  · injection hv with hA _ hc
    subst hA hc
    have hlt : g < w.heap.size := by
      rcases Nat.lt_or_ge g w.heap.size with hlt | hge
      · exact hlt
      · rw [Array.getElem?_eq_none hge] at hh; cases hh
    refine ⟨g, 0, rfl, hlt, fun i hi => ?_⟩
    rw [cell_of_row w g (0 + i) cur _ (0, 0) hh]
    have h3 := r.2.2.2
    rw [Nat.mul_one] at h3
    have h4 : (cur.toList.take l.length)[i]? = (l.map cu8)[i]? := by rw [h3]
    rw [List.getElem?_take_of_lt hi, List.getElem?_map, List.getElem?_eq_getElem hi] at h4
    rw [Nat.zero_add, ← Array.getElem?_toList, h4]
    simp [cu8, List.getD, hi]
theorem Own.kept {w w' : World} {base c : Nat} {A : Option Addr} {l : List UInt8} (h : Own w base A c l) (hb : Below w.heap.size w w') : Own w' base A c l :=
  World.ownsRow.kept h (row := none) ⟨hb.os, hb.tape, hb.output, hb.size, fun k hk _ => hb.block k hk⟩ (by cases hA : (Value.slice A l.length c).ownBlock with | none => exact .inl rfl | some x => exact .inr (by simp))
theorem Own.more {w : World} {base base' c : Nat} {A : Option Addr} {l : List UInt8} (h : Own w base A c l) (hb : base' ≤ base) : Own w base' A c l := by
  refine ⟨h.1, h.2.imp id ?_⟩
  rintro ⟨g, cap, cur, hv, hg, r⟩
  exact ⟨g, cap, cur, hv, by omega, r⟩

theorem u8_info : (Tryd.prog.info? 5).map (fun i => (i.zero, i.size, i.bytes)) = some (some (.int .u8 0), 1, 1) := by kernel_rfl
theorem make_bytes (n : Nat) (hn : n ≤ 281474976710656) (w : World) :
    (Instr.makeSlice 23 (.int .i64 (n : Int)) (.int .i64 (n : Int))).run Tryd.prog w = .ok (.slice (some ⟨w.heap.size, 0, none⟩) n n) (w.alloc (.cells (List.replicate n (.int .u8 0)).toArray 5)) := by
  rw [run_make_row' (P := Tryd.prog) 23 5 (.int .u8 0) 1 Tryd.underlying23 u8_info rfl .i64 .i64 n (by omega) (by omega) w]
  congr 3
  apply Array.ext'
  simp [toList_madeCells_one]


theorem make_bytes_cap (n : Nat) (hn : n ≤ 140737488355328) (w : World) :
    (Instr.makeSlice 23 (.int .i64 0) (.int .i64 (n : Int))).run Tryd.prog w = .ok (.slice (some ⟨w.heap.size, 0, none⟩) 0 n) (w.alloc (.cells (madeCells #[.int .u8 0] n) 5)) := by
  obtain ⟨i0, hi, hz0, hz1, hz2⟩ := info_parts u8_info
  have h := run_make (P := Tryd.prog) w 23 5 i0 (.int .u8 0) Tryd.underlying23 hi hz0 .i64 .i64 0 (n : Int) (by omega) (by omega) (by rw [hz2]; omega) (by omega)
  simpa [hz1, Value.cells] using h
theorem own_made (w : World) (n base : Nat) (hb : base ≤ w.heap.size) (hn : n ≤ 140737488355328) : Own (w.alloc (.cells (madeCells #[.int .u8 0] n) 5)) base (some ⟨w.heap.size, 0, none⟩) n [] :=
  World.ownsRow_made (size := 1) w _ n hb (by unfold maxLen; omega) (by simp [size_madeCells])
/-- The block that a slice's address names. -/
def blkOf : Option Addr → Option Nat
  | some a => some a.block
  | none => none
theorem ownBlock_slice (A : Option Addr) (n c : Nat) : (Value.slice A n c).ownBlock = blkOf A := by cases A <;> rfl

theorem Own.len_le {w : World} {base c : Nat} {A : Option Addr} {l : List UInt8} (h : Own w base A c l) : l.length ≤ c ∧ c ≤ 9223372036854775807 := by
  obtain ⟨_, ⟨hv, h0⟩ | ⟨g, cap, cur, hv, hg, hh, h1, h2, _⟩⟩ := h
  · injection hv with _ _ hc
    omega
  · injection hv with _ _ hc
    unfold maxLen at h2
    omega
theorem Own.blk_le {w : World} {base c : Nat} {A : Option Addr} {l : List UInt8} (h : Own w base A c l) : ∀ k, blkOf A = some k → base ≤ k ∧ k < w.heap.size := fun k hk =>
  World.ownsRow.lt h k (by rw [ownBlock_slice]; exact hk)
theorem Own.grown_below {w w0 w1 : World} {base c : Nat} {A : Option Addr} {l : List UInt8} (h : Own w base A c l) (hb : Below base w0 w) (hg : w.grownBy w1 (blkOf A)) (hB : base ≤ w.heap.size) : Below base w0 w1 :=
  hb.grown hg hB fun k hk => (h.blk_le k hk).1
set_option maxRecDepth 100000 in
/-- append(x, y...) of bytes, x of the call's own, y nil, empty or not. -/
theorem run_append_bytes (w : World) (ty : TypeId) (base : Nat) (A : Option Addr) (c : Nat) (l : List UInt8) (hown : Own w base A c l) (B : Nat) (A2 : Option Addr) (c2 : Nat) (m : List UInt8)
    (hr : Byt w B A2 m) (hb : l.length + m.length ≤ 140737488355328) (hbase : base ≤ w.heap.size) :
    ∃ A' c' w', (Builtin.append_ #[23, 23] ty #[.slice A l.length c, .slice A2 m.length c2]).run Tryd.prog w = .ok (.slice A' (l ++ m).length c') w' ∧ Own w' base A' c' (l ++ m) ∧
      w.grownBy w' (blkOf A) ∧ (blkOf A' = blkOf A ∨ blkOf A' = some w.heap.size) := by
  obtain ⟨i0, hi, hz0, hz1, hz2⟩ := info_parts u8_info
  rcases A2 with _ | ad
  · have hm : m = [] := by
      rcases m with _ | ⟨x, m⟩
      · rfl
      · obtain ⟨b, off, h, _⟩ := hr (by simp)
        cases h
    subst hm
    refine ⟨A, c, w, ?_, by simpa using hown, World.grownBy.refl w _, .inl rfl⟩
    rcases hown.2 with ⟨hv, h0⟩ | ⟨g, cap, cur, hv, _, _, hnc, _⟩
    · injection hv with hA _ hc
      subst hA hc
      have hl0 : l = [] := List.eq_nil_of_length_eq_zero h0
      subst hl0
      simp [Builtin.append_, run_underlying Tryd.underlying23, sizeOf, typeInfo, hi, Builtin.lenOf, Builtin.firstCells]
    · injection hv with hA _ hc
      subst hA hc
      simp [Builtin.append_, run_underlying Tryd.underlying23, sizeOf, typeInfo, hi, Builtin.lenOf, Builtin.firstCells, hnc, storeCells]
  · have hcells : ∀ j u, (m.map cu8)[j]? = some u → w.cell? (ad.add j) = some u := by
      intro j u hu
      rw [List.getElem?_map] at hu
      obtain ⟨x, hx, rfl⟩ := Option.map_eq_some_iff.1 hu
      have hj : j < m.length := (List.getElem?_eq_some_iff.1 hx).1
      obtain ⟨b, off, h, _, hc⟩ := hr (by omega)
      injection h with h
      subst h
      have := hc j hj
      rw [List.getD_eq_getElem?_getD, hx] at this
      rw [show ((⟨b, off, none⟩ : Addr).add j) = ⟨b, off + j, none⟩ by unfold Addr.add; split <;> simp_all]
      exact this
    obtain ⟨v', w', hrun, h2, h3, _, h5⟩ := run_append_own_at (P := Tryd.prog) w base 23 ty 5 i0 (.int .u8 0) 1 1 Tryd.underlying23 hi hz0 hz1 hz2 rfl (by decide) _ _ _ hown ad m.length c2 (m.map cu8)
      (by simp) hcells (by simp [cu8, Value.oneCell']) (by unfold maxLen; omega) (by omega) hbase
    have hform : ∃ A' c', v' = .slice A' (l ++ m).length c' := by
      rcases h2.2 with ⟨rfl, h0⟩ | ⟨g, cap, cur, rfl, _⟩
      · exact ⟨none, 0, by rw [List.length_append, h0]⟩
      · exact ⟨_, cap, by rw [List.length_append]⟩
    obtain ⟨A', c', rfl⟩ := hform
    refine ⟨A', c', w', hrun, ?_, by rw [ownBlock_slice] at h3; exact h3, by rw [ownBlock_slice, ownBlock_slice] at h5; exact h5⟩
    unfold Own
    rw [List.map_append]
    rw [List.length_append] at h2 ⊢
    exact h2

/-- .. as a law at the operation. -/
theorem wp_append_bytes {w : World} {ops : Array Oper} {rest : List Oper} {o : Oper} {a : Act} {Q : Exit → Act → World → Prop} (hgd : o.guard = none) (s x : Operand)
    (ho : o.op = .call { callee := .builtin .append, args := #[s, x], argTypes := #[23, 23] }) (base : Nat) (A : Option Addr) (c : Nat) (l : List UInt8) (B : Nat) (A2 : Option Addr) (c2 : Nat) (m : List UInt8)
    (hs : a.eval s = .slice A l.length c) (hx : a.eval x = .slice A2 m.length c2) (hown : Own w base A c l) (hr : Byt w B A2 m) (hb : l.length + m.length ≤ 140737488355328) (hbase : base ≤ w.heap.size)
    (h : ∀ A' c' w', Own w' base A' c' (l ++ m) → w.grownBy w' (blkOf A) → (blkOf A' = blkOf A ∨ blkOf A' = some w.heap.size) → wpList Tryd.prog ops Q rest (a.put o.dst (.slice A' (l ++ m).length c')) w') :
    wpList Tryd.prog ops Q (o :: rest) a w := by
  obtain ⟨A', c', w', hrun, h1, h2, h3⟩ := run_append_bytes w o.type base A c l hown B A2 c2 m hr hb hbase
  exact Lib.wpList_append_run w hgd s x _ _ ho _ _ hs hx _ w' hrun (h A' c' w' h1 h2 h3)

/-- .. in a region that draws its order. -/
theorem step_append_bytes {w : World} {ops : Array Oper} {o : Oper} {a : Act} {K : Act → World → Prop} {Q : Exit → Act → World → Prop} {E : Prop} (hgd : o.guard = none) (s x : Operand)
    (ho : o.op = .call { callee := .builtin .append, args := #[s, x], argTypes := #[23, 23] }) (base : Nat) (A : Option Addr) (c : Nat) (l : List UInt8) (B : Nat) (A2 : Option Addr) (c2 : Nat) (m : List UInt8)
    (hs : a.eval s = .slice A l.length c) (hx : a.eval x = .slice A2 m.length c2) (hown : Own w base A c l) (hr : Byt w B A2 m) (hb : l.length + m.length ≤ 140737488355328) (hbase : base ≤ w.heap.size)
    (h : ∀ A' c' w', Own w' base A' c' (l ++ m) → w.grownBy w' (blkOf A) → (blkOf A' = blkOf A ∨ blkOf A' = some w.heap.size) → K (a.put o.dst (.slice A' (l ++ m).length c')) w') :
    if Region.wanted o (yielded ops a.tmps) = true then Oper.wp Tryd.prog o a w K Q else E := by
  obtain ⟨A', c', w', hrun, h1, h2, h3⟩ := run_append_bytes w o.type base A c l hown B A2 c2 m hr hb hbase
  have hw : Region.wanted o (yielded ops a.tmps) = true := by simp [Region.wanted, hgd]
  rw [if_pos hw]
  exact Lib.wp_append_run w s x _ _ ho _ _ hs hx _ w' hrun (h A' c' w' h1 h2 h3)

/-- The slice at A reads as l, in a block from base on that is known whole (what stands behind is not told). -/
def Fresh (w : World) (base : Nat) (A : Option Addr) (l : List UInt8) : Prop :=
  0 < l.length → ∃ g cs, A = some ⟨g, 0, none⟩ ∧ base ≤ g ∧ Blk w g 5 cs ∧ cs.take l.length = l.map cu8
theorem Own.fresh {w : World} {base c : Nat} {A : Option Addr} {l : List UInt8} (h : Own w base A c l) : Fresh w base A l := fun hl => by
  obtain ⟨_, ⟨hv, h0⟩ | ⟨g, cap, cur, hv, hg, hh, r⟩⟩ := h
  · omega
  · injection hv with hA _ hc
    subst hA hc
    refine ⟨g, cur.toList, rfl, hg, by simpa [Blk] using hh, ?_⟩
    have h3 := r.2.2.2
    rw [Nat.mul_one] at h3
    exact h3
theorem Fresh.byt {w : World} {base : Nat} {A : Option Addr} {l : List UInt8} (h : Fresh w base A l) : Byt w w.heap.size A l := fun hl => by
  obtain ⟨g, cs, rfl, _, hb, ht⟩ := h hl
  refine ⟨g, 0, rfl, hb.lt, fun i hi => ?_⟩
  rw [hb.cell, Nat.zero_add]
  have h4 : (cs.take l.length)[i]? = (l.map cu8)[i]? := by rw [ht]
  rw [List.getElem?_take_of_lt hi, List.getElem?_map, List.getElem?_eq_getElem hi] at h4
  rw [h4]
  simp [cu8, List.getD, hi]
theorem Fresh.kept {w w' : World} {base : Nat} {A : Option Addr} {l : List UInt8} (h : Fresh w base A l) (hb : Below w.heap.size w w') : Fresh w' base A l := fun hl => by
  obtain ⟨g, cs, hA, hg, hbk, ht⟩ := h hl
  exact ⟨g, cs, hA, hg, hbk.below hb hbk.lt, ht⟩
theorem Fresh.more {w : World} {base base' : Nat} {A : Option Addr} {l : List UInt8} (h : Fresh w base A l) (hb : base' ≤ base) : Fresh w base' A l := fun hl => by
  obtain ⟨g, cs, hA, hg, hbk, ht⟩ := h hl
  exact ⟨g, cs, hA, by omega, hbk, ht⟩

/-- 'string(b)'. -/
theorem Byt.str {w : World} {B : Nat} {A : Option Addr} {l : List UInt8} (h : Byt w B A l) (c : Nat) : (convert 23 9 (.slice A l.length c)).run Tryd.prog w = .ok (.string ⟨l.toArray⟩) w := by
  rcases l with _ | ⟨x, l⟩
  · rw [List.length_nil, run_convert_bytes_string w 23 9 5 A 0 c Tryd.underlying23 Tryd.underlying5 Tryd.underlying9]
    cases A <;> simp [Conv.bytesToString, loadCells]
    all_goals rfl
  · obtain ⟨b, off, rfl, _, hc⟩ := h (by simp)
    have hs : strOfNums ((x :: l).map fun c => (c.toNat : Int)) = ⟨(x :: l).toArray⟩ := by
      unfold strOfNums
      congr 2
      rw [List.map_map]
      simp [Function.comp_def]
    generalize x :: l = L at hc hs ⊢
    have hrun := run_convert_bytes_arg (P := Tryd.prog) w 23 5 Tryd.underlying23 Tryd.underlying5 b off L.length c (L.map fun c => (c.toNat : Int)) (by simp)
      (fun i hi => by rw [hc i hi]; simp [List.getD, List.getElem?_map, List.getElem?_eq_getElem hi]) 9 Tryd.underlying9
    rw [hs] at hrun
    exact hrun

end Go.Proofs.YteediemhcocgdaaDoor
