/-
  Slices of rows of bytes that are only read; blotterlaw12's SameRows; a row of an argument laid behind others.
-/
import Derived.Test.YteediemhcocgdaaDoorWalSt
import Derived.Deep.QuietTactic
import Derived.BigQuiet
namespace Go.Proofs.YteediemhcocgdaaDoor
open Go.RowKit

/-- A slice of rows of bytes, read. -/
def RIn (w : World) (A : Option Addr) (ls : List (List UInt8)) : Prop :=
  0 < ls.length → ∃ g off, A = some ⟨g, off, none⟩ ∧ ∀ i, i < ls.length → ∃ Ai ci, w.cell? ⟨g, off + i, none⟩ = some (.slice Ai (ls.getD i []).length ci) ∧ (ls.getD i []).length ≤ ci ∧ ci ≤ 9223372036854775807 ∧ Byt w w.heap.size Ai (ls.getD i [])
theorem RIn.keep {w w' : World} {A : Option Addr} {ls : List (List UInt8)} (h : RIn w A ls) (hb : Below w.heap.size w w') : RIn w' A ls := fun hl => by
  obtain ⟨g, off, hA, hc⟩ := h hl
  refine ⟨g, off, hA, fun i hi => ?_⟩
  obtain ⟨Ai, ci, h1, h2, h3, h4⟩ := hc i hi
  exact ⟨Ai, ci, (World.cell?_of_block (hb.block g (cell_lt h1))).trans h1, h2, h3, (h4.below hb).more hb.size⟩
theorem RIn.less {w : World} {A : Option Addr} {ls : List (List UInt8)} (h : RIn w A ls) (n : Nat) : RIn w A (ls.take n) := fun hl => by
  rw [List.length_take] at hl
  obtain ⟨g, off, hA, hc⟩ := h (by omega)
  refine ⟨g, off, hA, fun i hi => ?_⟩
  rw [List.length_take] at hi
  have e : (ls.take n).getD i [] = ls.getD i [] := by
    rw [List.getD_eq_getElem?_getD, List.getD_eq_getElem?_getD, List.getElem?_take_of_lt (by omega)]
  rw [e]
  exact hc i (by omega)
theorem RowsAt.rin {W : World} {B Br : Nat} {A : Option Addr} {n c : Nat} {ls : List (List UInt8)} (h : RowsAt W B Br (.slice A n c) ls) : RIn W A ls := fun hl => by
  obtain ⟨rs, rfl, ⟨h2, (⟨hv, h0⟩ | ⟨g, cap, cur, hv, hg, hh, hc, hcM, hsz, htk⟩)⟩, h3, h4⟩ := h
  · rw [List.length_map] at hl; omega
  · injection hv with hA
    subst hA
    refine ⟨g, 0, rfl, fun i hi => ?_⟩
    rw [List.length_map] at hi
    have hmem : rs[i] ∈ rs := List.getElem_mem hi
    have hget : ((rs.map (·.2.2)).getD i []) = rs[i].2.2 := by rw [List.getD_eq_getElem?_getD, List.getElem?_map, List.getElem?_eq_getElem hi]; rfl
    have ho := (h3 _ hmem).1
    have hle := ho.len_le
    refine ⟨rs[i].1, rs[i].2.1, ?_, by rw [hget]; exact hle.1, hle.2, by rw [hget]; exact ho.byt⟩
    rw [Nat.zero_add, cell_of_row W g i cur _ (0, 0) hh, hget]
    rw [Nat.mul_one] at htk
    have h5 : (cur.toList.take rs.length)[i]? = (rs.map rv)[i]? := by rw [htk]
    rw [List.getElem?_take_of_lt hi, List.getElem?_map, List.getElem?_eq_getElem hi] at h5
    rw [← Array.getElem?_toList, h5]
    rfl

/-- An argument of rows of bytes. -/
def RArg (w : World) (B : Nat) (A : Option Addr) (ls : List (List UInt8)) : Prop :=
  0 < ls.length → ∃ g off, A = some ⟨g, off, none⟩ ∧ g < B ∧ ∀ i, i < ls.length → ∃ Ai ci, w.cell? ⟨g, off + i, none⟩ = some (.slice Ai (ls.getD i []).length ci) ∧ (ls.getD i []).length ≤ ci ∧ ci ≤ 9223372036854775807 ∧ (ls.getD i []).length ≤ 140737488351232 ∧ Byt w B Ai (ls.getD i [])
theorem RArg.below {w w' : World} {B : Nat} {A : Option Addr} {ls : List (List UInt8)} (h : RArg w B A ls) (hb : Below B w w') : RArg w' B A ls := fun hl => by
  obtain ⟨g, off, hA, hg, hc⟩ := h hl
  refine ⟨g, off, hA, hg, fun i hi => ?_⟩
  obtain ⟨Ai, ci, h1, h2, h3, h4, h5⟩ := hc i hi
  exact ⟨Ai, ci, (World.cell?_of_block (hb.block g hg)).trans h1, h2, h3, h4, h5.below hb⟩
theorem Byt.blk_lt {w : World} {B : Nat} {A : Option Addr} {l : List UInt8} (h : Byt w B A l) (hl : 0 < l.length) : ∀ x, blkOf A = some x → x < B := fun x hx => by
  obtain ⟨b, off, rfl, hb, _⟩ := h hl
  cases hx
  exact hb

/-! ### Rows laid behind others, whose bytes lie below -/
def PutAt (W : World) (B Bd : Nat) (v : Value) (ls : List (List UInt8)) : Prop :=
  ∃ rs : List RowB, rs.map (·.2.2) = ls ∧ W.ownsRow B 23 1 v rs.length (rs.map rv) ∧ ∀ r ∈ rs, r.2.2.length ≤ r.2.1 ∧ r.2.1 ≤ 9223372036854775807 ∧ Byt W Bd r.1 r.2.2
theorem PutAt.nil (W : World) (B Bd : Nat) : PutAt W B Bd (.slice none 0 0) [] := ⟨[], rfl, World.ownsRow_nil W B _ _, by simp⟩
theorem PutAt.len {W : World} {B Bd : Nat} {v : Value} {ls : List (List UInt8)} (h : PutAt W B Bd v ls) : ∃ A c, v = .slice A ls.length c ∧ ls.length ≤ c := by
  obtain ⟨rs, rfl, ⟨h2, (⟨hv, h0⟩ | ⟨g, cap, cur, hv, _, _, hc, _⟩)⟩, h3⟩ := h
  · refine ⟨none, 0, ?_, ?_⟩
    · rw [List.length_map, h0]; exact hv
    · rw [List.length_map]; omega
  · exact ⟨_, cap, by rw [List.length_map]; exact hv, by rw [List.length_map]; exact hc⟩
theorem PutAt.blk {W : World} {B Bd : Nat} {v : Value} {ls : List (List UInt8)} (h : PutAt W B Bd v ls) : ∀ g, v.ownBlock = some g → B ≤ g ∧ g < W.heap.size := fun g hg => by
  obtain ⟨rs, h1, h2, h3⟩ := h
  exact World.ownsRow.lt h2 g hg
theorem PutAt.rin {W : World} {B Bd : Nat} {A : Option Addr} {n c : Nat} {ls : List (List UInt8)} (h : PutAt W B Bd (.slice A n c) ls) (hB : Bd ≤ W.heap.size) : RIn W A ls := fun hl => by
  obtain ⟨rs, rfl, ⟨h2, (⟨hv, h0⟩ | ⟨g, cap, cur, hv, hg, hh, hc, hcM, hsz, htk⟩)⟩, h3⟩ := h
  · rw [List.length_map] at hl; omega
  · injection hv with hA
    subst hA
    refine ⟨g, 0, rfl, fun i hi => ?_⟩
    rw [List.length_map] at hi
    have hmem : rs[i] ∈ rs := List.getElem_mem hi
    have hget : ((rs.map (·.2.2)).getD i []) = rs[i].2.2 := by rw [List.getD_eq_getElem?_getD, List.getElem?_map, List.getElem?_eq_getElem hi]; rfl
    obtain ⟨g1, g2, g3⟩ := h3 _ hmem
    refine ⟨rs[i].1, rs[i].2.1, ?_, by rw [hget]; exact g1, g2, by rw [hget]; exact g3.more hB⟩
    rw [Nat.zero_add, cell_of_row W g i cur _ (0, 0) hh, hget]
    rw [Nat.mul_one] at htk
    have h5 : (cur.toList.take rs.length)[i]? = (rs.map rv)[i]? := by rw [htk]
    rw [List.getElem?_take_of_lt hi, List.getElem?_map, List.getElem?_eq_getElem hi] at h5
    rw [← Array.getElem?_toList, h5]
    rfl
/-- What lies below and the row's own block are as they were. -/
theorem PutAt.turn {W W' : World} {B Bd : Nat} {v : Value} {ls : List (List UInt8)} (h : PutAt W B Bd v ls) (hb : Below Bd W W') (hk : ∀ g, v.ownBlock = some g → W'.heap[g]? = W.heap[g]?) : PutAt W' B Bd v ls := by
  obtain ⟨rs, h1, h2, h3⟩ := h
  refine ⟨rs, h1, ?_, fun r hr => ?_⟩
  · refine ⟨h2.1, h2.2.imp id ?_⟩
    rintro ⟨g, cap, cur, hv, hg, hh, r⟩
    exact ⟨g, cap, cur, hv, hg, (hk g (by rw [hv]; rfl)).trans hh, r⟩
  · obtain ⟨a, b, c⟩ := h3 r hr
    exact ⟨a, b, c.below hb⟩
theorem PutAt.below {W W' : World} {B Bd : Nat} {v : Value} {ls : List (List UInt8)} (h : PutAt W B Bd v ls) (hb : Below W.heap.size W W') (hB : Bd ≤ W.heap.size) : PutAt W' B Bd v ls :=
  h.turn (hb.mono hB) fun g hg => hb.block g (h.blk g hg).2

/-- .. and one more: 'put = append(put, x)'. -/
theorem PutAt.push {D : World} {B Bd : Nat} {v : Value} {ls : List (List UInt8)} (h : PutAt D B Bd v ls) (hn : ls.length ≤ 1099511627776) (A : Option Addr) (c : Nat) (b : List UInt8) (hbc : b.length ≤ c) (hc : c ≤ 9223372036854775807) (hb : Byt D Bd A b) (hB : B ≤ D.heap.size) (hBd : Bd ≤ B) (ty : TypeId) :
    ∃ Ao co M,
      (Builtin.append_ #[36, 36] ty #[v, .slice (some ⟨D.heap.size, 0, none⟩) 1 1]).run Tryd.prog (D.alloc (.cells #[.slice A b.length c] 23)) = .ok (.slice Ao (ls.length + 1) co) M ∧
      (D.alloc (.cells #[.slice A b.length c] 23)).grownBy M v.ownBlock ∧ PutAt M B Bd (.slice Ao (ls.length + 1) co) (ls ++ [b]) ∧ ((Value.slice Ao (ls.length + 1) co).ownBlock = v.ownBlock ∨ (Value.slice Ao (ls.length + 1) co).ownBlock = some (D.heap.size + 1)) := by
  obtain ⟨i0, hi, hz0, hz1, hz2⟩ := info_parts bytes_info
  obtain ⟨D1, hD1⟩ : ∃ D1, D.alloc (.cells #[.slice A b.length c] 23) = D1 := ⟨_, rfl⟩
  have hb1 : Below D.heap.size D D1 := by rw [← hD1]; exact (Below.refl _ _).alloc (Nat.le_refl _) _
  have hs1 : D1.heap.size = D.heap.size + 1 := by rw [← hD1]; simp
  have hnew : Blk D1 D.heap.size 23 [.slice A b.length c] := by rw [← hD1]; exact Blk.new D 23 [.slice A b.length c]
  obtain ⟨rs, h1, h2, h3⟩ := h.below hb1 (by omega)
  have hlen : rs.length = ls.length := by rw [← h1]; simp
  obtain ⟨v', M, hr, ho, hg, hnil, hbl⟩ := run_append_own_at (P := Tryd.prog) (w := D1) B 36 ty 23 i0 (.slice none 0 0) 1 24 Tryd.underlying36 hi hz0 hz1 hz2 rfl (by omega) v rs.length (rs.map rv) h2 ⟨D.heap.size, 0, none⟩ 1 1 [.slice A b.length c] rfl
    (fun j u hj => by
      rcases j with _ | j
      · cases hj
        exact hnew.cell 0
      · cases hj) (by intro u hu; obtain rfl := List.mem_singleton.1 hu; rfl) (by unfold maxLen; omega) (by omega) (by omega)
  obtain ⟨Ao, co, rfl⟩ : ∃ Ao co, v' = .slice Ao (ls.length + 1) co := by
    obtain ⟨_, (⟨_, h0⟩ | ⟨g, cap, cur, hv, _⟩)⟩ := id ho
    · omega
    · exact ⟨_, cap, by rw [hv, hlen]⟩
  refine ⟨Ao, co, M, by rw [hD1]; exact hr, by rw [hD1]; exact hg, ⟨rs ++ [(A, c, b)], by simp [h1], ?_, fun r hr => ?_⟩, by rw [hs1] at hbl; exact hbl⟩
  · rw [List.map_append, List.length_append]
    exact ho
  · have hbB : Below Bd D1 M := ⟨hg.os, hg.tape, hg.output, hg.size, fun k hk => hg.block k (by omega) fun e => by
      have := (World.ownsRow.lt h2 k e.symm).1
      omega⟩
    rcases List.mem_append.1 hr with hr | hr
    · obtain ⟨a1, a2, a3⟩ := h3 r hr
      exact ⟨a1, a2, a3.below hbB⟩
    · obtain rfl := List.mem_singleton.1 hr
      exact ⟨hbc, hc, (hb.below (hb1.mono (by omega))).below hbB⟩

/-! ### SameRows -/

theorem rows_eq {a b : List (List UInt8)} (hl : a.length = b.length) (h : ∀ j, j < a.length → a.getD j [] = b.getD j []) : a = b := by
  refine List.ext_getElem hl fun i h1 h2 => ?_
  have := h i h1
  rw [List.getD_eq_getElem?_getD, List.getD_eq_getElem?_getD, List.getElem?_eq_getElem h1, List.getElem?_eq_getElem h2] at this
  exact this

set_option maxHeartbeats 2000000 in
set_option maxRecDepth 100000 in
theorem sameRows_any (w : World) (A1 A2 : Option Addr) (c1 c2 : Nat) (a b : List (List UInt8)) (h1 : RIn w A1 a) (h2 : RIn w A2 b) (l1 : a.length ≤ 140737488355328) (_l2 : b.length ≤ 140737488355328) (t : Bool) (ht : t = decide (a = b)) :
    Calls Tryd.prog 41 #[.slice A1 a.length c1, .slice A2 b.length c2] w fun e w' => e = .returned (.bool t) ∧ ∃ n, w' = w.drewN n := by
  have HA := Lib.hid h1
  have HB := Lib.hid h2
  have HT := Lib.hid ht
  clear h1 h2 ht
  by_cases hl : a.length = b.length
  · have hne : ((a.length : Int) != (b.length : Int)) = false := by simp [hl]
    have HL := Lib.hid hl
    clear hl
    go_enter Tryd.func41, Tryd.ntmps41
    go_wp2_with fail
    go_loopw [5] (fun s5 wr => ∃ (k n : Nat), k ≤ a.length ∧ s5 = .int .i64 k ∧ (∀ j, j < k → a.getD j [] = b.getD j []) ∧ wr = w.drewN n) (fun s5 _ => a.length - (intOf s5).toNat)
    case atStart => exact ⟨0, 0, Nat.zero_le _, rfl, fun j hj => by omega, rfl⟩
    case round =>
      obtain ⟨k, n, hk, rfl, hj, rfl⟩ := hrel
      have HJ := Lib.hid hj
      clear hj
      by_cases hlt : k < a.length
      · obtain ⟨g1, o1, rfl, hc1⟩ := (HA.out.keep (w' := w.drewN n) ⟨rfl, rfl, rfl, Nat.le_refl _, fun _ _ => rfl⟩) (by omega)
        obtain ⟨g2, o2, rfl, hc2⟩ := (HB.out.keep (w' := w.drewN n) ⟨rfl, rfl, rfl, Nat.le_refl _, fun _ _ => rfl⟩) (by have := HL.out; omega)
        obtain ⟨Aa, ca, ha1, ha2, ha3, ha4⟩ := hc1 k hlt
        obtain ⟨Ab, cb, hb1, hb2, hb3, hb4⟩ := hc2 k (by have := HL.out; omega)
        clear hc1 hc2
        have s1 : ∀ m, (convert 23 9 (.slice Aa (a.getD k []).length ca)).run Tryd.prog (w.drewN m) = .ok (.string ⟨(a.getD k []).toArray⟩) (w.drewN m) := fun m => (ha4.below (w' := w.drewN m) ⟨rfl, rfl, rfl, Nat.le_refl _, fun _ _ => rfl⟩).str ca
        have s2 : ∀ m, (convert 23 9 (.slice Ab (b.getD k []).length cb)).run Tryd.prog (w.drewN m) = .ok (.string ⟨(b.getD k []).toArray⟩) (w.drewN m) := fun m => (hb4.below (w' := w.drewN m) ⟨rfl, rfl, rfl, Nat.le_refl _, fun _ _ => rfl⟩).str cb
        have ha1' : w.cell? ⟨g1, o1 + k, none⟩ = some (.slice Aa (a.getD k []).length ca) := ha1
        have hb1' : w.cell? ⟨g2, o2 + k, none⟩ = some (.slice Ab (b.getD k []).length cb) := hb1
        have i1 : (0 : Int) ≤ (k : Int) := by omega
        have i2 : (k : Int) < (a.length : Int) := by omega
        have i3 : (k : Int) < (b.length : Int) := by have := HL.out; omega
        have hwk : IntKind.i64.wrap ((k : Int) + 1) = (k : Int) + 1 := IntWalk.i64_in _ (by omega)
        clear ha1 hb1 ha2 ha3 ha4 hb2 hb3 hb4
        by_cases hxy : a.getD k [] = b.getD k []
        · have HXY := Lib.hid hxy
          rw [← hxy] at s2 hb1'
          clear hxy
          generalize a.getD k [] = x at s1 s2 ha1' hb1'
          go_wp2_with fail
          go_quiet (fail)
          go_wp2_with fail
          refine ⟨⟨k + 1, n + nq, by omega, by go_num, fun j hj => ?_, rfl⟩, by simp [intOf]; omega⟩
          by_cases e : j = k
          · rw [e]; exact HXY.out
          · exact HJ.out j (by omega)
        · have HXY := Lib.hid hxy
          have hs : (a.getD k [] == b.getD k []) = false := beq_eq_false_iff_ne.2 hxy
          clear hxy
          generalize a.getD k [] = x at s1 ha1' hs
          generalize b.getD k [] = y at s2 hb1' hs
          go_wp2_with fail
          go_quiet (fail)
          go_wp2_with fail
          go_ret
          refine ⟨?_, n + nq, World.drewN_drewN _ _ _⟩
          rw [HT.out]
          refine ret_bool ?_
          symm
          rw [decide_eq_false_iff_not]
          exact fun e => HXY.out (by rw [e])
      · obtain rfl : k = a.length := by omega
        go_wp2_with fail
        go_ret
        refine ⟨?_, n, rfl⟩
        rw [HT.out, rows_eq HL.out HJ.out]
        refine ret_bool ?_
        simp
  · have hne : ((a.length : Int) != (b.length : Int)) = true := by simp; omega
    have HL := Lib.hid hl
    clear hl
    go_enter Tryd.func41, Tryd.ntmps41
    go_wp2_with fail
    go_ret
    refine ⟨?_, 0, rfl⟩
    rw [HT.out]
    refine ret_bool ?_
    symm
    rw [decide_eq_false_iff_not]
    exact fun e => HL.out (by rw [e])
end Go.Proofs.YteediemhcocgdaaDoor
