/-
  blotterlaw09.Owned answers true of rows of bytes that lie each in a block of its own.
-/
import Derived.Test.YteediemhcocgdaaDoorRefSeal
import Derived.ArgAppend
import Derived.Laws.Append
namespace Go.Proofs.YteediemhcocgdaaDoor
open Go.RowKit

/-- A slice of n bytes, of capacity c, at the begin of a block that is known whole; or nil. -/
def RowV (w : World) (A : Option Addr) (c n : Nat) : Prop :=
  (A = none ∧ c = 0 ∧ n = 0) ∨ ∃ g cs, A = some ⟨g, 0, none⟩ ∧ Blk w g 5 cs ∧ n ≤ c ∧ c ≤ cs.length ∧ c ≤ 9223372036854775807

theorem grownBy_setCells (b : Nat) : ∀ (vs : List Value) (o : Nat) (w : World), w.grownBy (w.setCells b o vs) (some b)
  | [], _, w => World.grownBy.refl w _
  | v :: r, o, w => by
    refine World.grownBy.trans (b := w.setCell ⟨b, o, none⟩ v) ⟨rfl, rfl, rfl, by simp [World.setCell], fun k _ hk => Below.heap_setCell _ _ _ _ (fun h => hk (by rw [h]))⟩ (grownBy_setCells b r (o + 1) _)

set_option maxRecDepth 100000 in
theorem run_append_row (w : World) (ty : TypeId) (A : Option Addr) (c n : Nat) (hr : RowV w A c n) (hone : ∀ g cs, A = some ⟨g, 0, none⟩ → Blk w g 5 cs → ∀ u ∈ cs.take n, u.oneCell' = true) (B : Nat) (A2 : Option Addr) (c2 : Nat) (m : List UInt8)
    (hm : Byt w B A2 m) (h0 : 0 < m.length) (hb : n + m.length ≤ 140737488355328) :
    ∃ A' c' w', (Builtin.append_ #[23, 23] ty #[.slice A n c, .slice A2 m.length c2]).run Tryd.prog w = .ok (.slice A' (n + m.length) c') w' ∧ w.grownBy w' (blkOf A) := by
  obtain ⟨i0, hi, hz0, hz1, hz2⟩ := info_parts u8_info
  rcases hr with ⟨rfl, rfl, rfl⟩ | ⟨g, cs, rfl, hblk, hnc, hcl, hc63⟩
  · obtain ⟨A', c', w', h1, _, h3, _⟩ := run_append_bytes w ty w.heap.size none 0 [] (Own.none_ _ _) B A2 c2 m hm (by simpa using hb) (Nat.le_refl _)
    exact ⟨A', c', w', by simpa using h1, h3⟩
  · obtain ⟨b2, off2, rfl, _, hcell⟩ := hm h0
    have hnews : ∀ j u, (m.map cu8)[j]? = some u → w.cell? ((⟨b2, off2, none⟩ : Addr).add j) = some u := by
      intro j u hu
      rw [List.getElem?_map] at hu
      obtain ⟨x, hx, rfl⟩ := Option.map_eq_some_iff.1 hu
      have hj : j < m.length := (List.getElem?_eq_some_iff.1 hx).1
      have := hcell j hj
      rw [List.getD_eq_getElem?_getD, hx] at this
      rw [show ((⟨b2, off2, none⟩ : Addr).add j) = ⟨b2, off2 + j, none⟩ by unfold Addr.add; split <;> simp_all]
      exact this
    by_cases hroom : n + m.length ≤ c
    · have hrun := run_append_room_cells (P := Tryd.prog) w 23 ty 5 i0 Tryd.underlying23 hi g 0 n c ⟨b2, off2, none⟩ m.length c2 (m.map cu8) (by simp [hz1]) hnews (by simp [cu8, Value.oneCell']) hroom
        (by intro j hj; simp only [List.length_map] at hj; rw [hz1, hblk.cell, List.getElem?_eq_getElem (by omega)]; rfl) (by intro j hj; exact hblk.frozen _)
      exact ⟨_, _, _, hrun, grownBy_setCells _ _ _ _⟩
    · have hrun := run_append_grow (P := Tryd.prog) w 23 ty 5 i0 (.int .u8 0) Tryd.underlying23 hi hz0 ⟨g, 0, none⟩ n c (cs.take n) (by rw [List.length_take, hz1]; omega)
        (by
          intro j v hj
          have hjn : j < n := by
            have := (List.getElem?_eq_some_iff.1 hj).1
            rw [List.length_take] at this
            omega
          rw [show ((⟨g, 0, none⟩ : Addr).add j) = ⟨g, j, none⟩ by unfold Addr.add; split <;> simp_all, hblk.cell, ← hj, List.getElem?_take_of_lt hjn])
        ⟨b2, off2, none⟩ m.length c2 (m.map cu8) (by simp [hz1]) hnews (by omega) (by omega) (growslice_fits (by omega) (by rw [hz2]; omega))
      refine ⟨_, _, _, hrun, ?_⟩
      exact World.grownBy.trans (b := w.drew) ⟨rfl, rfl, rfl, Nat.le_refl _, fun _ _ _ => rfl⟩ (World.grownBy_alloc _ _ _)

theorem wp_append_row {w : World} {ops : Array Oper} {rest : List Oper} {o : Oper} {a : Act} {Q : Exit → Act → World → Prop} (hgd : o.guard = none) (s x : Operand)
    (ho : o.op = .call { callee := .builtin .append, args := #[s, x], argTypes := #[23, 23] }) (A : Option Addr) (c n : Nat) (B : Nat) (A2 : Option Addr) (c2 : Nat) (m : List UInt8)
    (hs : a.eval s = .slice A n c) (hx : a.eval x = .slice A2 m.length c2) (hr : RowV w A c n) (hone : ∀ g cs, A = some ⟨g, 0, none⟩ → Blk w g 5 cs → ∀ u ∈ cs.take n, u.oneCell' = true) (hm : Byt w B A2 m) (h0 : 0 < m.length) (hb : n + m.length ≤ 140737488355328)
    (h : ∀ A' c' w', w.grownBy w' (blkOf A) → wpList Tryd.prog ops Q rest (a.put o.dst (.slice A' (n + m.length) c')) w') :
    wpList Tryd.prog ops Q (o :: rest) a w := by
  obtain ⟨A', c', w', hrun, h2⟩ := run_append_row w o.type A c n hr hone B A2 c2 m hm h0 hb
  exact Lib.wpList_append_run w hgd s x _ _ ho _ _ hs hx _ w' hrun (h A' c' w' h2)

/-- A row of bytes: its address, its capacity, its bytes. -/
abbrev RowD := Option Addr × Nat × List UInt8
def rowVal (r : RowD) : Value := .slice r.1 r.2.2.length r.2.1
def rowStr (r : RowD) : Value := .string ⟨r.2.2.toArray⟩

/-- Rows that lie each in a block of its own, from base on. -/
structure RowsOK (w : World) (base : Nat) (rs : List RowD) : Prop where
  row : ∀ (i : Nat) (r : RowD), rs[i]? = some r → RowV w r.1 r.2.1 r.2.2.length ∧ Byt w w.heap.size r.1 r.2.2 ∧ (∀ b, blkOf r.1 = some b → base ≤ b) ∧ r.2.2.length ≤ 140737488355324
  apart : ∀ (i j : Nat) (r s : RowD), rs[i]? = some r → rs[j]? = some s → i ≠ j → ∀ b, blkOf r.1 = some b → blkOf s.1 ≠ some b

/-- Of the blocks that lay in w2 none has turned but those of the first i rows. -/
structure KeepRows (rs : List RowD) (i : Nat) (w2 wr : World) : Prop where
  size : w2.heap.size ≤ wr.heap.size
  block : ∀ b, b < w2.heap.size → (∀ (j : Nat) (r : RowD), j < i → rs[j]? = some r → blkOf r.1 ≠ some b) → wr.heap[b]? = w2.heap[b]?
theorem KeepRows.refl (rs : List RowD) (i : Nat) (w : World) : KeepRows rs i w w := ⟨Nat.le_refl _, fun _ _ _ => rfl⟩
theorem KeepRows.succ {rs : List RowD} {i : Nat} {w2 wr : World} (h : KeepRows rs i w2 wr) : KeepRows rs (i + 1) w2 wr :=
  ⟨h.size, fun b hb hn => h.block b hb fun j r hj hr => hn j r (by omega) hr⟩
theorem KeepRows.drewN {rs : List RowD} {i : Nat} {w2 wr : World} (h : KeepRows rs i w2 wr) (n : Nat) : KeepRows rs i w2 (wr.drewN n) := ⟨h.size, h.block⟩
theorem KeepRows.drew {rs : List RowD} {i : Nat} {w2 wr : World} (h : KeepRows rs i w2 wr) : KeepRows rs i w2 wr.drew := ⟨h.size, h.block⟩
theorem KeepRows.alloc {rs : List RowD} {i : Nat} {w2 wr : World} (h : KeepRows rs i w2 wr) (o : Obj) : KeepRows rs i w2 (wr.alloc o) :=
  ⟨Nat.le_trans h.size (by simp), fun b hb hn => (Below.heap_alloc wr o b (Nat.lt_of_lt_of_le hb h.size)).trans (h.block b hb hn)⟩
theorem KeepRows.grown {rs : List RowD} {i : Nat} {w2 wr w' : World} {r : RowD} (h : KeepRows rs (i + 1) w2 wr) (hr : rs[i]? = some r) (hg : wr.grownBy w' (blkOf r.1)) : KeepRows rs (i + 1) w2 w' :=
  ⟨Nat.le_trans h.size hg.size, fun b hb hn => (hg.block b (Nat.lt_of_lt_of_le hb h.size) (fun e => hn i r (by omega) hr e.symm)).trans (h.block b hb hn)⟩
theorem KeepRows.setCell {rs : List RowD} {i : Nat} {w2 wr : World} {r : RowD} (h : KeepRows rs (i + 1) w2 wr) (hr : rs[i]? = some r) {g o : Nat} (hg : r.1 = some ⟨g, 0, none⟩) (u : Value) : KeepRows rs (i + 1) w2 (wr.setCell ⟨g, o, none⟩ u) :=
  h.grown hr ⟨rfl, rfl, rfl, by simp [World.setCell], fun k _ hk => Below.heap_setCell _ _ _ _ (fun e => hk (by rw [hg]; simp [blkOf, e]))⟩
/-- A row as it is needed while it is written over. -/
def RowB (w : World) (r : RowD) : Prop := RowV w r.1 r.2.1 r.2.2.length ∧ ∀ g cs, r.1 = some ⟨g, 0, none⟩ → Blk w g 5 cs → AllBytes cs r.2.2.length

theorem RowV.blk_lt {w : World} {A : Option Addr} {c n b : Nat} (h : RowV w A c n) (hb : blkOf A = some b) : b < w.heap.size ∧ ∃ cs, A = some ⟨b, 0, none⟩ ∧ Blk w b 5 cs := by
  rcases h with ⟨rfl, _, _⟩ | ⟨g, cs, rfl, hblk, _⟩
  · cases hb
  · obtain rfl : g = b := Option.some.inj hb
    exact ⟨hblk.lt, cs, rfl, hblk⟩
theorem RowsOK.ne_table {w : World} {base T : Nat} {rs : List RowD} {cs : List Value} (h : RowsOK w base rs) (hT : Blk w T 23 cs) {j : Nat} {r : RowD} (hr : rs[j]? = some r) : blkOf r.1 ≠ some T := fun hb => by
  obtain ⟨_, ds, _, hblk⟩ := (h.row j r hr).1.blk_lt hb
  unfold Blk at hT hblk
  rw [hT] at hblk
  injection hblk with h1
  injection h1 with _ h2
  exact absurd h2 (by decide)
/-- A row that has not yet been written over. -/
theorem RowsOK.keep {w w2 wr : World} {base : Nat} {rs : List RowD} (h : RowsOK w base rs) (hb : Below w.heap.size w w2) {i k : Nat} (hk : KeepRows rs i w2 wr) {r : RowD} (hr : rs[k]? = some r) (hik : i ≤ k) :
    RowB wr r ∧ Byt wr w.heap.size r.1 r.2.2 := by
  obtain ⟨hv, hy, _, _⟩ := h.row k r hr
  have hsame : ∀ b, blkOf r.1 = some b → wr.heap[b]? = w.heap[b]? := fun b hbk => by
    have hlt := (hv.blk_lt hbk).1
    rw [hk.block b (Nat.lt_of_lt_of_le hlt hb.size) (fun j s hj hs hbs => h.apart j k s r hs hr (by omega) b hbs hbk), hb.block b hlt]
  have hby : Byt wr w.heap.size r.1 r.2.2 := fun hl => by
    obtain ⟨b, off, hA, hbl, hc⟩ := hy hl
    refine ⟨b, off, hA, hbl, fun i hi => ?_⟩
    rw [← hc i hi]
    exact World.cell?_of_block (w := w) (a := ⟨b, off + i, none⟩) (hsame b (by rw [hA]; rfl))
  refine ⟨⟨?_, fun g cs hg hblk j hj => ?_⟩, hby⟩
  · rcases hv with hn | ⟨g, cs, hg, hblk, hrest⟩
    · exact .inl hn
    · exact .inr ⟨g, cs, hg, (hsame g (by rw [hg]; rfl)).trans hblk, hrest⟩
  · obtain ⟨b, off, hA, _, hc⟩ := hby (by omega)
    rw [hg] at hA
    injection hA with hA
    injection hA with h1 h2
    subst h1 h2
    have := hc j hj
    rw [hblk.cell, Nat.zero_add] at this
    exact ⟨_, this⟩
theorem RowsOK.table {w w2 wr : World} {base T : Nat} {rs : List RowD} {cs : List Value} (h : RowsOK w base rs) (hT : Blk w T 23 cs) (hb : Below w.heap.size w w2) {i : Nat} (hk : KeepRows rs i w2 wr) : Blk wr T 23 cs := by
  have e : wr.heap[T]? = w2.heap[T]? := hk.block T (Nat.lt_of_lt_of_le hT.lt hb.size) (fun j r _ hr => h.ne_table hT hr)
  exact e.trans (hT.below hb hT.lt)
theorem RowB.setCell {w : World} {r : RowD} (h : RowB w r) {g : Nat} (hg : r.1 = some ⟨g, 0, none⟩) (o : Nat) (y : UInt8) : RowB (w.setCell ⟨g, o, none⟩ (cu8 y)) r := by
  rcases h.1 with ⟨hn, _⟩ | ⟨g', cs, hg', hblk, hnc, hcl, hc⟩
  · rw [hn] at hg; cases hg
  · obtain rfl : g' = g := by rw [hg'] at hg; injection hg with hg; injection hg
    have hset := hblk.set_ o (cu8 y)
    refine ⟨.inr ⟨g', cs.set o (cu8 y), hg', hset, hnc, by simpa using hcl, hc⟩, fun g2 cs2 h2 hb2 => ?_⟩
    obtain rfl : g' = g2 := by rw [hg'] at h2; injection h2 with h2; injection h2
    have he : cs2 = cs.set o (cu8 y) := by
      unfold Blk at hset hb2
      rw [hset] at hb2
      injection hb2 with h1
      injection h1 with h3
      simpa using congrArg Array.toList h3.symm
    rw [he]
    exact (h.2 g' cs hg' hblk).set_ o y
theorem RowB.alloc {w : World} {r : RowD} (h : RowB w r) (o : Obj) : RowB (w.alloc o) r := by
  rcases h.1 with hn | ⟨g, cs, hg, hblk, hrest⟩
  · exact ⟨.inl hn, fun g2 cs2 h2 => by rw [hn.1] at h2; cases h2⟩
  · refine ⟨.inr ⟨g, cs, hg, hblk.alloc o, hrest⟩, fun g2 cs2 h2 hb2 => h.2 g2 cs2 h2 ?_⟩
    obtain rfl : g = g2 := by rw [hg] at h2; injection h2 with h2; injection h2
    exact (Below.heap_alloc w o g hblk.lt).symm.trans hb2
theorem RowB.one {w : World} {r : RowD} (h : RowB w r) : ∀ g cs, r.1 = some ⟨g, 0, none⟩ → Blk w g 5 cs → ∀ u ∈ cs.take r.2.2.length, u.oneCell' = true := fun g cs hg hb u hu => by
  obtain ⟨j, hj, rfl⟩ := List.getElem_of_mem hu
  rw [List.length_take] at hj
  obtain ⟨b, hb2⟩ := h.2 g cs hg hb j (by omega)
  have e : (cs.take r.2.2.length)[j]'(by rw [List.length_take]; omega) = cu8 b := by
    rw [List.getElem_take]
    obtain ⟨h1, h2⟩ := List.getElem?_eq_some_iff.1 hb2
    exact h2
  rw [e]
  rfl

theorem str_info : (Tryd.prog.info? 9).map (fun i => (i.zero, i.size, i.bytes)) = some (some (.string ByteArray.empty), 1, 16) := by kernel_rfl

theorem byt_onetwo (w : World) : Byt (w.alloc (.cells #[Value.int .u8 1, .int .u8 2] 5)) (w.heap.size + 1) (some ⟨w.heap.size, 0, none⟩) [1, 2] := fun _ => by
  refine ⟨_, 0, rfl, by omega, fun i hi => ?_⟩
  rw [cell_of_row _ _ _ _ _ (0, 0) (heap_alloc_new w _)]
  match i, hi with
  | 0, _ => rfl
  | 1, _ => rfl

theorem own_form {w : World} {base : Nat} {e : TypeId} {size : Nat} {v : Value} {n : Nat} {xs : List Value} (h : w.ownsRow base e size v n xs) (hn : 0 < n) :
    ∃ g cap, v = .slice (some ⟨g, 0, none⟩) n cap ∧ base ≤ g := by
  rcases h.2 with ⟨_, h0⟩ | ⟨g, cap, cur, hv, hb, _⟩
  · omega
  · exact ⟨g, cap, hv, hb⟩
/-- What the rows were told to be, lies still. -/
theorem RowsOK.was {w w2 wr : World} {base i g n cap m : Nat} {rs : List RowD} {xs : List Value} (h : RowsOK w base rs) (hk : KeepRows rs i w2 wr)
    (ho : w2.ownsRow w.heap.size 9 1 (.slice (some ⟨g, 0, none⟩) n cap) n xs) : wr.cell? ⟨g, m, none⟩ = w2.cell? ⟨g, m, none⟩ := by
  have hg := ho.lt g rfl
  refine World.cell?_of_block (w := w2) (a := ⟨g, m, none⟩) (hk.block g hg.2 fun j r _ hr hbr => ?_)
  have := ((h.row j r hr).1.blk_lt hbr).1
  omega

set_option maxHeartbeats 2000000 in
set_option maxRecDepth 100000 in
theorem owned_any (base T c : Nat) (rs : List RowD) (w : World) (hT : Blk w T 23 (rs.map rowVal)) (hr : RowsOK w base rs) (hlen : rs.length ≤ 1000) (hbase : base ≤ w.heap.size) :
    Calls Tryd.prog 27 #[.slice (some ⟨T, 0, none⟩) rs.length c] w fun e w' => e = .returned (.bool true) ∧ Below base w w' := by
  obtain ⟨i0, hi, hz0, hz1, hz2⟩ := info_parts str_info
  have HT := Lib.hid hT
  have HR := Lib.hid hr
  clear hT hr
  go_enter Tryd.func27, Tryd.ntmps27
  go_wp2_with fail
  go_loopw [3, 4] (fun v i wr => ∃ (k : Nat), k ≤ rs.length ∧ i = .int .i64 k ∧ wr.ownsRow w.heap.size 9 1 v k ((rs.map rowStr).take k) ∧ Below w.heap.size w wr) (fun _ i _ => rs.length - (intOf i).toNat)
  case atStart => exact ⟨0, Nat.zero_le _, rfl, World.ownsRow_nil _ _ _ _, Below.refl _ _⟩
  case round =>
    obtain ⟨k, hk, rfl, hown, hbl⟩ := hrel
    by_cases hlt : k < rs.length
    · obtain ⟨r, hrk⟩ : ∃ r, rs[k]? = some r := ⟨_, List.getElem?_eq_getElem hlt⟩
      have hct : wr.cell? ⟨T, k, none⟩ = some (.slice r.1 r.2.2.length r.2.1) := by
        rw [(HT.out.below hbl HT.out.lt).cell, List.getElem?_map, hrk]; rfl
      have hst := ((HR.out.row k r hrk).2.1.below hbl).str r.2.1
      have hsn : (rs.map rowStr).take (k + 1) = (rs.map rowStr).take k ++ [.string ⟨r.2.2.toArray⟩] := by
        obtain ⟨_, rfl⟩ := List.getElem?_eq_some_iff.1 hrk
        rw [List.take_succ_eq_append_getElem (by simpa using hlt)]; simp [rowStr]
      have HSN := Lib.hid hsn
      have HBL := Lib.hid hbl
      have hsz : w.heap.size ≤ wr.heap.size := hbl.size
      clear hsn hbl hrk
      go_wp2_with (at_builtin; refine wpList_append_own _ rfl (.tmp 15) (.tmp 21) 76 rfl w.heap.size 9 i0 (.string ByteArray.empty) 1 16 Tryd.underlying76 hi hz0 hz1 hz2 rfl (by decide) _ _ _ rfl (hown.alloc _) ⟨wr.heap.size, 0, none⟩ 1 1 [.string ⟨r.2.2.toArray⟩] rfl rfl (cell_one_new _ _ _) (by simp [Value.oneCell']) (by unfold maxLen; omega) (by omega) (by simp; omega) ?_; intro v1 w1 hown1 hgr1 _; have HO1 := Lib.hid hown1; have HB1 : Hid (Below w.heap.size w w1) := (HBL.out.alloc hsz _).grown hgr1 (by simp; omega) (fun k hk => (hown.lt k hk).1); clear hown1 hgr1)
      exact ⟨⟨k + 1, by omega, by go_num, by rw [HSN.out]; exact HO1.out, HB1.out⟩, by simp [intOf]; omega⟩
    · obtain rfl : k = rs.length := by omega
      rw [show (rs.map rowStr).take rs.length = rs.map rowStr from List.take_of_length_le (by simp)] at hown
      have HOW := Lib.hid hown
      have HBW := Lib.hid hbl
      have h02 : w.heap.size ≤ wr.heap.size := hbl.size
      clear hown hbl hlt hk hi hz0 hz1 hz2
      obtain ⟨w2, rfl⟩ : ∃ w2 : World, w2 = wr := ⟨_, rfl⟩
      go_wp2_with fail
      go_loopw [5] (fun i wr => ∃ (k : Nat), k ≤ rs.length ∧ i = .int .i64 k ∧ KeepRows rs k w2 wr ∧ Below base w wr) (fun i _ => rs.length - (intOf i).toNat)
      case atStart => exact ⟨0, Nat.zero_le _, rfl, KeepRows.refl _ _ _, HBW.out.mono hbase⟩
      case round =>
        obtain ⟨i, hi, rfl, hkp, hbl⟩ := hrel
        by_cases hlt : i < rs.length
        · obtain ⟨r, hri⟩ : ∃ r, rs[i]? = some r := ⟨_, List.getElem?_eq_getElem hlt⟩
          have HRI := Lib.hid hri
          have HKP := Lib.hid hkp
          have HBL := Lib.hid hbl
          clear hkp hbl hri
          have hrw := HR.out.row i r HRI.out
          have hbr : RowB wr r := (HR.out.keep HBW.out HKP.out HRI.out (Nat.le_refl _)).1
          have hlr : r.2.2.length ≤ 140737488355324 := hrw.2.2.2
          have hbg : ∀ g, r.1 = some ⟨g, 0, none⟩ → base ≤ g := fun g hg => hrw.2.2.1 g (by rw [hg]; rfl)
          have HBG := Lib.hid hbg
          clear hbg
          have HBR := Lib.hid hbr
          clear hbr hrw
          have hct : wr.cell? ⟨T, i, none⟩ = some (.slice r.1 r.2.2.length r.2.1) := by
            rw [(HR.out.table HT.out HBW.out HKP.out).cell, List.getElem?_map, HRI.out]; rfl
          obtain ⟨wo, rfl⟩ : ∃ wo : World, wo = wr := ⟨_, rfl⟩
          go_wp2_with fail
          go_loopw [6] (fun k wr => ∃ (j : Nat), j ≤ r.2.2.length ∧ k = .int .i64 j ∧ KeepRows rs (i + 1) w2 wr ∧ RowB wr r ∧ Below base w wr) (fun k _ => r.2.2.length - (intOf k).toNat)
          case atStart => exact ⟨0, Nat.zero_le _, rfl, HKP.out.succ, HBR.out, HBL.out⟩
          case round =>
            obtain ⟨j, hj, rfl, hkp, hbr, hbl⟩ := hrel
            have hct : wr.cell? ⟨T, i, none⟩ = some (.slice r.1 r.2.2.length r.2.1) := by
              rw [(HR.out.table HT.out HBW.out hkp).cell, List.getElem?_map, HRI.out]; rfl
            by_cases hlj : j < r.2.2.length
            · rcases hbr.1 with ⟨_, _, h0⟩ | ⟨g, cs, hg, hblk, hnc, hcl, hc63⟩
              · omega
              · obtain ⟨x, hx⟩ := hbr.2 g cs hg hblk j hlj
                have hcx : wr.cell? ⟨g, j, none⟩ = some (.int .u8 (x.toNat : Int)) := by rw [hblk.cell, hx]; rfl
                have hf := hblk.frozen j
                have hn := u8_not x
                have HB := Lib.hid hblk
                have HKP2 := Lib.hid hkp
                have HBR2 := Lib.hid hbr
                have HL := Lib.hid hbl
                have HG := Lib.hid hg
                rw [hg] at hct
                clear hkp hbr hbl hx hblk hg
                generalize x ^^^ 255 = y at hn
                go_wp2_with fail
                go_region
                all_goals go_wp2_with fail
                exact ⟨⟨j + 1, by omega, by go_num, (HKP2.out.setCell HRI.out HG.out _).drew, HBR2.out.setCell HG.out j y, (HL.out.setCell (p := ⟨g, j, none⟩) (HBG.out g HG.out) _).drew⟩, by simp [intOf]; omega⟩
            · have HKP2 := Lib.hid hkp
              have HL := Lib.hid hbl
              have hb2 := hbr.alloc (.cells #[Value.int .u8 1, .int .u8 2] 5)
              have hrv := hb2.1
              have hone := hb2.one
              have hy2 := byt_onetwo wr
              have hkp2 : KeepRows rs (i + 1) w2 (wr.alloc (.cells #[Value.int .u8 1, .int .u8 2] 5)) := hkp.alloc _
              have hbl2 : Below base w (wr.alloc (.cells #[Value.int .u8 1, .int .u8 2] 5)) := hbl.alloc (Nat.le_trans hbase hbl.size) _
              have HKP3 := Lib.hid hkp2
              have HL3 := Lib.hid hbl2
              have HONE := Lib.hid hone
              clear hkp hbr hbl hkp2 hbl2 hb2 hone
              go_wp2_with (at_builtin; refine wp_append_row rfl (.tmp 55) (.tmp 56) rfl r.1 r.2.1 r.2.2.length (wr.heap.size + 1) (some ⟨wr.heap.size, 0, none⟩) 2 [1, 2] rfl rfl hrv HONE.out hy2 (by simp) (by simp; omega) ?_; intro A' c' w5 hg5; have HKP5 : Hid (KeepRows rs (i + 1) w2 w5) := HKP3.out.grown HRI.out hg5; have HL5 : Hid (Below base w w5) := HL3.out.grown hg5 (Nat.le_trans hbase HL3.out.size) (fun b hb => (HR.out.row i r HRI.out).2.2.1 b hb); clear hg5)
              obtain ⟨ga, ca, rfl, hga⟩ := own_form HOW.out (by omega)
              go_loopw [8] (fun k wr => ∃ (m : Nat), i + 1 ≤ m ∧ m ≤ rs.length ∧ k = .int .i64 m ∧ KeepRows rs (i + 1) w2 wr ∧ Below base w wr) (fun k _ => rs.length - (intOf k).toNat)
              case atStart => exact ⟨i + 1, Nat.le_refl _, by omega, by go_num, HKP5.out, HL5.out⟩
              case round =>
                obtain ⟨m, hm1, hm2, rfl, hkp, hbl⟩ := hrel
                by_cases hlm : m < rs.length
                · obtain ⟨s, hsm⟩ : ∃ s, rs[m]? = some s := ⟨_, List.getElem?_eq_getElem hlm⟩
                  have hct : wr.cell? ⟨T, m, none⟩ = some (.slice s.1 s.2.2.length s.2.1) := by
                    rw [(HR.out.table HT.out HBW.out hkp).cell, List.getElem?_map, hsm]; rfl
                  have hst := (HR.out.keep HBW.out hkp.drew hsm hm1).2.str s.2.1
                  have hcw : wr.cell? ⟨ga, m, none⟩ = some (.string ⟨s.2.2.toArray⟩) := by
                    rw [HR.out.was hkp HOW.out, HOW.out.cellAt m (by omega), List.getElem?_map, hsm]; rfl
                  have HKP6 := Lib.hid hkp
                  have HL6 := Lib.hid hbl
                  clear hkp hbl hsm
                  go_wp2_with fail
                  go_region
                  all_goals go_wp2_with fail
                  exact ⟨⟨m + 1, by omega, by omega, by go_num, HKP6.out.drew, HL6.out.drew⟩, by simp [intOf]; omega⟩
                · have HKP6 := Lib.hid hkp
                  have HL6 := Lib.hid hbl
                  clear hkp hbl
                  go_wp2_with fail
                  exact ⟨⟨i + 1, by omega, by go_num, HKP6.out, HL6.out⟩, by simp [intOf]; omega⟩
        · have HBL := Lib.hid hbl
          clear hkp hbl
          go_wp2_with fail
          go_ret
          exact ⟨rfl, HBL.out⟩
end Go.Proofs.YteediemhcocgdaaDoor
