import Derived.Test.YteediemhcocgdaaDoorWalBytes
import Derived.Test.YteediemhcocgdaaDoorDiskRead
import Derived.Test.YteediemhcocgdaaDoorErrIs
import Derived.Deep.RegionHeld3
import Derived.Deep.QuietTactic
import Derived.BigQuiet
/-
  wal's Log: one sector written.
-/
namespace Go.Proofs.YteediemhcocgdaaDoor
open Go.RowKit
open WalP (Stamp)

/-- A log's state. -/
structure LV where
  db : Nat
  frm : Nat
  many : Nat
  ep : Nat
  cnt : Nat
  used : Nat
  dead : Bool
def LV.cells (L : LV) : List Value := [.pointer (some ⟨L.db, 0, none⟩), .int .i64 L.frm, .int .i64 L.many, .int .i64 L.ep, .int .i64 L.cnt, .int .i64 L.used, .bool L.dead]
def stCells (s : Stamp) : List Value := [.int .i64 s.e, .int .i64 s.r, .int .i64 s.p, .int .i64 s.ps, .int .i64 s.l]

theorem Nib.kept {K : Nat → Prop} {w w' : World} (h : Nib w) (hk : Kept K w w') (h0 : K 0) (hl : 0 < w.heap.size) : Nib w' := fun i hi => (World.cell?_of_block (hk.block 0 hl fun hn => hn h0)).trans (h i hi)

set_option maxHeartbeats 2000000 in
set_option maxRecDepth 100000 in
theorem append1_v {K : Nat → Prop} {w : World} {bb : Nat} {V : DV} (h : Dk K w bb V) (L : LV) (s : Stamp) (lb lbx ix sx px i B : Nat) (A : Option Addr) (c : Nat) (part : List UInt8)
    (hlb : Blk w lb 105 L.cells) (hlbx : w.cell? ⟨lbx, 0, none⟩ = some (.pointer (some ⟨lb, 0, none⟩))) (hix : w.cell? ⟨ix, 0, none⟩ = some (.int .i64 i)) (hsx : Blk w sx 111 (stCells s)) (hpx : w.cell? ⟨px, 0, none⟩ = some (.slice A part.length c)) (hdb : w.cell? ⟨L.db, 0, none⟩ = some (.pointer (some ⟨bb, 0, none⟩)))
    (hs : s.ok) (hb : Byt w B A part) (hB : B ≤ w.heap.size) (hp : part.length ≤ 492) (hn : Nib w) (h0 : 0 < w.heap.size)
    (hx : ((L.frm + L.used + i : Nat) : Int) < V.n) (hdn : V.down = false) (hl : V.wait.length ≤ 1000000000) (hL : L.frm ≤ 1099511627776 ∧ L.used ≤ 1099511627776 ∧ i ≤ 1099511627776)
    (klb : K lb) (klbx : K lbx) (kix : K ix) (ksx : K sx) (kpx : K px) (kdb : K L.db) :
    Calls Tryd.prog 65 #[.pointer (some ⟨lbx, 0, none⟩), .pointer (some ⟨ix, 0, none⟩), .pointer (some ⟨sx, 0, none⟩), .pointer (some ⟨px, 0, none⟩)] w (ActR K bb (V.act fun V' => V'.put (L.frm + L.used + i : Nat) (s.bytes part)) w) := by
  have e0 : w.cell? ⟨lb, 0, none⟩ = some (.pointer (some ⟨L.db, 0, none⟩)) := hlb.cell 0
  have e1 : w.cell? ⟨lb, 1, none⟩ = some (.int .i64 L.frm) := hlb.cell 1
  have e5 : w.cell? ⟨lb, 5, none⟩ = some (.int .i64 L.used) := hlb.cell 5
  have s0 : w.cell? ⟨sx, 0, none⟩ = some (.int .i64 s.e) := hsx.cell 0
  have s1 : w.cell? ⟨sx, 1, none⟩ = some (.int .i64 s.r) := hsx.cell 1
  have s2 : w.cell? ⟨sx, 2, none⟩ = some (.int .i64 s.p) := hsx.cell 2
  have s3 : w.cell? ⟨sx, 3, none⟩ = some (.int .i64 s.ps) := hsx.cell 3
  have s4 : w.cell? ⟨sx, 4, none⟩ = some (.int .i64 s.l) := hsx.cell 4
  obtain ⟨l1, l2, l3⟩ := hL
  have w1f : IntKind.i64.wrap ((L.frm : Int) + L.used) = (L.frm : Int) + L.used := IntWalk.i64_in _ (by omega)
  have w2f : IntKind.i64.wrap ((L.frm : Int) + L.used + i) = (L.frm : Int) + L.used + i := IntWalk.i64_in _ (by omega)
  have wcast : (L.frm : Int) + L.used + i = ((L.frm + L.used + i : Nat) : Int) := by omega
  have WC := Lib.hid wcast
  have HX := Lib.hid h
  have HB := Lib.hid hb
  have HN := Lib.hid hn
  have HS := Lib.hid hs
  have HDB := Lib.hid hdb
  have HKL : Hid (∀ b, K b → b < w.heap.size) := Lib.hid h.lt
  have hcell : Hid (∀ (w2 : World) (a : Addr) (v : Value), Kept K w w2 → K a.block → w.cell? a = some v → w2.cell? a = some v) := fun w2 a v hk hK hc => (World.cell?_of_block (hk.block a.block (cell_lt hc) fun hn => hn hK)).trans hc
  clear h hb hn hs hdb hlb hsx wcast
  go_enter Tryd.func65, Tryd.ntmps65
  go_wp2_with fail
  go_region_held3 (fun W => W.cell? ⟨lbx, 0, none⟩ = some (.pointer (some ⟨lb, 0, none⟩)) ∧ W.cell? ⟨lb, 0, none⟩ = some (.pointer (some ⟨L.db, 0, none⟩)) ∧ W.cell? ⟨lb, 1, none⟩ = some (.int .i64 L.frm) ∧ W.cell? ⟨lb, 5, none⟩ = some (.int .i64 L.used) ∧ W.cell? ⟨ix, 0, none⟩ = some (.int .i64 i) ∧
      W.cell? ⟨sx, 0, none⟩ = some (.int .i64 s.e) ∧ W.cell? ⟨sx, 1, none⟩ = some (.int .i64 s.r) ∧ W.cell? ⟨sx, 2, none⟩ = some (.int .i64 s.p) ∧ W.cell? ⟨sx, 3, none⟩ = some (.int .i64 s.ps) ∧ W.cell? ⟨sx, 4, none⟩ = some (.int .i64 s.l) ∧ W.cell? ⟨px, 0, none⟩ = some (.slice A part.length c))
    (first | exact ⟨hlbx, e0, e1, e5, hix, s0, s1, s2, s3, s4, hpx⟩ | exact ⟨hcell.out _ _ _ HK2.out klbx hlbx, hcell.out _ _ _ HK2.out klb e0, hcell.out _ _ _ HK2.out klb e1, hcell.out _ _ _ HK2.out klb e5, hcell.out _ _ _ HK2.out kix hix, hcell.out _ _ _ HK2.out ksx s0, hcell.out _ _ _ HK2.out ksx s1, hcell.out _ _ _ HK2.out ksx s2, hcell.out _ _ _ HK2.out ksx s3, hcell.out _ _ _ HK2.out ksx s4, hcell.out _ _ _ HK2.out kpx hpx⟩ | exact ⟨hcell.out _ _ _ HK1.out klbx hlbx, hcell.out _ _ _ HK1.out klb e0, hcell.out _ _ _ HK1.out klb e1, hcell.out _ _ _ HK1.out klb e5, hcell.out _ _ _ HK1.out kix hix, hcell.out _ _ _ HK1.out ksx s0, hcell.out _ _ _ HK1.out ksx s1, hcell.out _ _ _ HK1.out ksx s2, hcell.out _ _ _ HK1.out ksx s3, hcell.out _ _ _ HK1.out ksx s4, hcell.out _ _ _ HK1.out kpx hpx⟩)
    (first
      | (go_at_call 67; refine (bytes_any s B A c part w.drew HS.out HB.out hB HN.out h0 hp).mono ?_; rintro e w1 ⟨A1, c1, rfl, hfr, hb1⟩; have HK1 : Hid (Kept K w w1) := Lib.hid ⟨hb1.os, hb1.tape, hb1.output, hb1.size, fun b hb _ => hb1.block b hb⟩; have HX1 : Hid (Dk K w1 bb V) := Lib.hid (HX.out.keep ⟨hb1.os, hb1.tape, hb1.output, hb1.size, hb1.block⟩); have HF := Lib.hid hfr.byt; clear hfr hb1)
      | (go_at_call 66; rw [WC.out]; refine (dwrite_v HX1.out ((L.frm + L.used + i : Nat) : Int) L.db w1.heap.size A1 c1 (s.bytes part) HF.out (Nat.le_refl _) (WalP.bytes_length s part hp) (by omega) hx hdn hl (hcell.out _ _ _ HK1.out kdb HDB.out) kdb).mono ?_; rintro e w2 ⟨rfl, hd2, hk2⟩; have HK2 : Hid (Kept K w w2) := Lib.hid (HK1.out.trans hk2); have HX2 := Lib.hid hd2; clear hd2 hk2))
  all_goals
    go_wp2_with fail
    go_ret
    exact ⟨rfl, HX2.out, HK2.out⟩
end Go.Proofs.YteediemhcocgdaaDoor

/-
  wal's Log: act; Count, Room, Dead, Sectors.
-/
namespace Go.Proofs.YteediemhcocgdaaDoor
open Go.RowKit
open WalP (Stamp secs)

/-- The log with its mark. -/
def LV.die (L : LV) (r : Bool) : LV := { L with dead := L.dead || r }
/-- What act leaves. -/
def LActR (K : Nat → Prop) (bb lb : Nat) (L : LV) (r : Bool × DV) (w : World) (e : Ending) (w' : World) : Prop :=
  e = .returned (errV r.1) ∧ Dk K w' bb r.2 ∧ Blk w' lb 105 (L.die r.1).cells ∧ Turn (fun b => ¬ K b ∨ b = lb) w w'

set_option maxHeartbeats 1000000 in
set_option maxRecDepth 100000 in
theorem lact_v {K : Nat → Prop} {w : World} {bb : Nat} (L : LV) (lb : Nat) (r : Bool × DV) (c0 c1 c2 c3 : Value) (hlb : Blk w lb 105 L.cells) (klb : K lb)
    (hdo : Calls Tryd.prog 65 #[c0, c1, c2, c3] w (ActR K bb r w)) :
    Calls Tryd.prog 64 #[.pointer (some ⟨lb, 0, none⟩), .func (.func 65) #[] #[c0, c1, c2, c3]] w (LActR K bb lb L r w) := by
  have HL := Lib.hid hlb
  have HD := Lib.hid hdo
  clear hlb hdo
  go_enter Tryd.func64, Tryd.ntmps64
  go_wp2_with fail
  refine HD.out.mono ?_
  rintro e w1 ⟨rfl, hd1, hk1⟩
  have HL1 := Lib.hid (hk1.blk HL.out klb)
  have HX1 := Lib.hid hd1
  have HK1 := Lib.hid hk1
  clear hd1 hk1
  rcases hr : r.1 with _ | _
  · have hv : errV false = .nilIface := rfl
    rw [hv]
    go_wp2_with fail
    refine (is_nil w1).mono ?_
    rintro e w2 ⟨rfl, rfl⟩
    go_wp2_with fail
    go_ret
    refine ⟨by rw [hr]; rfl, HX1.out, ?_, Turn.mono HK1.out fun b hb => .inl hb⟩
    rw [hr]
    have : L.die false = L := by unfold LV.die; simp
    rw [this]
    exact HL1.out
  · have hv : errV true = .iface 24 (.int .i64 5) := rfl
    rw [hv]
    go_wp2_with fail
    refine (is_down w1).mono ?_
    rintro e w2 ⟨rfl, rfl⟩
    have c6 : w1.cell? ⟨lb, 6, none⟩ = some (.bool L.dead) := HL1.out.cell 6
    have f6 := HL1.out.frozen 6
    go_wp2_with fail
    go_ret
    refine ⟨by rw [hr]; rfl, HX1.out.turnK (turn_at w1 lb 6 (.bool true)) (fun b hb => .inl (hb ▸ klb)), ?_, ?_⟩
    · rw [hr]
      have := HL1.out.set_ 6 (.bool true)
      have e2 : (L.die true).cells = L.cells.set 6 (.bool true) := by unfold LV.die LV.cells; simp
      rw [e2]
      exact this
    · exact (Turn.mono HK1.out fun b hb => Or.inl hb).trans (turn_at w1 lb 6 (.bool true)) fun b hb => .inl (.inr hb)

set_option maxRecDepth 100000 in
theorem sectors_any_ (n : Nat) (w : World) (hn : n ≤ 140737488355328) : Calls Tryd.prog 40 #[.int .i64 (n : Int)] w fun e w' => e = .returned (.int .i64 (secs n : Nat)) ∧ w = w' := by
  by_cases hb : 262144 < n
  · have hs : secs n = 0 := by unfold secs; rw [if_pos hb]
    rw [hs]
    go_enter Tryd.func40, Tryd.ntmps40
    go_wp2_with fail
    go_ret
    exact ⟨rfl, rfl⟩
  · have hs : secs n = max 1 ((n + 491) / 492) := by unfold secs; rw [if_neg hb]
    rw [hs]
    go_enter Tryd.func40, Tryd.ntmps40
    go_wp2_with fail
    all_goals go_ret
    all_goals exact ⟨ret_int (by omega), rfl⟩
theorem count_any (L : LV) (lb : Nat) (w : World) (h : Blk w lb 105 L.cells) : Calls Tryd.prog 42 #[.pointer (some ⟨lb, 0, none⟩)] w fun e w' => e = .returned (.int .i64 L.cnt) ∧ w = w' := by
  have c4 : w.cell? ⟨lb, 4, none⟩ = some (.int .i64 L.cnt) := h.cell 4
  clear h
  go_enter Tryd.func42, Tryd.ntmps42
  go_wp2_with fail
  go_ret
  exact ⟨rfl, rfl⟩
theorem dead_any (L : LV) (lb : Nat) (w : World) (h : Blk w lb 105 L.cells) : Calls Tryd.prog 43 #[.pointer (some ⟨lb, 0, none⟩)] w fun e w' => e = .returned (.bool L.dead) ∧ w = w' := by
  have c6 : w.cell? ⟨lb, 6, none⟩ = some (.bool L.dead) := h.cell 6
  clear h
  go_enter Tryd.func43, Tryd.ntmps43
  go_wp2_with fail
  go_ret
  exact ⟨rfl, rfl⟩
theorem room_any (L : LV) (lb : Nat) (w : World) (h : Blk w lb 105 L.cells) (h1 : L.many ≤ 1099511627776) (h2 : L.used ≤ 1099511627776) : Calls Tryd.prog 39 #[.pointer (some ⟨lb, 0, none⟩)] w fun e w' => e = .returned (.int .i64 ((L.many : Int) - L.used)) ∧ ∃ n, w' = w.drewN n := by
  have c2 : w.cell? ⟨lb, 2, none⟩ = some (.int .i64 L.many) := h.cell 2
  have c5 : w.cell? ⟨lb, 5, none⟩ = some (.int .i64 L.used) := h.cell 5
  have s1 : IntKind.i64.wrap ((L.many : Int) - L.used) = (L.many : Int) - L.used := IntWalk.i64_in _ (by omega)
  clear h
  go_enter Tryd.func39, Tryd.ntmps39
  go_wp2_with fail
  go_quiet (fail)
  go_wp2_with fail
  go_ret
  exact ⟨rfl, _, rfl⟩
end Go.Proofs.YteediemhcocgdaaDoor
