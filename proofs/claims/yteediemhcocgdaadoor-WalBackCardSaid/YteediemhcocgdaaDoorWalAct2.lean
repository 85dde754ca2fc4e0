/-
  wal's Log: act; Count, Room, Dead, Sectors.
-/
import Derived.Test.YteediemhcocgdaaDoorWalAct
import Derived.Deep.QuietTactic
import Derived.BigQuiet
namespace Go.Proofs.YteediemhcocgdaaDoor
open Go.RowKit
open WalP (Stamp secs)

/-- The log with its mark. -/
def LV.die (L : LV) (r : Bool) : LV := { L with dead := L.dead || r }
/-- What act leaves. -/
def LActR (K : Nat → Prop) (bb lb : Nat) (L : LV) (r : Bool × DV) (w : World) (e : Ending) (w' : World) : Prop :=
  e = .returned (errV r.1) ∧ Dk K w' bb r.2 ∧ Blk w' lb 105 (L.die r.1).cells ∧ Turn (fun b => ¬ K b ∨ b = lb) w w'

set_option maxHeartbeats 1000000 in
set_option maxRecDepth 100000 in
theorem lact_v {K : Nat → Prop} {w : World} {bb : Nat} (L : LV) (lb : Nat) (r : Bool × DV) (c0 c1 c2 c3 : Value) (hlb : Blk w lb 105 L.cells) (klb : K lb)
    (hdo : Calls Tryd.prog 65 #[c0, c1, c2, c3] w (ActR K bb r w)) :
    Calls Tryd.prog 64 #[.pointer (some ⟨lb, 0, none⟩), .func (.func 65) #[] #[c0, c1, c2, c3]] w (LActR K bb lb L r w) := by
  have HL := Lib.hid hlb
  have HD := Lib.hid hdo
  clear hlb hdo
  go_enter Tryd.func64, Tryd.ntmps64
  go_wp2_with fail
  refine HD.out.mono ?_
  rintro e w1 ⟨rfl, hd1, hk1⟩
  have HL1 := Lib.hid (hk1.blk HL.out klb)
  have HX1 := Lib.hid hd1
  have HK1 := Lib.hid hk1
  clear hd1 hk1
  rcases hr : r.1 with _ | _
  · have hv : errV false = .nilIface := rfl
    rw [hv]
    go_wp2_with fail
    refine (is_nil w1).mono ?_
    rintro e w2 ⟨rfl, rfl⟩
    go_wp2_with fail
    go_ret
    refine ⟨by rw [hr]; rfl, HX1.out, ?_, Turn.mono HK1.out fun b hb => .inl hb⟩
    rw [hr]
    have : L.die false = L := by unfold LV.die; simp
    rw [this]
    exact HL1.out
  · have hv : errV true = .iface 24 (.int .i64 5) := rfl
    rw [hv]
    go_wp2_with fail
    refine (is_down w1).mono ?_
    rintro e w2 ⟨rfl, rfl⟩
    have c6 : w1.cell? ⟨lb, 6, none⟩ = some (.bool L.dead) := HL1.out.cell 6
    have f6 := HL1.out.frozen 6
    go_wp2_with fail
    go_ret
    refine ⟨by rw [hr]; rfl, HX1.out.turnK (turn_at w1 lb 6 (.bool true)) (fun b hb => .inl (hb ▸ klb)), ?_, ?_⟩
    · rw [hr]
      have := HL1.out.set_ 6 (.bool true)
      have e2 : (L.die true).cells = L.cells.set 6 (.bool true) := by unfold LV.die LV.cells; simp
      rw [e2]
      exact this
    · exact (Turn.mono HK1.out fun b hb => Or.inl hb).trans (turn_at w1 lb 6 (.bool true)) fun b hb => .inl (.inr hb)

set_option maxRecDepth 100000 in
theorem sectors_any_ (n : Nat) (w : World) (hn : n ≤ 140737488355328) : Calls Tryd.prog 40 #[.int .i64 (n : Int)] w fun e w' => e = .returned (.int .i64 (secs n : Nat)) ∧ w = w' := by
  by_cases hb : 262144 < n
  · have hs : secs n = 0 := by unfold secs; rw [if_pos hb]
    rw [hs]
    go_enter Tryd.func40, Tryd.ntmps40
    go_wp2_with fail
    go_ret
    exact ⟨rfl, rfl⟩
  · have hs : secs n = max 1 ((n + 491) / 492) := by unfold secs; rw [if_neg hb]
    rw [hs]
    go_enter Tryd.func40, Tryd.ntmps40
    go_wp2_with fail
    all_goals go_ret
    all_goals exact ⟨ret_int (by omega), rfl⟩
theorem count_any (L : LV) (lb : Nat) (w : World) (h : Blk w lb 105 L.cells) : Calls Tryd.prog 42 #[.pointer (some ⟨lb, 0, none⟩)] w fun e w' => e = .returned (.int .i64 L.cnt) ∧ w = w' := by
  have c4 : w.cell? ⟨lb, 4, none⟩ = some (.int .i64 L.cnt) := h.cell 4
  clear h
  go_enter Tryd.func42, Tryd.ntmps42
  go_wp2_with fail
  go_ret
  exact ⟨rfl, rfl⟩
theorem dead_any (L : LV) (lb : Nat) (w : World) (h : Blk w lb 105 L.cells) : Calls Tryd.prog 43 #[.pointer (some ⟨lb, 0, none⟩)] w fun e w' => e = .returned (.bool L.dead) ∧ w = w' := by
  have c6 : w.cell? ⟨lb, 6, none⟩ = some (.bool L.dead) := h.cell 6
  clear h
  go_enter Tryd.func43, Tryd.ntmps43
  go_wp2_with fail
  go_ret
  exact ⟨rfl, rfl⟩
theorem room_any (L : LV) (lb : Nat) (w : World) (h : Blk w lb 105 L.cells) (h1 : L.many ≤ 1099511627776) (h2 : L.used ≤ 1099511627776) : Calls Tryd.prog 39 #[.pointer (some ⟨lb, 0, none⟩)] w fun e w' => e = .returned (.int .i64 ((L.many : Int) - L.used)) ∧ ∃ n, w' = w.drewN n := by
  have c2 : w.cell? ⟨lb, 2, none⟩ = some (.int .i64 L.many) := h.cell 2
  have c5 : w.cell? ⟨lb, 5, none⟩ = some (.int .i64 L.used) := h.cell 5
  have s1 : IntKind.i64.wrap ((L.many : Int) - L.used) = (L.many : Int) - L.used := IntWalk.i64_in _ (by omega)
  clear h
  go_enter Tryd.func39, Tryd.ntmps39
  go_wp2_with fail
  go_quiet (fail)
  go_wp2_with fail
  go_ret
  exact ⟨rfl, _, rfl⟩
end Go.Proofs.YteediemhcocgdaaDoor
