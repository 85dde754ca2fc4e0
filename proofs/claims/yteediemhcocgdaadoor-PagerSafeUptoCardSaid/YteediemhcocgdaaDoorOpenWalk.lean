/-
  sum.Open, as the walk has it.
-/
import Derived.Test.YteediemhcocgdaaDoorSealWalk
import Derived.BigQuiet
import Derived.Stop.BytesEq
import Derived.Deep.QuietTactic
import Derived.Deep.RegionHeld3
import Derived.Deep.RegionLaw
namespace Go.Proofs.YteediemhcocgdaaDoor
open Go.RowKit

set_option maxRecDepth 100000 in
theorem open_short (A : Option Addr) (c n : Nat) (w : World) (hn : n < 4) :
    Calls Tryd.prog 20 #[.slice A n c] w fun e w' => e = .returned (.tuple #[.slice none 0 0, .bool false]) ∧ Below w.heap.size w w' := by
  have hd : decide ((n : Int) - 4 < 0) = true := by simp; omega
  go_enter Tryd.func20, Tryd.ntmps20
  go_wp2_with fail
  go_quiet (fail)
  go_wp2_with fail
  go_ret2
  exact ⟨rfl, below_drewN (Below.refl _ _) _⟩

theorem run_arrayAt4 (W : World) (a : Option Addr) (c : Nat) : (Instr.arrayAt 39 (.slice a 4 c)).run Tryd.prog W = .ok (.pointer a) W := by
  simp [Instr.arrayAt, run_underlying Tryd.underlying39]
theorem run_size_u8 (W : World) : (sizeOf 5).run Tryd.prog W = .ok 1 W := by
  obtain ⟨i0, hi, hz0, hz1, hz2⟩ := info_parts u8_info
  simp [sizeOf, typeInfo, hi, hz1]
theorem run_eq4 (W : World) (s : Nat) (x0 x1 x2 x3 : UInt8) :
    (Op.equalIn 10000 39 (.agg (a4 s)) (.agg #[.int .u8 (x0.toNat : Int), .int .u8 (x1.toNat : Int), .int .u8 (x2.toNat : Int), .int .u8 (x3.toNat : Int)])).run Tryd.prog W = .ok (SumP.t4 s == [x0, x1, x2, x3]) W :=
  run_equalIn_bytes (P := Tryd.prog) W 9998 39 5 4 Tryd.underlying39 Tryd.underlying5 run_size_u8 (SumP.t4 s) [x0, x1, x2, x3] rfl rfl

set_option maxRecDepth 100000 in
theorem open_no (B : Nat) (b off c : Nat) (l : List UInt8) (x0 x1 x2 x3 : UInt8) (w : World) (hb : Byt w B (some ⟨b, off, none⟩) (l ++ [x0, x1, x2, x3])) (hB : B ≤ w.heap.size) (hc : l.length + 4 ≤ c) (hn : Nib w) (hl : l.length ≤ 140737488355328) (h0 : 0 < w.heap.size) (_hcc : c ≤ 9223372036854775807) (hq : (SumP.t4 (SumP.sum l) == [x0, x1, x2, x3]) = false) :
    Calls Tryd.prog 20 #[.slice (some ⟨b, off, none⟩) ((l.length + 4 : Nat)) c] w fun e w' => e = .returned (.tuple #[.slice none 0 0, .bool false]) ∧ Below w.heap.size w w' := by
  have hd : decide ((l.length : Int) < 0) = false := by simp
  obtain ⟨b', off', hA, hbB, hcell⟩ := hb (by simp)
  obtain ⟨rfl, rfl⟩ : b = b' ∧ off = off' := by injection hA with hA; injection hA with h1 h2; exact ⟨h1, h2⟩
  have hc0 : w.cell? ⟨b, off + l.length, none⟩ = some (.int .u8 (x0.toNat : Int)) := by rw [hcell l.length (by simp)]; simp [List.getD]
  have hc1 : w.cell? ⟨b, off + l.length + 1, none⟩ = some (.int .u8 (x1.toNat : Int)) := by rw [Nat.add_assoc, hcell (l.length + 1) (by simp)]; simp [List.getD]
  have hc2 : w.cell? ⟨b, off + l.length + 2, none⟩ = some (.int .u8 (x2.toNat : Int)) := by rw [Nat.add_assoc, hcell (l.length + 2) (by simp)]; simp [List.getD]
  have hc3 : w.cell? ⟨b, off + l.length + 3, none⟩ = some (.int .u8 (x3.toNat : Int)) := by rw [Nat.add_assoc, hcell (l.length + 3) (by simp)]; simp [List.getD]
  have hbl : Byt w B (some ⟨b, off, none⟩) l := fun _ => ⟨b, off, rfl, hbB, fun i hi => by rw [hcell i (by simp; omega)]; simp [List.getD, hi, List.getElem?_append_left hi]⟩
  have k1 : (0 : Int) ≤ (l.length : Int) := by omega
  have k2 : (l.length : Int) ≤ (c : Int) := by omega
  have k3 : (l.length : Int) + 4 ≤ (c : Int) := by omega
  have k4 : (l.length : Int) ≤ ((l.length + 4 : Nat) : Int) := by omega
  have k5 : (l.length : Int) ≤ (l.length : Int) + 4 := by omega
  have hbs : b < w.heap.size := Nat.lt_of_lt_of_le hbB hB
  have k6 : ¬ c = l.length := by omega
  have hat := run_arrayAt4
  have heq := fun W => run_eq4 W (SumP.sum l) x0 x1 x2 x3
  rw [hq] at heq
  have HQ := Lib.hid hq
  clear hq
  have HA := Lib.hid hA
  clear hcell hA
  go_enter Tryd.func20, Tryd.ntmps20
  go_wp2_with fail
  go_region_held3 (fun W => Below w.heap.size w W ∧ W.cell? ⟨b, off + l.length, none⟩ = some (.int .u8 (x0.toNat : Int)) ∧ W.cell? ⟨b, off + l.length + 1, none⟩ = some (.int .u8 (x1.toNat : Int)) ∧ W.cell? ⟨b, off + l.length + 2, none⟩ = some (.int .u8 (x2.toNat : Int)) ∧ W.cell? ⟨b, off + l.length + 3, none⟩ = some (.int .u8 (x3.toNat : Int)))
    (first | exact ⟨Below.refl _ _, hc0, hc1, hc2, hc3⟩ | exact ⟨below_drewN (Below.refl _ _) _, hc0, hc1, hc2, hc3⟩ | exact ⟨hbx, hx0, hx1, hx2, hx3⟩ | go_keep)
    (first | (go_at_call 54; refine (tail_any B (some ⟨b, off, none⟩) c l w.drew hbl hB hn (by omega) h0).mono ?_; rintro e w' ⟨rfl, hbt⟩; have hbx : Below w.heap.size w w' := ⟨hbt.os, hbt.tape, hbt.output, hbt.size, hbt.block⟩; have hx0 := (hbx.cell (p := ⟨b, off + l.length, none⟩) hbs).trans hc0; have hx1 := (hbx.cell (p := ⟨b, off + l.length + 1, none⟩) hbs).trans hc1; have hx2 := (hbx.cell (p := ⟨b, off + l.length + 2, none⟩) hbs).trans hc2; have hx3 := (hbx.cell (p := ⟨b, off + l.length + 3, none⟩) hbs).trans hc3))
  all_goals
    go_wp2_with fail
    go_ret2
    exact ⟨rfl, hbx⟩

set_option maxRecDepth 100000 in
theorem open_yes (B : Nat) (b off c : Nat) (l : List UInt8) (x0 x1 x2 x3 : UInt8) (w : World) (hb : Byt w B (some ⟨b, off, none⟩) (l ++ [x0, x1, x2, x3])) (hB : B ≤ w.heap.size) (hc : l.length + 4 ≤ c) (hn : Nib w) (hl : l.length ≤ 140737488355328) (h0 : 0 < w.heap.size) (_hcc : c ≤ 9223372036854775807) (hq : (SumP.t4 (SumP.sum l) == [x0, x1, x2, x3]) = true) :
    Calls Tryd.prog 20 #[.slice (some ⟨b, off, none⟩) ((l.length + 4 : Nat)) c] w fun e w' =>
      ∃ A n, e = .returned (.tuple #[.slice A l.length n, .bool true]) ∧ Own w' w.heap.size A n l ∧ Below w.heap.size w w' := by
  have hd : decide ((l.length : Int) < 0) = false := by simp
  obtain ⟨b', off', hA, hbB, hcell⟩ := hb (by simp)
  obtain ⟨rfl, rfl⟩ : b = b' ∧ off = off' := by injection hA with hA; injection hA with h1 h2; exact ⟨h1, h2⟩
  have hc0 : w.cell? ⟨b, off + l.length, none⟩ = some (.int .u8 (x0.toNat : Int)) := by rw [hcell l.length (by simp)]; simp [List.getD]
  have hc1 : w.cell? ⟨b, off + l.length + 1, none⟩ = some (.int .u8 (x1.toNat : Int)) := by rw [Nat.add_assoc, hcell (l.length + 1) (by simp)]; simp [List.getD]
  have hc2 : w.cell? ⟨b, off + l.length + 2, none⟩ = some (.int .u8 (x2.toNat : Int)) := by rw [Nat.add_assoc, hcell (l.length + 2) (by simp)]; simp [List.getD]
  have hc3 : w.cell? ⟨b, off + l.length + 3, none⟩ = some (.int .u8 (x3.toNat : Int)) := by rw [Nat.add_assoc, hcell (l.length + 3) (by simp)]; simp [List.getD]
  have hbl : Byt w B (some ⟨b, off, none⟩) l := fun _ => ⟨b, off, rfl, hbB, fun i hi => by rw [hcell i (by simp; omega)]; simp [List.getD, hi, List.getElem?_append_left hi]⟩
  have k1 : (0 : Int) ≤ (l.length : Int) := by omega
  have k2 : (l.length : Int) ≤ (c : Int) := by omega
  have k3 : (l.length : Int) + 4 ≤ (c : Int) := by omega
  have k4 : (l.length : Int) ≤ ((l.length + 4 : Nat) : Int) := by omega
  have k5 : (l.length : Int) ≤ (l.length : Int) + 4 := by omega
  have hbs : b < w.heap.size := Nat.lt_of_lt_of_le hbB hB
  have k6 : ¬ c = l.length := by omega
  have hat := run_arrayAt4
  have heq := fun W => run_eq4 W (SumP.sum l) x0 x1 x2 x3
  rw [hq] at heq
  have HQ := Lib.hid hq
  clear hq
  have HA := Lib.hid hA
  clear hcell hA
  go_enter Tryd.func20, Tryd.ntmps20
  go_wp2_with fail
  go_region_held3 (fun W => Below w.heap.size w W ∧ W.cell? ⟨b, off + l.length, none⟩ = some (.int .u8 (x0.toNat : Int)) ∧ W.cell? ⟨b, off + l.length + 1, none⟩ = some (.int .u8 (x1.toNat : Int)) ∧ W.cell? ⟨b, off + l.length + 2, none⟩ = some (.int .u8 (x2.toNat : Int)) ∧ W.cell? ⟨b, off + l.length + 3, none⟩ = some (.int .u8 (x3.toNat : Int)))
    (first | exact ⟨Below.refl _ _, hc0, hc1, hc2, hc3⟩ | exact ⟨below_drewN (Below.refl _ _) _, hc0, hc1, hc2, hc3⟩ | exact ⟨hbx, hx0, hx1, hx2, hx3⟩ | go_keep)
    (first | (go_at_call 54; refine (tail_any B (some ⟨b, off, none⟩) c l w.drew hbl hB hn (by omega) h0).mono ?_; rintro e w' ⟨rfl, hbt⟩; have hbx : Below w.heap.size w w' := ⟨hbt.os, hbt.tape, hbt.output, hbt.size, hbt.block⟩; have hx0 := (hbx.cell (p := ⟨b, off + l.length, none⟩) hbs).trans hc0; have hx1 := (hbx.cell (p := ⟨b, off + l.length + 1, none⟩) hbs).trans hc1; have hx2 := (hbx.cell (p := ⟨b, off + l.length + 2, none⟩) hbs).trans hc2; have hx3 := (hbx.cell (p := ⟨b, off + l.length + 3, none⟩) hbs).trans hc3))
  all_goals
    go_wp2_with fail
    have hmk := fun W => make_bytes_cap l.length (by omega) W
    go_region_law (refine step_append_bytes rfl _ _ rfl w.heap.size (some ⟨w'.heap.size, 0, none⟩) l.length [] B (some ⟨b, off, none⟩) c l rfl rfl (own_made _ _ _ hbx.size (by omega)) ((hbl.below (hbx.mono hB)).below ((Below.refl B _).alloc (Nat.le_trans hB hbx.size) _).drew) (by simp; omega) (by simp; have := hbx.size; omega) ?_; intro A' n' w2 hown' hg' hat')
    have hbz : Below w.heap.size w w2 := ((hbx.alloc hbx.size _).drew).grown hg' (by simp; have := hbx.size; omega) (fun k hk => by cases hk; exact hbx.size)
    have HO : Hid (Own w2 w.heap.size A' n' l) := hown'
    clear hown' hg' hat' hmk heq hat
    go_wp2_with fail
    go_ret2
    exact ⟨A', n', rfl, HO.out, hbz⟩

/-- Open, whatever the bytes. -/
theorem open_none (B : Nat) (A : Option Addr) (c : Nat) (l : List UInt8) (w : World) (hb : Byt w B A l) (hB : B ≤ w.heap.size) (hc : l.length ≤ c) (hn : Nib w) (hl : l.length ≤ 140737488355328) (h0 : 0 < w.heap.size) (hcc : c ≤ 9223372036854775807)
    (ho : SumP.openR l = none) :
    Calls Tryd.prog 20 #[.slice A l.length c] w fun e w' => e = .returned (.tuple #[.slice none 0 0, .bool false]) ∧ Below w.heap.size w w' := by
  rcases Nat.lt_or_ge l.length 4 with h4 | h4
  · exact open_short A c _ w h4
  · obtain ⟨m, x0, x1, x2, x3, rfl⟩ := SumP.split4 l h4
    obtain ⟨b, off, rfl, _⟩ := hb (by simp)
    rw [SumP.openR_split] at ho
    simp only [List.length_append, List.length_cons, List.length_nil] at hc hl ⊢
    exact open_no B b off c m x0 x1 x2 x3 w hb hB hc hn (by omega) h0 hcc (by
      rcases h : (SumP.t4 (SumP.sum m) == [x0, x1, x2, x3]) with _ | _
      · rfl
      · rw [if_pos (by simpa using h)] at ho; cases ho)
theorem open_some (B : Nat) (A : Option Addr) (c : Nat) (l m : List UInt8) (w : World) (hb : Byt w B A l) (hB : B ≤ w.heap.size) (hc : l.length ≤ c) (hn : Nib w) (hl : l.length ≤ 140737488355328) (h0 : 0 < w.heap.size) (hcc : c ≤ 9223372036854775807)
    (ho : SumP.openR l = some m) :
    Calls Tryd.prog 20 #[.slice A l.length c] w fun e w' => ∃ A n, e = .returned (.tuple #[.slice A m.length n, .bool true]) ∧ Own w' w.heap.size A n m ∧ Below w.heap.size w w' := by
  have h4 : 4 ≤ l.length := by
    rcases Nat.lt_or_ge l.length 4 with h | h
    · unfold SumP.openR at ho
      rw [if_neg (by omega)] at ho
      cases ho
    · exact h
  obtain ⟨m', x0, x1, x2, x3, rfl⟩ := SumP.split4 l h4
  obtain ⟨b, off, rfl, _⟩ := hb (by simp)
  rw [SumP.openR_split] at ho
  split at ho
  · rename_i heq
    obtain rfl : m' = m := Option.some.inj ho
    simp only [List.length_append, List.length_cons, List.length_nil] at hc hl ⊢
    exact open_yes B b off c m' x0 x1 x2 x3 w hb hB hc hn (by omega) h0 hcc (by simpa using heq)
  · cases ho
end Go.Proofs.YteediemhcocgdaaDoor
