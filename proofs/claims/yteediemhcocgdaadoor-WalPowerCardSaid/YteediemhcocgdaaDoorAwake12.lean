/-
  What blotterlaw12.awake answers: true.
-/
import Derived.Test.YteediemhcocgdaaDoorAsWalk
import Derived.Test.YteediemhcocgdaaDoorWalUse
import Derived.Test.YteediemhcocgdaaDoorAwake09
namespace Go.Proofs.YteediemhcocgdaaDoor
open Go.RowKit
open WalP (Stamp secs readR)

def a12L (db : Nat) : LV := ⟨db, 2, 8, 1, 0, 0, false⟩
def z1000 : List UInt8 := List.replicate 1000 0
def z2000 : List UInt8 := List.replicate 2000 0
def mkz (n : Nat) (w : World) : World := w.alloc (.cells ((List.replicate n (0 : UInt8)).map cu8).toArray 5)
theorem mkz_run (n : Nat) (hn : n ≤ 281474976710656) (w : World) : (Instr.makeSlice 23 (.int .i64 (n : Int)) (.int .i64 (n : Int))).run Tryd.prog w = .ok (.slice (some ⟨w.heap.size, 0, none⟩) n n) (mkz n w) := by
  rw [make_bytes n hn w]
  unfold mkz
  rw [List.map_replicate]
  rfl
theorem mkz_below (n : Nat) (w : World) : Below w.heap.size w (mkz n w) := (Below.refl _ _).alloc (Nat.le_refl _) _
theorem mkz_size (n : Nat) (w : World) : (mkz n w).heap.size = w.heap.size + 1 := by simp [mkz]
theorem mkz_byt (n : Nat) (w : World) : Byt (mkz n w) (w.heap.size + 1) (some ⟨w.heap.size, 0, none⟩) (List.replicate n 0) := byt_new w 5 (0, 0) _
theorem secs_1 : secs 1 = 1 := by decide
theorem secs_1000 : secs 1000 = 3 := by decide
theorem secs_2000 : secs 2000 = 5 := by decide

set_option maxHeartbeats 4000000 in
set_option maxRecDepth 100000 in
theorem awake12_any (w : World) (hn : Nib w) (hg : ErrH w) (h1 : 1 < w.heap.size) :
    Calls Tryd.prog 36 #[] w fun e w' => e = .returned (.bool true) ∧ Below w.heap.size w w' := by
  have HG := Lib.hid hg
  have HNB := Lib.hid hn
  clear hg hn
  go_enter Tryd.func36, Tryd.ntmps36
  go_wp2_with fail
  refine (new_any 10 w (by omega)).mono ?_
  rintro e w1 ⟨hb, bb, sb, nb, rfl, hn⟩
  have HN := Lib.hid hn
  have HDK1 := Lib.hid (hn.dk (by omega) (by omega))
  clear hn
  go_wp2_with fail
  refine (hdisk_any hb bb w1 HN.out.hand).mono ?_
  rintro e w2 ⟨rfl, hw2⟩
  have hbel2 : Below w1.heap.size w1 w2 := by rw [hw2]; exact (Below.refl _ _).alloc (Nat.le_refl _) _
  have hs2 : w2.heap.size = w1.heap.size + 1 := by rw [hw2]; simp
  have hbd2 : Blk w2 w1.heap.size 100 [.pointer (some ⟨bb, 0, none⟩)] := by rw [hw2]; exact Blk.new w1 100 _
  have HB2 := Lib.hid hbel2
  have HD2 := Lib.hid hbd2
  have HB2' : Hid (Below w.heap.size w w2) := Lib.hid (HN.out.below.trans (hbel2.mono HN.out.below.size))
  have HDK2 := Lib.hid (HDK1.out.more (K' := fun b => b < w.heap.size ∨ b = hb ∨ b = w1.heap.size) hbel2 (fun b hx => by
    rcases hx with h | h | h
    · exact .inl (.inl h)
    · exact .inl (.inr h)
    · exact .inr ⟨by omega, by omega⟩))
  clear hw2 hbel2 hbd2
  have hfr : NoEp 1 2 8 0 (DV.new 10) := NoEp.new _ _ _ _ (by omega)
  have hfr2 : NoEp 2 2 8 0 (DV.new 10) := NoEp.new _ _ _ _ (by omega)
  go_wp2_with fail
  refine (lopen_v HDK2.out (a12L w1.heap.size) [] w1.heap.size (HD2.out.cell 0) (HNB.out.below HB2'.out (by omega)) (by omega) (LaidL.fresh hfr) (by show 1 ≤ 8; omega) (by show 8 ≤ 1073741824; omega) (by show ((2 + 8 : Nat) : Int) ≤ 10; omega) (by show 1 ≤ 1; omega) (by show 1 ≤ 1099511627776; omega) rfl).mono ?_
  rintro e w3 ⟨hb3, lg, v, B, Br, rfl, hlg, hblk, hB, hlB, hBr, hrows⟩
  obtain ⟨Av, cv, rfl, _⟩ := hrows.len
  have hsz2 := HB2'.out.size
  have HL3 : Hid (Lg (fun b => b < w.heap.size ∨ b = hb ∨ b = w1.heap.size ∨ b = lg) w3 bb (DV.new 10) lg (a12L w1.heap.size) []) := Lib.hid
    ⟨HDK2.out.more hb3 (fun b hx => by
      have := hblk.lt
      rcases hx with h | h | h | h
      · exact .inl (.inl h)
      · exact .inl (.inr (.inl h))
      · exact .inl (.inr (.inr h))
      · exact .inr ⟨by omega, by omega⟩), hblk, (hb3.cell (p := ⟨w1.heap.size, 0, none⟩) (by show w1.heap.size < _; omega)).trans (HD2.out.cell 0), (HNB.out.below HB2'.out (by omega)).below hb3 (by omega), Nat.lt_of_lt_of_le (by omega) hb3.size, LaidL.fresh hfr, by show 8 ≤ 1073741824; omega, by show ((2 + 8 : Nat) : Int) ≤ 10; omega, by show 1 < 2 ^ 48; decide, rfl, rfl, rfl, by simp, by simp [a12L], by left; omega⟩
  have HB3 : Hid (Below w.heap.size w w3) := Lib.hid (HB2'.out.trans (hb3.mono (by omega)))
  have HH3 : Hid (Blk w3 hb 93 [.pointer (some ⟨bb, 0, none⟩)]) := Lib.hid ((HN.out.hand.below HB2.out HN.out.hand.lt).below hb3 (by have := HN.out.hand.lt; omega))
  have hhb := HN.out.hand.lt
  have hl3 := hblk.lt
  have hs3 := hb3.size
  clear hb3 hblk hB hlB hBr hrows
  have kc := fun (w : World) (C : Array Value) (n c : Nat) => Lib.run_convert_bytes_const (P := Tryd.prog) w 23 5 C n c Tryd.underlying23 Tryd.underlying5
  go_wp2_with fail
  have hal : Below w3.heap.size w3 (w3.alloc (.cells #[.int .u8 97] 5 (1, 2))) := (Below.refl _ _).alloc (Nat.le_refl _) _
  refine (app_v (K := fun b => (b < w.heap.size ∨ b = hb ∨ b = w1.heap.size ∨ b = lg) ∨ b = w3.heap.size) (HL3.out.more hal (fun b hx => by
      rcases hx with h | h
      · exact .inl h
      · exact .inr ⟨by omega, by simp; omega⟩) (fun b h => .inl h)) (w3.heap.size + 1) (some ⟨w3.heap.size, 0, none⟩) 1 [97] (byt_new w3 5 (1, 2) [97]) (by simp) (by simp) (by omega) (by simp) (by show 0 ≤ _; omega) (fun _ g hg => by cases hg; exact .inr rfl) (by show w1.heap.size ≠ lg; omega)).mono ?_
  rintro e w4 ⟨ht4, ⟨_, rfl, V4, hst4, hlg4⟩ | ⟨hno, _⟩⟩
  case inr => exact absurd ⟨by show 1 ≤ _; omega, by show 0 + secs 1 ≤ 8; rw [secs_1]; omega⟩ hno
  have HL4 := Lib.hid (hlg4.less (K' := fun b => b < w.heap.size ∨ b = hb ∨ b = w1.heap.size ∨ b = lg) (fun b h => .inl h) (by simp) (by simp [a12L, LV.add]) (by left; omega))
  have HB4 : Hid (Below w.heap.size w w4) := Lib.hid ((HB3.out.trans (hal.mono (by omega))).trans (turn_below ht4 (by simp; omega) (fun b h => ⟨.inl (.inl h), by omega⟩)))
  have HH4 : Hid (Blk w4 hb 93 [.pointer (some ⟨bb, 0, none⟩)]) := Lib.hid (turn_blk ht4 (HH3.out.alloc _) (.inl (.inr (.inl rfl))) (by omega))
  have HN4 : Hid (NoEp 2 2 8 0 V4) := Lib.hid (hfr2.steps (by show 1 ≠ 2; omega) (by show 1 ≤ _; omega) (by show 1 < 2 ^ 48; decide) (by show 0 < 2 ^ 32; decide) rfl hst4)
  have hw4 := (steps_keeps _ _ hst4).2.2
  have hs4 : w3.heap.size ≤ w4.heap.size := by have := ht4.size; simp at this; omega
  clear ht4 hst4 hlg4 hal hfr hfr2
  have hmk : ∀ w, (Instr.makeSlice 23 (.int .i64 1000) (.int .i64 1000)).run Tryd.prog w = .ok (.slice (some ⟨w.heap.size, 0, none⟩) 1000 1000) (mkz 1000 w) := mkz_run 1000 (by omega)
  have hmk2 : ∀ w, (Instr.makeSlice 23 (.int .i64 2000) (.int .i64 2000)).run Tryd.prog w = .ok (.slice (some ⟨w.heap.size, 0, none⟩) 2000 2000) (mkz 2000 w) := mkz_run 2000 (by omega)
  go_wp2_with fail
  have hz1 : z1000.length = 1000 := List.length_replicate
  have hz2 : z2000.length = 2000 := List.length_replicate
  have ha := (app_v (K := fun b => (b < w.heap.size ∨ b = hb ∨ b = w1.heap.size ∨ b = lg) ∨ b = w4.heap.size) (HL4.out.more (mkz_below 1000 w4) (fun b hx => by
      rcases hx with h | h
      · exact .inl h
      · exact .inr ⟨by omega, by rw [mkz_size]; omega⟩) (fun b h => .inl h)) (w4.heap.size + 1) (some ⟨w4.heap.size, 0, none⟩) 1000 z1000 (mkz_byt 1000 w4) (by rw [mkz_size]; omega) (by omega) (by omega) (by omega) (by rw [hw4]; show 0 + secs 1 ≤ _; rw [secs_1]; omega) (fun _ g hg => by cases hg; exact .inr rfl) (by show w1.heap.size ≠ lg; omega))
  rw [hz1] at ha
  refine ha.mono ?_
  clear ha
  rintro e w5 ⟨ht5, ⟨_, rfl, V5, hst5, hlg5⟩ | ⟨hno, _⟩⟩
  case inr => exact absurd ⟨by rw [hz1]; omega, by show 0 + secs 1 + secs z1000.length ≤ 8; rw [hz1, secs_1, secs_1000]; omega⟩ hno
  have HL5 := Lib.hid (hlg5.less (K' := fun b => b < w.heap.size ∨ b = hb ∨ b = w1.heap.size ∨ b = lg) (fun b h => .inl h) (by simp) (by simp [a12L, LV.add]) (by left; omega))
  have HB5 : Hid (Below w.heap.size w w5) := Lib.hid ((HB4.out.trans ((mkz_below 1000 w4).mono (by omega))).trans (turn_below ht5 (by rw [mkz_size]; omega) (fun b h => ⟨.inl (.inl h), by omega⟩)))
  have HH5 : Hid (Blk w5 hb 93 [.pointer (some ⟨bb, 0, none⟩)]) := Lib.hid (turn_blk ht5 (HH4.out.alloc _) (.inl (.inr (.inl rfl))) (by omega))
  have HN5 : Hid (NoEp 2 2 8 0 V5) := Lib.hid (HN4.out.steps (by show 1 ≠ 2; omega) (by rw [hz1]; omega) (by show 1 < 2 ^ 48; decide) (by show 0 + 1 < 2 ^ 32; decide) HL4.out.armed hst5)
  have hw5 := (steps_keeps _ _ hst5).2.2
  have hs5 : w4.heap.size ≤ w5.heap.size := by have := ht5.size; rw [mkz_size] at this; omega
  clear ht5 hst5 hlg5
  go_wp2_with fail
  have ha := (app_v (K := fun b => (b < w.heap.size ∨ b = hb ∨ b = w1.heap.size ∨ b = lg) ∨ b = w5.heap.size) (HL5.out.more (mkz_below 2000 w5) (fun b hx => by
      rcases hx with h | h
      · exact .inl h
      · exact .inr ⟨by omega, by rw [mkz_size]; omega⟩) (fun b h => .inl h)) (w5.heap.size + 1) (some ⟨w5.heap.size, 0, none⟩) 2000 z2000 (mkz_byt 2000 w5) (by rw [mkz_size]; omega) (by omega) (by omega) (by omega) (by rw [hw5, hw4, hz1]; show 0 + secs 1 + _ ≤ _; rw [secs_1, secs_1000]; omega) (fun _ g hg => by cases hg; exact .inr rfl) (by show w1.heap.size ≠ lg; omega))
  rw [hz2] at ha
  refine ha.mono ?_
  clear ha
  rintro e w6 ⟨ht6, ⟨hyes, _⟩ | ⟨_, he6, hlg6⟩⟩
  case inl =>
    have h2 : 0 + secs 1 + secs z1000.length + secs z2000.length ≤ 8 := hyes.2
    rw [hz1, hz2, secs_1, secs_1000, secs_2000] at h2
    omega
  rw [if_pos (by rw [hz2]; omega)] at he6
  subst he6
  have HL6 := Lib.hid (hlg6.less (K' := fun b => b < w.heap.size ∨ b = hb ∨ b = w1.heap.size ∨ b = lg) (fun b h => .inl h) (by simp) (by simp [a12L, LV.add]) (by left; omega))
  have HB6 : Hid (Below w.heap.size w w6) := Lib.hid ((HB5.out.trans ((mkz_below 2000 w5).mono (by omega))).trans (turn_below ht6 (by rw [mkz_size]; omega) (fun b h => ⟨.inl (.inl h), by omega⟩)))
  have HH6 : Hid (Blk w6 hb 93 [.pointer (some ⟨bb, 0, none⟩)]) := Lib.hid (turn_blk ht6 (HH5.out.alloc _) (.inl (.inr (.inl rfl))) (by omega))
  have hs6 : w5.heap.size ≤ w6.heap.size := by have := ht6.size; rw [mkz_size] at this; omega
  clear ht6 hlg6
  go_wp2_with fail
  refine (hdisk_any hb bb w6 HH6.out).mono ?_
  rintro e w7 ⟨rfl, hw7⟩
  have hbel7 : Below w6.heap.size w6 w7 := by rw [hw7]; exact (Below.refl _ _).alloc (Nat.le_refl _) _
  have hs7 : w7.heap.size = w6.heap.size + 1 := by rw [hw7]; simp
  have hbd7 : Blk w7 w6.heap.size 100 [.pointer (some ⟨bb, 0, none⟩)] := by rw [hw7]; exact Blk.new w6 100 _
  have HL7 := Lib.hid (HL6.out.keep hbel7)
  have HB7 : Hid (Below w.heap.size w w7) := Lib.hid (HB6.out.trans (hbel7.mono (by omega)))
  have HH7 := Lib.hid (HH6.out.below hbel7 HH6.out.lt)
  clear hw7 hbel7
  go_wp2_with fail
  refine (lopen_v HL7.out.dk _ _ w6.heap.size (hbd7.cell 0) HL7.out.nib (by omega) HL7.out.laid (by show 1 ≤ 8; omega) (by show 8 ≤ 1073741824; omega) HL7.out.fits (by show 1 ≤ 1; omega) (by show 1 ≤ 1099511627776; omega) HL7.out.down).mono ?_
  rintro e w8 ⟨hb8, lg8, v8, B8, Br8, rfl, hlg8, hblk8, hB8, hlB8, hBr8, hrows8⟩
  obtain ⟨g8, cap8, A8, c8, rfl, hc8, hle8, hcM8, hby8⟩ := hrows8.at_ 0 (by simp)
  have HL8 := Lib.hid (HL7.out.keep hb8)
  have HB8 : Hid (Below w.heap.size w w8) := Lib.hid (HB7.out.trans (hb8.mono (by omega)))
  have HH8 := Lib.hid (HH7.out.below hb8 HH7.out.lt)
  have hs8 := hb8.size
  clear hbd7 hb8 hblk8 hrows8
  go_wp2_with fail
  refine (hdisk_any hb bb w8 HH8.out).mono ?_
  rintro e w9 ⟨rfl, hw9⟩
  have hbel9 : Below w8.heap.size w8 w9 := by rw [hw9]; exact (Below.refl _ _).alloc (Nat.le_refl _) _
  have hs9 : w9.heap.size = w8.heap.size + 1 := by rw [hw9]; simp
  have hbd9 : Blk w9 w8.heap.size 100 [.pointer (some ⟨bb, 0, none⟩)] := by rw [hw9]; exact Blk.new w8 100 _
  have HL9 := Lib.hid (HL8.out.keep hbel9)
  have hc9 := (hbel9.cell (p := ⟨g8, 0, none⟩) (cell_lt hc8)).trans hc8
  have hby9 := hby8.below hbel9
  have HB9 : Hid (Below w.heap.size w w9) := Lib.hid (HB8.out.trans (hbel9.mono (by omega)))
  clear hw9 hbel9 hc8 hby8
  go_wp2_with fail
  have hfr9 : NoEp 2 2 8 0 V5 := HN5.out
  refine (lopen_v HL9.out.dk ⟨w8.heap.size, 2, 8, 2, 0, 0, false⟩ [] w8.heap.size (hbd9.cell 0) HL9.out.nib (by omega) (LaidL.fresh hfr9) (by show 1 ≤ 8; omega) (by show 8 ≤ 1073741824; omega) HL9.out.fits (by show 1 ≤ 2; omega) (by show 2 ≤ 1099511627776; omega) HL9.out.down).mono ?_
  rintro e w10 ⟨hb10, lg10, v10, B10, Br10, rfl, hlg10, hblk10, hB10, hlB10, hBr10, hrows10⟩
  obtain ⟨A10, c10, rfl, _⟩ := hrows10.len
  have HL10 := Lib.hid (HL9.out.keep hb10)
  have hc10 := (hb10.cell (p := ⟨g8, 0, none⟩) (cell_lt hc9)).trans hc9
  have hby10 := hby9.below (hb10.mono (by omega))
  have hs810 : w8.heap.size ≤ w10.heap.size := by have := hb10.size; omega
  have HB10 : Hid (Below w.heap.size w w10) := Lib.hid (HB9.out.trans (hb10.mono (by omega)))
  clear hbd9 hb10 hblk10 hrows10 hc9 hby9
  go_wp2_with fail
  refine (number_err 121 w10 (HG.out.below HB10.out h1) (by have := HB10.out.size; omega)).mono ?_
  rintro e w11 ⟨rfl, hb11⟩
  have HL11 := Lib.hid (HL10.out.keep hb11)
  have hc11 := (hb11.cell (p := ⟨g8, 0, none⟩) (cell_lt hc10)).trans hc10
  have hby11 := hby10.below (hb11.mono hs810)
  have HB11 : Hid (Below w.heap.size w w11) := Lib.hid (HB10.out.trans (hb11.mono (by have := HB10.out.size; omega)))
  clear hb11 hc10 hby10
  go_wp2_with fail
  refine (count_any _ lg w11 HL11.out.lg).mono ?_
  rintro e w12 ⟨rfl, rfl⟩
  go_wp2_with fail
  refine (room_any _ lg w11 HL11.out.lg (by show 8 ≤ _; omega) (by show 0 + secs 1 + secs z1000.length ≤ _; rw [hz1, secs_1, secs_1000]; omega)).mono ?_
  rintro e w12 ⟨he12, n12, rfl⟩
  have he12' : e = .returned (.int .i64 4) := by
    rw [he12]
    show Ending.returned (.int .i64 (8 - ((0 + secs 1 + secs z1000.length : Nat) : Int))) = _
    rw [hz1, secs_1, secs_1000]
    rfl
  subst he12'
  clear he12
  have hc12 : (w11.drewN n12).cell? ⟨g8, 0, none⟩ = some (.slice A8 1 c8) := hc11
  have hcv : (convert 23 9 (.slice A8 1 c8)).run Tryd.prog (w11.drewN n12) = .ok (.string ⟨([97] : List UInt8).toArray⟩) (w11.drewN n12) := (hby11.below (w' := w11.drewN n12) ⟨rfl, rfl, rfl, Nat.le_refl _, fun _ _ => rfl⟩).str c8
  have HB12 : Hid (Below w.heap.size w (w11.drewN n12)) := Lib.hid (below_drewN HB11.out n12)
  generalize w11.drewN n12 = W at *
  clear hc11 hby11
  go_wp2_with fail
  refine (sectors_any_ 493 W (by omega)).mono ?_
  rintro e w13 ⟨rfl, rfl⟩
  have h493 : secs 493 = 2 := by decide
  rw [h493]
  go_wp2_with fail
  go_ret
  exact ⟨rfl, HB12.out⟩
end Go.Proofs.YteediemhcocgdaaDoor
