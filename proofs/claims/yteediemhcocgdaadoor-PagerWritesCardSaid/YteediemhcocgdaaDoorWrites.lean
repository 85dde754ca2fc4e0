/-
  blotterlaw13.PagerWrites: the walk.
-/
import Derived.Test.YteediemhcocgdaaDoorWritesPlain
import Derived.Test.YteediemhcocgdaaDoorAwake13
import Derived.BigQuiet
namespace Go.Proofs.YteediemhcocgdaaDoor
open Go.RowKit
open HeapP (at_)
open WritesP (Wr Fst Full Reads upd first cells)

set_option maxHeartbeats 4000000 in
set_option maxRecDepth 100000 in
theorem writes_any (A0 A1 : Option Addr) (c0 c1 : Nat) (rs : List (List UInt8)) (ps : List Int) (w : World) (hr : RArg w w.heap.size A0 rs) (hp : IArg w w.heap.size A1 ps) (hn : Nib w) (hg : ErrH w) (h1 : 1 < w.heap.size)
    (hrl : rs.length ≤ 140737488351232) (hpl : ps.length ≤ 140737488351232) :
    Calls Tryd.prog 12 #[.slice A0 rs.length c0, .slice A1 ps.length c1] w fun e w' => e = .returned (.bool true) ∧ Below w.heap.size w w' := by
  have HR := Lib.hid hr
  have HP := Lib.hid hp
  have HNB := Lib.hid hn
  clear hr hp hn
  go_enter Tryd.func12, Tryd.ntmps12
  go_wp2_with fail
  refine (awake13_any w hg h1).mono ?_
  rintro e w1 ⟨rfl, hb1⟩
  have HB1 := Lib.hid hb1
  have hs1 := hb1.size
  clear hb1 hg
  go_wp2_with fail
  refine (new_any 30 w1 (by omega)).mono ?_
  rintro e w2 ⟨hb, bb, sb, nb, rfl, hn2⟩
  have HN := Lib.hid hn2
  have HDK2 := Lib.hid (hn2.dk (by omega) (by omega))
  have HB2 : Hid (Below w.heap.size w w2) := Lib.hid (HB1.out.trans (hn2.below.mono hs1))
  have hs2 := hn2.below.size
  clear hn2
  go_wp2_with fail
  refine (hdisk_any hb bb w2 HN.out.hand).mono ?_
  rintro e w3 ⟨rfl, hw3⟩
  have hbel3 : Below w2.heap.size w2 w3 := by rw [hw3]; exact (Below.refl _ _).alloc (Nat.le_refl _) _
  have hs3 : w3.heap.size = w2.heap.size + 1 := by rw [hw3]; simp
  have hbd3 : w3.cell? ⟨w2.heap.size, 0, none⟩ = some (.pointer (some ⟨bb, 0, none⟩)) := by rw [hw3]; exact (Blk.new w2 100 [.pointer (some ⟨bb, 0, none⟩)]).cell 0
  have HB3 : Hid (Below w.heap.size w w3) := Lib.hid (HB2.out.trans (hbel3.mono (by omega)))
  have HDK3 := Lib.hid (HDK2.out.more (K' := fun b => b < w.heap.size ∨ b = w2.heap.size) hbel3 (fun b hx => by
    rcases hx with h | h
    · exact .inl (.inl (by omega))
    · exact .inr ⟨by omega, by omega⟩))
  clear hw3 hbel3
  go_wp2_with fail
  refine (open_v w2.heap.size bb w.heap.size 2 28 30 none 0 [] w3 hbd3 HDK3.out.cell0 (fun h => absurd h (by simp)) (by omega) (by omega) (by omega) (by omega) (by omega) (by omega) (by omega) (by simp)).mono ?_
  rintro e w4 ⟨hb4, ⟨hok, p, rfl, hp⟩ | ⟨hno, rfl⟩⟩
  case inr => exact absurd (fun i hi => absurd hi (by simp)) hno
  have hs4 := hb4.size
  have hpd4 := PD.open_ HDK3.out hb4 hp
  have hal : Below w4.heap.size w4 (w4.alloc (.cells (cells (first 0)).toArray 70)) := (Below.refl _ _).alloc (Nat.le_refl _) _
  have hst : Wr w w2.heap.size w4.heap.size p bb (first 0) (PV.open_ (.pointer (some ⟨w2.heap.size, 0, none⟩)) 2 28 []) (DV.new 30) (w4.alloc (.cells (cells (first 0)).toArray 70)) :=
    ⟨hpd4.more hal (fun b hx => by
      rcases hx with h | h | h
      · exact .inl (.inl h)
      · exact .inl (.inr h)
      · exact .inr ⟨by omega, by simp; omega⟩), Blk.new _ _ _, rfl, (hal.cell (p := ⟨w2.heap.size, 0, none⟩) (by show w2.heap.size < _; omega)).trans ((hb4.cell (p := ⟨w2.heap.size, 0, none⟩) (by show w2.heap.size < _; omega)).trans hbd3), rfl, rfl, rfl, rfl, rfl,
      (HB3.out.trans (hb4.mono (by omega))).trans (hal.mono (by omega)), by omega, by simp⟩
  have HST := Lib.hid hst
  have hne : w2.heap.size ≠ w4.heap.size := by omega
  have HNE := Lib.hid hne
  clear hb4 hok hp hpd4 hal hst hbd3 hne
  have hmk : ∀ W, (Instr.makeSlice 23 (.int .i64 500) (.int .i64 500)).run Tryd.prog W = .ok (.slice (some ⟨W.heap.size, 0, none⟩) 500 500) (mkw 500 W) := mkw_run 500 (by omega)
  have hms : ∀ W : World, (convert 23 9 (.slice (some ⟨W.heap.size, 0, none⟩) 500 500)).run Tryd.prog (mkw 500 W) = .ok (.string ⟨(zeros 500).toArray⟩) (mkw 500 W) := mkw_str 500
  go_wp2_with fail
  generalize hdb : w2.heap.size = db at *
  generalize hab : w4.heap.size = ab at *
  go_loopw [10] (fun i wr => ∃ (k : Nat) (V : PV), k ≤ 8 ∧ i = .int .i64 k ∧ Wr w db ab p bb (first k) V (DV.new 30) wr ∧ Fst V k) (fun i _ => 8 - (intOf i).toNat)
  case atStart => exact ⟨0, _, by omega, rfl, HST.out, ⟨fun n hn => by omega, fun x _ => rfl, fun x => rfl, fun x => rfl⟩⟩
  case round =>
    obtain ⟨k, V, hk, rfl, hwr, hfst⟩ := hrel
    have HW := Lib.hid hwr
    have HF := Lib.hid hfst
    clear hwr hfst HST
    by_cases hlt : k < 8
    · go_wp2_with fail
      refine (ptake_d HW.out.pd).mono ?_
      rintro e w5 ⟨hk5, ⟨hno, _⟩ | ⟨n, g, hf, hle, rfl, hp5⟩⟩
      · exact absurd (HF.out.any HW.out.many hlt) (hno _)
      obtain rfl := HF.out.next HW.out.many hlt hf hle
      have HW5 := Lib.hid (HW.out.step hk5 hp5 rfl rfl rfl rfl rfl rfl)
      have HF5 := Lib.hid (HF.out.tk g)
      have hs5 := hk5.size
      clear hk5 hf hle hp5
      have hw6 := HW5.out.keep (mkw_below 500 w5)
      have hfz := hw6.arr.frozen k
      have hce : (mkw 500 w5).cell? ⟨ab, k, none⟩ = some (.string ⟨(first k k).toArray⟩) := by rw [hw6.arr.cell, WritesP.cells_get _ _ hlt]
      have HW6 := Lib.hid (hw6.set HNE.out hlt (zeros 500))
      clear hw6
      go_wp2_with fail
      refine ⟨⟨k + 1, _, by omega, by go_num, ?_, HF5.out⟩, by simp [intOf]; omega⟩
      have := HW6.out
      rw [WritesP.first_upd] at this
      exact this
    · have hk8 : k = 8 := by omega
      have HFU : Hid (Full V (first k)) := Lib.hid (by rw [hk8]; rw [hk8] at HF; exact HF.out.full)
      obtain ⟨wo, rfl⟩ : ∃ wo : World, wo = wr := ⟨_, rfl⟩
      clear HF hk hk8
      obtain ⟨k0, rfl⟩ : ∃ k0, k0 = k := ⟨_, rfl⟩
      go_wp2_with fail
      go_loopw [13] (fun i wr => ∃ (k : Nat) (V : PV) (f : Nat → List UInt8), k ≤ rs.length ∧ k ≤ ps.length ∧ i = .int .i64 k ∧ Wr w db ab p bb f V (DV.new 30) wr ∧ Full V f) (fun i _ => rs.length - (intOf i).toNat)
      case atStart => exact ⟨0, _, _, Nat.zero_le _, Nat.zero_le _, rfl, HW.out, HFU.out⟩
      case round =>
        clear HW HFU
        obtain ⟨k, V, f, hkr, hkp, rfl, hwr, hfull⟩ := hrel
        have HW := Lib.hid hwr
        have HF := Lib.hid hfull
        clear hwr hfull
        by_cases hlt : k < rs.length ∧ k < ps.length
        · obtain ⟨hlr, hlp⟩ := hlt
          obtain ⟨g1, o1, rfl, hg1, hc1⟩ := (HR.out.below HW.out.bel) (by omega)
          obtain ⟨Ai, ci, hci, hle, hc63, hl47, hby⟩ := hc1 k hlr
          obtain ⟨g2, o2, rfl, hg2, hc2⟩ := (HP.out.below HW.out.bel) (by omega)
          have hck := hc2 k hlp
          obtain ⟨m, hm, hbits0⟩ := and_small7 (at_ ps k) 7 (by omega)
          have hbits : bits BinOp.and IntKind.i64 (at_ ps k) 7 = (m : Int) := hbits0
          clear hc1 hc2 hbits0
          have HBY := Lib.hid hby
          clear hby
          generalize rs.getD k [] = b at *
          have hm8 : m < 8 := by omega
          obtain ⟨hfl, gp, hgp⟩ := HF.out m hm8
          have hI : I64 (m : Int) := i64_of (by omega) (by omega)
          have hwk : IntKind.i64.wrap ((k : Int) + 1) = (k : Int) + 1 := IntWalk.i64_in _ (by omega)
          have HGP := Lib.hid hgp
          clear hgp
          by_cases h5 : b.length ≤ 500
          · have hq : decide ((b.length : Int) ≤ 500) = true := decide_eq_true (by omega)
            go_wp2_with fail
            refine (pwrite_d HW.out.pd hI HGP.out w.heap.size Ai ci b HBY.out h5).mono ?_
            rintro e w5 ⟨rfl, hk5, hp5⟩
            have HW5 := Lib.hid (HW.out.step hk5 hp5 rfl rfl rfl rfl rfl rfl)
            have HF5 := Lib.hid (HF.out.wr m b h5 HGP.out)
            have HBY5 := Lib.hid (HBY.out.below (hk5.below (B := w.heap.size) (fun _ hb => .inl hb) HW.out.bel.size))
            have hci5 : w5.cell? ⟨g1, o1 + k, none⟩ = some (.slice Ai b.length ci) := (World.cell?_of_block (hk5.block g1 (cell_lt hci) fun hn => hn (.inl hg1))).trans hci
            clear hk5 hp5 hci
            go_wp2_with fail
            obtain ⟨kz, hkz⟩ : ∃ kz : Nat, (kz : Int) = 500 - (b.length : Int) := ⟨500 - b.length, by omega⟩
            have hwz : IntKind.i64.wrap (500 - (b.length : Int)) = (kz : Int) := by rw [← hkz]; exact IntWalk.i64_in _ (by omega)
            have HKZ := Lib.hid hkz
            have hkz0 : kz ≤ 500 := by omega
            have hwr6 : wrote b = b ++ zeros kz := by unfold wrote; rw [show 500 - b.length = kz by have := HKZ.out; omega]
            have HWR6 := Lib.hid hwr6
            have hw5d : Wr w db ab p bb f (V.wr m gp b) (DV.new 30) w5.drew := HW5.out.keep ⟨rfl, rfl, rfl, Nat.le_refl _, fun _ _ => rfl⟩
            have hbyd : Byt w5.drew w.heap.size Ai b := HBY5.out.below ⟨rfl, rfl, rfl, Nat.le_refl _, fun _ _ => rfl⟩
            have hcid : w5.drew.cell? ⟨g1, o1 + k, none⟩ = some (.slice Ai b.length ci) := hci5
            clear hkz hwr6
            have hbl6 := mkw_below kz w5.drew
            have hci6 : (mkw kz w5.drew).cell? ⟨g1, o1 + k, none⟩ = some (.slice Ai b.length ci) := (hbl6.cell (p := ⟨g1, o1 + k, none⟩) (cell_lt hcid)).trans hcid
            have hs5 := hbyd.str ci
            have hs6 := (hbyd.below (hbl6.mono hw5d.bel.size)).str ci
            have hmk6 : ∀ W, (Instr.makeSlice 23 (.int .i64 (kz : Int)) (.int .i64 (kz : Int))).run Tryd.prog W = .ok (.slice (some ⟨W.heap.size, 0, none⟩) kz kz) (mkw kz W) := mkw_run kz (by omega)
            have hms6 : (convert 23 9 (.slice (some ⟨w5.heap.size, 0, none⟩) kz kz)).run Tryd.prog (mkw kz w5.drew) = .ok (.string ⟨(zeros kz).toArray⟩) (mkw kz w5.drew) := mkw_str kz w5.drew
            have hw6 := hw5d.keep hbl6
            have hfz6 := hw6.arr.frozen m
            have hce6 : (mkw kz w5.drew).cell? ⟨ab, m, none⟩ = some (.string ⟨(f m).toArray⟩) := by rw [hw6.arr.cell, WritesP.cells_get _ _ hm8]
            have HW6 := Lib.hid (hw6.set HNE.out hm8 (wrote b))
            clear hbl6 hw6 hw5d hbyd hfl hcid hmk hms
            have hcat : ¬ (9223372036854775807 < b.length + (zeros kz).length) := by rw [zeros_length]; omega
            have hsa : (⟨b.toArray⟩ : ByteArray) ++ ⟨(zeros kz).toArray⟩ = ⟨(wrote b).toArray⟩ := by rw [str_add, HWR6.out]
            go_region
            go_wp2_with fail
            exact ⟨⟨k + 1, _, _, by omega, by omega, by go_num, HW6.out, HF5.out⟩, by simp [intOf]; omega⟩
          · have hq : decide ((b.length : Int) ≤ 500) = false := decide_eq_false (by omega)
            go_wp2_with fail
            refine (pwrite_long_d HW.out.pd hI HGP.out Ai b.length ci (by omega)).mono ?_
            rintro e w5 ⟨rfl, rfl⟩
            go_wp2_with fail
            exact ⟨⟨k + 1, _, _, by omega, by omega, by go_num, HW.out, HF.out⟩, by simp [intOf]; omega⟩
        · have HRD := Lib.hid (HF.out.reads (DV.new 30))
          obtain ⟨wo, rfl⟩ : ∃ wo : World, wo = wr := ⟨_, rfl⟩
          clear HF
          clear hmk hms hkr hkp
          by_cases h1 : k < rs.length
          · have h2 : ¬ k < ps.length := fun h => hlt ⟨h1, h⟩
            clear hlt
            go_wp2_with fail
            go_loopw [16] (fun i wt => ∃ (t : Nat) (V : PV) (VD : DV), t ≤ 2 ∧ i = .int .i64 t ∧ Wr w db ab p bb f V VD wt ∧ Reads V VD f ∧ VD.wait.length ≤ t * 1048576) (fun i _ => 2 - (intOf i).toNat)
            case atStart => exact ⟨0, _, _, by omega, rfl, HW.out, HRD.out, Nat.zero_le _⟩
            case round =>
              clear HW HRD
              obtain ⟨t, V, VD, ht, rfl, hwr, hrd, hwl⟩ := hrel
              have HW := Lib.hid hwr
              have HRD := Lib.hid hrd
              clear hwr hrd
              by_cases hlt : t < 2
              · have hwt : IntKind.i64.wrap ((t : Int) + 1) = (t : Int) + 1 := IntWalk.i64_in _ (by omega)
                obtain ⟨wy, rfl⟩ : ∃ wy : World, wy = wr := ⟨_, rfl⟩
                have HLT := Lib.hid hlt
                have hdt : decide ((t : Int) < 2) = true := decide_eq_true (by omega)
                clear hlt
                go_wp2_with fail
                clear hdt
                go_loopw [17] (fun i wx => ∃ (n : Nat), n ≤ 8 ∧ i = .int .i64 n ∧ Wr w db ab p bb f V VD wx) (fun i _ => 8 - (intOf i).toNat)
                case atStart => exact ⟨0, by omega, rfl, HW.out⟩
                case round =>
                  clear HW
                  obtain ⟨n, hn8, rfl, hwx⟩ := hrel
                  have HW := Lib.hid hwx
                  clear hwx
                  have hfrm : (0 : Int) ≤ V.frm := by rw [HW.out.frm]; omega
                  have h0r : 0 < wr.heap.size := Nat.lt_of_lt_of_le (by omega) HW.out.bel.size
                  have hnib := HNB.out.below HW.out.bel (by omega)
                  by_cases hn : n < 8
                  · have hread := pread_is HW.out.pd db HW.out.d HW.out.hdb hnib h0r hfrm n (f n) (HRD.out n hn).2 (HRD.out n hn).1 (by rw [HW.out.frm, HW.out.n]; omega) HW.out.down
                    have HREAD := Lib.hid hread
                    have hwn : IntKind.i64.wrap ((n : Int) + 1) = (n : Int) + 1 := IntWalk.i64_in _ (by omega)
                    have HL5 := Lib.hid (HRD.out n hn).1
                    clear hread hnib hfrm
                    go_wp2_with fail
                    refine HREAD.out.mono ?_
                    rintro e w5 ⟨A5, c5, rfl, hown, hb5⟩
                    have hstr : ∀ m, (convert 23 9 (.slice A5 500 c5)).run Tryd.prog (w5.drewN m) = .ok (.string ⟨(f n).toArray⟩) (w5.drewN m) := fun m => by
                      have := (hown.byt.below (w' := w5.drewN m) ⟨rfl, rfl, rfl, Nat.le_refl _, fun _ _ => rfl⟩).str c5
                      rw [HL5.out] at this
                      exact this
                    have hw5 := HW.out.keep hb5
                    have hce : w5.cell? ⟨ab, n, none⟩ = some (.string ⟨(f n).toArray⟩) := by rw [hw5.arr.cell, WritesP.cells_get _ _ hn]
                    have HW5 := Lib.hid hw5
                    clear hown hb5 hw5
                    generalize f n = fn at hstr hce
                    go_wp2_with fail
                    go_quiet (fail)
                    go_wp2_with fail
                    exact ⟨⟨n + 1, by omega, by go_num, HW5.out.keep ⟨rfl, rfl, rfl, Nat.le_refl _, fun _ _ => rfl⟩⟩, by simp [intOf]; omega⟩
                  · have hflush := flush_v HW.out.pd db HW.out.d HW.out.hdb (.inr (.inl rfl)) (.inl (by omega)) hnib h0r hfrm (by rw [HW.out.frm, HW.out.many, HW.out.n]; omega) (by omega)
                    have HFL := Lib.hid hflush
                    clear hflush hnib hfrm
                    go_wp2_with fail
                    refine HFL.out.mono ?_
                    rintro e w5 ⟨ks, hks, rfl, hp5, hk5⟩
                    have hfree := flushD_free V.frm (ks.map fun x => (x, V.bytes x)) VD HW.out.armed HW.out.down
                    obtain ⟨q1, q2, q3, q4, q5⟩ := putAll_flags V.frm (ks.map fun x => (x, V.bytes x)) VD
                    rw [hfree] at hp5 ⊢
                    have hw5 := HW.out.step hk5 hp5 rfl rfl rfl q1 q2 q3
                    have hkl := hks.len fun x q hx => by have h9 := HW.out.pd.bounds; have := h9.2.2.2.1 x q hx; omega
                    rw [List.length_map] at q5
                    have hwl5 : (putAll V.frm (ks.map fun x => (x, V.bytes x)) VD).wait.length ≤ (t + 1) * 1048576 := by omega
                    have HRD5 := Lib.hid (HRD.out.freeze hks)
                    generalize putAll V.frm (ks.map fun x => (x, V.bytes x)) VD = VD5 at hw5 hwl5 HRD5
                    have HW5 := Lib.hid hw5
                    have HWL5 := Lib.hid hwl5
                    clear hks hk5 hfree q1 q2 q3 q4 q5 hp5 hw5 hkl hwl5
                    rw [show errV ((false, VD5).1) = .nilIface from rfl]
                    go_wp2_with fail
                    refine (pfreeze_d HW5.out.pd).mono ?_
                    rintro e w6 ⟨rfl, hk6, hp6⟩
                    have HW6 := Lib.hid (HW5.out.step hk6 hp6 rfl rfl rfl rfl rfl rfl)
                    clear hk6 hp6
                    go_wp2_with fail
                    exact ⟨⟨t + 1, _, _, by have := HLT.out; omega, by go_num, HW6.out, HRD5.out, HWL5.out⟩, by have := HLT.out; simp [intOf]; omega⟩
              · go_wp2_with fail
                go_ret
                exact ⟨rfl, HW.out.bel⟩
          · clear hlt
            go_wp2_with fail
            go_loopw [16] (fun i wt => ∃ (t : Nat) (V : PV) (VD : DV), t ≤ 2 ∧ i = .int .i64 t ∧ Wr w db ab p bb f V VD wt ∧ Reads V VD f ∧ VD.wait.length ≤ t * 1048576) (fun i _ => 2 - (intOf i).toNat)
            case atStart => exact ⟨0, _, _, by omega, rfl, HW.out, HRD.out, Nat.zero_le _⟩
            case round =>
              clear HW HRD
              obtain ⟨t, V, VD, ht, rfl, hwr, hrd, hwl⟩ := hrel
              have HW := Lib.hid hwr
              have HRD := Lib.hid hrd
              clear hwr hrd
              by_cases hlt : t < 2
              · have hwt : IntKind.i64.wrap ((t : Int) + 1) = (t : Int) + 1 := IntWalk.i64_in _ (by omega)
                obtain ⟨wy, rfl⟩ : ∃ wy : World, wy = wr := ⟨_, rfl⟩
                have HLT := Lib.hid hlt
                have hdt : decide ((t : Int) < 2) = true := decide_eq_true (by omega)
                clear hlt
                go_wp2_with fail
                clear hdt
                go_loopw [17] (fun i wx => ∃ (n : Nat), n ≤ 8 ∧ i = .int .i64 n ∧ Wr w db ab p bb f V VD wx) (fun i _ => 8 - (intOf i).toNat)
                case atStart => exact ⟨0, by omega, rfl, HW.out⟩
                case round =>
                  clear HW
                  obtain ⟨n, hn8, rfl, hwx⟩ := hrel
                  have HW := Lib.hid hwx
                  clear hwx
                  have hfrm : (0 : Int) ≤ V.frm := by rw [HW.out.frm]; omega
                  have h0r : 0 < wr.heap.size := Nat.lt_of_lt_of_le (by omega) HW.out.bel.size
                  have hnib := HNB.out.below HW.out.bel (by omega)
                  by_cases hn : n < 8
                  · have hread := pread_is HW.out.pd db HW.out.d HW.out.hdb hnib h0r hfrm n (f n) (HRD.out n hn).2 (HRD.out n hn).1 (by rw [HW.out.frm, HW.out.n]; omega) HW.out.down
                    have HREAD := Lib.hid hread
                    have hwn : IntKind.i64.wrap ((n : Int) + 1) = (n : Int) + 1 := IntWalk.i64_in _ (by omega)
                    have HL5 := Lib.hid (HRD.out n hn).1
                    clear hread hnib hfrm
                    go_wp2_with fail
                    refine HREAD.out.mono ?_
                    rintro e w5 ⟨A5, c5, rfl, hown, hb5⟩
                    have hstr : ∀ m, (convert 23 9 (.slice A5 500 c5)).run Tryd.prog (w5.drewN m) = .ok (.string ⟨(f n).toArray⟩) (w5.drewN m) := fun m => by
                      have := (hown.byt.below (w' := w5.drewN m) ⟨rfl, rfl, rfl, Nat.le_refl _, fun _ _ => rfl⟩).str c5
                      rw [HL5.out] at this
                      exact this
                    have hw5 := HW.out.keep hb5
                    have hce : w5.cell? ⟨ab, n, none⟩ = some (.string ⟨(f n).toArray⟩) := by rw [hw5.arr.cell, WritesP.cells_get _ _ hn]
                    have HW5 := Lib.hid hw5
                    clear hown hb5 hw5
                    generalize f n = fn at hstr hce
                    go_wp2_with fail
                    go_quiet (fail)
                    go_wp2_with fail
                    exact ⟨⟨n + 1, by omega, by go_num, HW5.out.keep ⟨rfl, rfl, rfl, Nat.le_refl _, fun _ _ => rfl⟩⟩, by simp [intOf]; omega⟩
                  · have hflush := flush_v HW.out.pd db HW.out.d HW.out.hdb (.inr (.inl rfl)) (.inl (by omega)) hnib h0r hfrm (by rw [HW.out.frm, HW.out.many, HW.out.n]; omega) (by omega)
                    have HFL := Lib.hid hflush
                    clear hflush hnib hfrm
                    go_wp2_with fail
                    refine HFL.out.mono ?_
                    rintro e w5 ⟨ks, hks, rfl, hp5, hk5⟩
                    have hfree := flushD_free V.frm (ks.map fun x => (x, V.bytes x)) VD HW.out.armed HW.out.down
                    obtain ⟨q1, q2, q3, q4, q5⟩ := putAll_flags V.frm (ks.map fun x => (x, V.bytes x)) VD
                    rw [hfree] at hp5 ⊢
                    have hw5 := HW.out.step hk5 hp5 rfl rfl rfl q1 q2 q3
                    have hkl := hks.len fun x q hx => by have h9 := HW.out.pd.bounds; have := h9.2.2.2.1 x q hx; omega
                    rw [List.length_map] at q5
                    have hwl5 : (putAll V.frm (ks.map fun x => (x, V.bytes x)) VD).wait.length ≤ (t + 1) * 1048576 := by omega
                    have HRD5 := Lib.hid (HRD.out.freeze hks)
                    generalize putAll V.frm (ks.map fun x => (x, V.bytes x)) VD = VD5 at hw5 hwl5 HRD5
                    have HW5 := Lib.hid hw5
                    have HWL5 := Lib.hid hwl5
                    clear hks hk5 hfree q1 q2 q3 q4 q5 hp5 hw5 hkl hwl5
                    rw [show errV ((false, VD5).1) = .nilIface from rfl]
                    go_wp2_with fail
                    refine (pfreeze_d HW5.out.pd).mono ?_
                    rintro e w6 ⟨rfl, hk6, hp6⟩
                    have HW6 := Lib.hid (HW5.out.step hk6 hp6 rfl rfl rfl rfl rfl rfl)
                    clear hk6 hp6
                    go_wp2_with fail
                    exact ⟨⟨t + 1, _, _, by have := HLT.out; omega, by go_num, HW6.out, HRD5.out, HWL5.out⟩, by have := HLT.out; simp [intOf]; omega⟩
              · go_wp2_with fail
                go_ret
                exact ⟨rfl, HW.out.bel⟩
end Go.Proofs.YteediemhcocgdaaDoor
