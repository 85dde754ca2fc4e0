/-
  blotterlaw13.PagerSafe: the walk.
-/
import Derived.Test.YteediemhcocgdaaDoorSafePlain
import Derived.Test.YteediemhcocgdaaDoorOpsArg
import Derived.Test.YteediemhcocgdaaDoorAwake13
import Derived.BigQuiet
import Derived.Deep.RegionHeld3
namespace Go.Proofs.YteediemhcocgdaaDoor
open Go.RowKit
open HeapP (at_)
open WritesP (upd)
open SafeP

set_option maxHeartbeats 4000000 in
set_option maxRecDepth 100000 in
theorem safe_any (A0 A1 A4 : Option Addr) (c0 c1 c4 : Nat) (fs : List (List UInt8)) (ops : List OpD) (acts : Int) (done : Bool) (keep : List Bool) (w : World) (h0 : RArg w w.heap.size A0 fs) (h1 : OpsIn w w.heap.size A1 ops) (h4 : BIn w A4 keep (fun g => g < w.heap.size)) (hn : Nib w) (hg : ErrH w) (hw1 : 1 < w.heap.size)
    (hfl : fs.length ≤ 140737488351232) (hol : ops.length ≤ 1048576) (hkl : keep.length ≤ 140737488355328) (haM : acts ≤ 9223372036854775807) :
    Calls Tryd.prog 13 #[.slice A0 fs.length c0, .slice A1 ops.length c1, .int .i64 acts, .bool done, .slice A4 keep.length c4] w fun e w' => e = .returned (.bool true) ∧ Below w.heap.size w w' := by
  have HR := Lib.hid h0
  have HO := Lib.hid h1
  have HKB := Lib.hid h4
  have HNB := Lib.hid hn
  clear h0 h1 h4 hn
  go_enter Tryd.func13, Tryd.ntmps13
  go_wp2_with fail
  refine (awake13_any w hg hw1).mono ?_
  rintro e w1 ⟨rfl, hb1⟩
  have HB1 := Lib.hid hb1
  have hs1 := hb1.size
  clear hb1 hg
  go_wp2_with fail
  refine (new_any 40 w1 (by omega)).mono ?_
  rintro e w2 ⟨hb, bb, sb, nb, rfl, hn2⟩
  have HN := Lib.hid hn2
  have HDK2 := Lib.hid (hn2.dk (by omega) (by omega))
  have HB2 : Hid (Below w.heap.size w w2) := Lib.hid (HB1.out.trans (hn2.below.mono hs1))
  have hs2 := hn2.below.size
  have hhl := hn2.hand.lt
  clear hn2
  go_wp2_with fail
  refine (hdisk_any hb bb w2 HN.out.hand).mono ?_
  rintro e w3 ⟨rfl, hw3⟩
  have hbel3 : Below w2.heap.size w2 w3 := by rw [hw3]; exact (Below.refl _ _).alloc (Nat.le_refl _) _
  have hs3 : w3.heap.size = w2.heap.size + 1 := by rw [hw3]; simp
  have hbd3 : w3.cell? ⟨w2.heap.size, 0, none⟩ = some (.pointer (some ⟨bb, 0, none⟩)) := by rw [hw3]; exact (Blk.new w2 100 [.pointer (some ⟨bb, 0, none⟩)]).cell 0
  have HB3 : Hid (Below w.heap.size w w3) := Lib.hid (HB2.out.trans (hbel3.mono (by omega)))
  have HH3 : Hid (Blk w3 hb 93 [.pointer (some ⟨bb, 0, none⟩)]) := Lib.hid (HN.out.hand.below hbel3 hhl)
  have HDK3 := Lib.hid (HDK2.out.more (K' := fun b => b < w.heap.size ∨ b = w2.heap.size ∨ b = hb) hbel3 (fun b hx => by
    rcases hx with h | h | h
    · exact .inl (.inl (by omega))
    · exact .inr ⟨by omega, by omega⟩
    · exact .inl (.inr h)))
  clear hw3 hbel3
  go_wp2_with fail
  refine (open_v w2.heap.size bb w.heap.size 3 36 40 none 0 [] w3 hbd3 HDK3.out.cell0 (fun h => absurd h (by simp)) (by omega) (by omega) (by omega) (by omega) (by omega) (by omega) (by omega) (by simp)).mono ?_
  rintro e w4 ⟨hb4, ⟨hok, p, rfl, hp⟩ | ⟨hno, rfl⟩⟩
  case inr => exact absurd (fun i hi => absurd hi (by simp)) hno
  have hpd4 := PD.open_ HDK3.out hb4 hp
  have hst : Sf w w2.heap.size bb hb p (.slice none 0 0) (.slice none 0 0) [] 0 (PV.open_ (.pointer (some ⟨w2.heap.size, 0, none⟩)) 3 36 []) (DV.new 40) w4 :=
    ⟨hpd4.less fun b hx => (by
      rcases hx with h | h | h | h | h
      · exact .inl h
      · exact .inr (.inl h)
      · exact .inr (.inr h)
      · cases h
      · cases h), World.ownsRow_nil _ _ _ _, World.ownsRow_nil _ _ _ _, fun g h => (by cases h), HH3.out.below hb4 HH3.out.lt, (hb4.cell (p := ⟨w2.heap.size, 0, none⟩) (by show w2.heap.size < _; omega)).trans hbd3, fun g h => (by cases h), fun g h => (by cases h), rfl, rfl, rfl, rfl, HB3.out.trans (hb4.mono (by omega))⟩
  have HST := Lib.hid hst
  clear hb4 hok hp hpd4 hst hbd3
  go_wp2_with fail
  generalize hdb : w2.heap.size = db at *
  clear hdb
  go_loopw [15, 16, 17] (fun s15 s16 s17 wr => ∃ (ls : List (List UInt8)) (V : PV), ls.length ≤ fs.length ∧ ls.length ≤ 20 ∧ s17 = .int .i64 ls.length ∧ Sf w db bb hb p s15 s16 ls ls.length V (DV.new 40) wr ∧ Hd V ls.length (at2 ls)) (fun _ _ s17 _ => 20 - (intOf s17).toNat)
  case atStart => exact ⟨[], _, Nat.zero_le _, by simp, rfl, HST.out, ⟨fun n hn => absurd hn (Nat.not_lt_zero _), fun x _ => rfl, fun x => rfl, fun x => rfl⟩⟩
  case round =>
    obtain ⟨ls, V, hkf, hk20, rfl, hsf, hhd⟩ := hrel
    have HS := Lib.hid hsf
    have HD := Lib.hid hhd
    clear hsf hhd HST
    by_cases hlt : ls.length < fs.length ∧ ls.length < 20
    · obtain ⟨hlf, hl20⟩ := hlt
      obtain ⟨g1, o1, rfl, hg1, hc1⟩ := (HR.out.below HS.out.bel) (by omega)
      obtain ⟨Ai, ci', hci, hle, hc63, hl47, hby⟩ := hc1 ls.length hlf
      have HBY := Lib.hid hby
      have HCI := Lib.hid hci
      clear hc1 hby hci
      generalize fs.getD ls.length [] = b at *
      go_wp2_with fail
      refine (ptake_d HS.out.pd).mono ?_
      rintro e w5 ⟨hk5, ⟨hno, _⟩ | ⟨n, g, hf, hle', rfl, hp5⟩⟩
      · exact absurd (HD.out.any HS.out.many hl20) (hno _)
      obtain rfl := HD.out.next HS.out.many hl20 hf hle'
      have HS5 := Lib.hid (HS.out.step hk5 hp5 rfl rfl rfl rfl)
      have hci5 : w5.cell? ⟨g1, o1 + ls.length, none⟩ = some (.slice Ai b.length ci') := (World.cell?_of_block (hk5.block g1 (cell_lt HCI.out) fun hn => hn (.inl hg1))).trans HCI.out
      have HBY5 := Lib.hid (HBY.out.below (hk5.below (B := w.heap.size) (fun _ hb => .inl hb) HS.out.bel.size))
      clear hk5 hf hle' hp5
      go_wp2_with fail
      obtain ⟨bt, hbt⟩ : ∃ bt, bt = b.take 500 := ⟨_, rfl⟩
      have hbyt := hbt ▸ HBY5.out.take_ 500
      have hlen : bt.length = min b.length 500 := by rw [hbt]; simp; omega
      have hb5 : bt.length ≤ 500 := by omega
      have hbc : bt.length ≤ ci' := by omega
      have hwr5 := pwrite_d (HS5.out.pd.keep (w' := w5.drew) ⟨rfl, rfl, rfl, Nat.le_refl _, fun _ _ => rfl⟩) (x := (ls.length : Int)) (i64_of (by omega) (by omega)) (g := g) (l := zeros 500) (by show (if _ then _ else _) = _; rw [if_pos rfl]) w.heap.size Ai ci' bt (hbyt.below (w' := w5.drew) ⟨rfl, rfl, rfl, Nat.le_refl _, fun _ _ => rfl⟩) hb5
      have HWR := Lib.hid hwr5
      have HBT := Lib.hid hbt
      have HLEN := Lib.hid hlen
      clear hwr5 hbt hlen hbyt
      have hmin : ∀ W, (Builtin.min_ #[3, 3] 3 #[.int .i64 (b.length : Int), .int .i64 500]).run Tryd.prog W = .ok (.int .i64 (bt.length : Int)) W := min_run b.length bt.length HLEN.out
      have hsl : ∀ W, (Instr.sliceAt 23 (.slice Ai b.length ci') none (some (.int .i64 (bt.length : Int))) none).run Tryd.prog W = .ok (.slice Ai bt.length ci') W := slice_to Ai b.length ci' bt.length hbc
      go_region_held3 (fun W => W.cell? ⟨g1, o1 + ls.length, none⟩ = some (.slice Ai b.length ci')) (first | exact hci5 | exact (World.cell?_of_block (hk6.block g1 (cell_lt hci5) fun hn => hn (.inl hg1))).trans hci5)
          (first | (go_at_call 47; refine HWR.out.mono ?_; rintro e w6 ⟨rfl, hk6, hp6⟩))
      have HS6 := Lib.hid ((HS5.out.keep (w' := w5.drew) ⟨rfl, rfl, rfl, Nat.le_refl _, fun _ _ => rfl⟩).step hk6 hp6 rfl rfl rfl rfl)
      have hx6 : Hd ((V.tk (ls.length : Int) g).wr (ls.length : Int) g bt) (ls.length + 1) (at2 (ls ++ [wrote bt])) := (HD.out.wr g g bt hb5).congr (at2_push ls (wrote bt))
      have HX6 := Lib.hid hx6
      have hpg : ((V.tk (ls.length : Int) g).wr (ls.length : Int) g bt).pg (ls.length : Int) = some (g, wrote bt) := by show (if _ then _ else _) = _; rw [if_pos rfl]
      have hrd := pread_is HS6.out.pd db HS6.out.d HS6.out.hdb (HNB.out.below HS6.out.bel (by omega)) (Nat.lt_of_lt_of_le (by omega) HS6.out.bel.size) (by rw [HS6.out.frm]; omega) ls.length (wrote bt) (.inl ⟨g, hpg⟩) (wrote_length bt hb5) (by rw [HS6.out.frm, HS6.out.n]; omega) rfl
      have HRD := Lib.hid hrd
      have HW5 := Lib.hid (wrote_length bt hb5)
      clear hk6 hp6 hx6 hpg hrd hmin hsl hci5 hbc hle hc63 hl47
      generalize wrote bt = x at *
      go_wp2_with fail
      refine HRD.out.mono ?_
      rintro e w7 ⟨A7, c7, rfl, hown7, hb7⟩
      have hs7 := hown7.byt.str c7
      rw [HW5.out] at hs7
      obtain ⟨g8, c8, M8, hr8, hsf8⟩ := (HS6.out.keep hb7).push1 x (by omega) 76
      obtain ⟨g9, c9, M9, hr9, hsf9⟩ := hsf8.push2 (by omega) 41
      have HR8 := Lib.hid hr8
      have HR9 := Lib.hid hr9
      have HS9 := Lib.hid hsf9
      clear hown7 hb7 hr8 hr9 hsf8 hsf9
      unfold sv at HR8
      go_wp2_with (at_builtin; first | refine Lib.wpList_append_run _ rfl (.tmp 103) (.tmp 106) _ _ rfl _ _ rfl rfl _ _ HR8.out ?_ | refine Lib.wpList_append_run _ rfl (.tmp 108) (.tmp 110) _ _ rfl _ _ rfl rfl _ _ HR9.out ?_)
      have e1 : (ls ++ [x]).length = ls.length + 1 := by simp
      refine ⟨⟨ls ++ [x], _, by omega, by omega, ?_, by rw [e1]; exact HS9.out, by rw [e1]; exact HX6.out⟩, by simp [intOf]; omega⟩
      rw [e1]
      go_num
    · have hcase : (ls.length < fs.length ∧ ¬ ls.length < 20) ∨ ¬ ls.length < fs.length := by omega
      have h0r : 0 < wr.heap.size := Nat.lt_of_lt_of_le (by omega) HS.out.bel.size
      have hflush := flush_v HS.out.pd db HS.out.d HS.out.hdb (.inr (.inl rfl)) (.inl (by omega)) (HNB.out.below HS.out.bel (by omega)) h0r (by rw [HS.out.frm]; omega) (by rw [HS.out.frm, HS.out.many, HS.out.n]; omega) (Nat.zero_le _)
      have HFL := Lib.hid hflush
      clear hflush hlt
      obtain ⟨k, hk⟩ : ∃ k, ls.length = k := ⟨_, rfl⟩
      have HKL := Lib.hid hk
      rw [hk] at HS HD hcase hkf hk20
      obtain ⟨Av, cv, rfl⟩ := HS.out.len1
      obtain ⟨Ap, cp, rfl⟩ := HS.out.len2
      rw [HKL.out]
      rw [HKL.out] at HS HFL
      clear hk
      obtain ⟨wo, rfl⟩ : ∃ wo : World, wo = wr := ⟨_, rfl⟩
      rcases hcase with ⟨hA, hB⟩ | hA
      all_goals
        go_wp2_with fail
        refine HFL.out.mono ?_
        rintro e w5 ⟨ks, hks, rfl, hp5, hk5⟩
        rw [HS.out.frm, flushD_free 3 _ (DV.new 40) rfl rfl] at hp5
        rw [HS.out.frm, flushD_free 3 _ (DV.new 40) rfl rfl]
        have hfl := putAll_flags 3 (ks.map fun x => (x, V.bytes x)) (DV.new 40)
        have HS5 := Lib.hid (HS.out.step hk5 hp5 rfl rfl rfl hfl.1)
        have hkl := hks.len fun x q hx => by have h9 := HS.out.pd.bounds; have := h9.2.2.2.1 x q hx; omega
        have HSEC := Lib.hid (fun (a : Int) (d : Bool) => HD.out.sec hks (DV.sound_new 40) a d)
        rw [List.length_map] at hfl
        have HFG := Lib.hid (And.intro hfl.2.1 (And.intro hfl.2.2.1 (show (putAll 3 (ks.map fun x => (x, V.bytes x)) (DV.new 40)).wait.length ≤ 1048576 by rw [hfl.2.2.2.2]; show 0 + ks.length ≤ _; omega)))
        generalize putAll 3 (ks.map fun x => (x, V.bytes x)) (DV.new 40) = VP at *
        clear hks hp5 hk5 hfl hkl HFL
        rw [show errV ((false, VP).1) = .nilIface from rfl]
        go_wp2_with fail
        refine (hdisk_any hb bb w5 HS5.out.hand).mono ?_
        rintro e w6 ⟨rfl, hw6⟩
        have hbel6 : Below w5.heap.size w5 w6 := by rw [hw6]; exact (Below.refl _ _).alloc (Nat.le_refl _) _
        have hs6 : w6.heap.size = w5.heap.size + 1 := by rw [hw6]; simp
        have hbd6 : w6.cell? ⟨w5.heap.size, 0, none⟩ = some (.pointer (some ⟨bb, 0, none⟩)) := by rw [hw6]; exact (Blk.new w5 100 [.pointer (some ⟨bb, 0, none⟩)]).cell 0
        have hpd6 := HS5.out.pd.more (K' := fun b => KS w db hb (.slice Av k cv) (.slice Ap k cp) b ∨ b = w5.heap.size) hbel6 (fun b hx => by
          rcases hx with h | h
          · exact .inl h
          · exact .inr ⟨by omega, by omega⟩)
        have HSY := Lib.hid (psync_d hpd6 w5.heap.size HFG.out.2.1 HFG.out.1 (by have := HFG.out.2.2; omega) hbd6 (.inr rfl))
        have HS6 := Lib.hid (HS5.out.keep hbel6)
        clear hw6 hbel6 hpd6 hbd6
        go_wp2_with fail
        refine HSY.out.mono ?_
        rintro e w7 ⟨rfl, hk7, hp7⟩
        have HS7 := Lib.hid (HS6.out.step (hk7.mono fun b hb => .inl hb) (hp7.less fun b hb => .inl hb) rfl rfl rfl rfl)
        clear hk7 hp7 HSY
        go_wp2_with fail
        refine (pfreeze_d HS7.out.pd).mono ?_
        rintro e w8 ⟨rfl, hk8, hp8⟩
        have HS8 := Lib.hid (HS7.out.step hk8 hp8 rfl rfl rfl rfl)
        have HOF := Lib.hid HD.out.off
        clear hk8 hp8
        go_wp2_with fail
        refine (parm_d HS8.out.pd hb acts done HS8.out.hand haM).mono ?_
        rintro e w9 ⟨rfl, hk9, hp9⟩
        have HS9 := Lib.hid (HS8.out.step hk9 hp9 rfl rfl rfl rfl)
        have HSC := Lib.hid (HSEC.out acts done)
        have HWT : Hid ((VP.sync.arm acts done).wait.length ≤ 0) := Lib.hid (Nat.le_refl _)
        clear hk9 hp9 HSEC HFG HS HS5 HS6 HS7 HS8 HD
        generalize V.frz = V0 at *
        generalize VP.sync.arm acts done = VD0 at *
        go_wp2_with fail
        try clear hA
        try clear hB
        go_loopw [25] (fun s25 wx => ∃ (j : Nat) (V : PV) (VD : DV), j ≤ ops.length ∧ s25 = .int .i64 j ∧ Sf w db bb hb p (.slice Av k cv) (.slice Ap k cp) ls k V VD wx ∧ Off V k ∧ Sec VD k (at2 ls) ∧ VD.wait.length ≤ j * 36) (fun s25 _ => ops.length - (intOf s25).toNat)
        case atStart => exact ⟨0, V0, VD0, Nat.zero_le _, rfl, HS9.out, HOF.out, HSC.out, by have := HWT.out; omega⟩
        case round =>
          clear HS9 HOF HSC HWT
          obtain ⟨j, V, VD, hj, rfl, hsf, hof, hsc, hwl⟩ := hrel
          have HS := Lib.hid hsf
          have HOF := Lib.hid hof
          have HSC := Lib.hid hsc
          clear hsf hof hsc
          by_cases hlt : j < ops.length
          · obtain ⟨g, off, rfl, hg, hc⟩ := (HO.out.below HS.out.bel) (by omega)
            obtain ⟨o, ho⟩ : ∃ o, ops[j]? = some o := ⟨_, List.getElem?_eq_getElem hlt⟩
            obtain ⟨Ab, cb, Ak, ck, Ao, co, q0, q1, q2, q3, q4, q5, i0, i1, hby, _⟩ := hc j o ho
            have HBY := Lib.hid hby
            clear hc ho hby
            have hwj : IntKind.i64.wrap ((j : Int) + 1) = (j : Int) + 1 := IntWalk.i64_in _ (by omega)
            obtain ⟨od, on, ob, odn, okp, oold⟩ := o
            dsimp only at q0 q1 q2 q3 q4 q5 i0 i1 HBY
            have hal : Below wr.heap.size wr (wr.alloc (.cells #[.int .i64 od, .int .i64 on, .slice Ab ob.length cb, .bool odn, .slice Ak okp.length ck, .slice Ao oold.length co] 78)) := (Below.refl _ _).alloc (Nat.le_refl _) _
            have HSO := Lib.hid (HS.out.keep hal)
            have HAL := Lib.hid hal
            clear hal
            by_cases d0 : od = 0
            · subst d0
              go_wp2_with fail
              refine (ptake_d HSO.out.pd).mono ?_
              rintro e w10 ⟨hk10, ⟨hno, rfl, hp10⟩ | ⟨n, g', hf, hle, rfl, hp10⟩⟩
              · have HS10 := Lib.hid (HSO.out.step hk10 hp10 rfl rfl rfl rfl)
                clear hk10 hp10 hno
                go_wp2_with fail
                exact ⟨⟨j + 1, V, VD, by omega, by go_num, HS10.out, HOF.out, HSC.out, by omega⟩, by simp [intOf]; omega⟩
              · have HS10 := Lib.hid (HSO.out.step hk10 hp10 rfl rfl rfl rfl)
                have hkn := HOF.out.free hf
                have hkn2 : ¬ n < (k : Int) := by omega
                have HOF10 := Lib.hid (HOF.out.tk hkn g')
                clear hk10 hp10 hf hle hkn
                go_wp2_with fail
                exact ⟨⟨j + 1, _, VD, by omega, by go_num, HS10.out, HOF10.out, HSC.out, by omega⟩, by simp [intOf]; omega⟩
            · have e0 : (od == 0) = false := by simp [d0]
              by_cases d2 : od = 2
              · subst d2
                have HPO := Lib.hid (HS.out.pd.more (K' := fun b => KS w db hb (.slice Av k cv) (.slice Ap k cp) b ∨ b = wr.heap.size) HAL.out (fun b hx => by
                  rcases hx with h | h
                  · exact .inl h
                  · exact .inr ⟨by omega, by simp; omega⟩))
                have HNB2 := Lib.hid (HBY.out.below (HAL.out.mono HS.out.bel.size))
                clear d0 e0
                cases hpg : V.pg on with
                | none =>
                  have HPG := Lib.hid hpg
                  clear hpg
                  go_wp2_with fail
                  refine (pwrite_none_d HPO.out i1 _ HPG.out).mono ?_
                  rintro e w10 ⟨rfl, rfl⟩
                  go_wp2_with fail
                  exact ⟨⟨j + 1, V, VD, by omega, by go_num, HSO.out, HOF.out, HSC.out, by omega⟩, by simp [intOf]; omega⟩
                | some q =>
                  obtain ⟨gq, lq⟩ := q
                  have hon := HS.out.pd.bounds.2.2.2.1 on (gq, lq) hpg
                  have hkn := HOF.out.taken hon.1 hpg
                  have hkn2 : ¬ on < (k : Int) := by omega
                  have HPG := Lib.hid hpg
                  have HKN := Lib.hid hkn
                  clear hpg hon hkn
                  by_cases h5 : ob.length ≤ 500
                  · go_wp2_with fail
                    refine (pwrite_d HPO.out i1 HPG.out w.heap.size Ab cb ob HNB2.out h5).mono ?_
                    rintro e w10 ⟨rfl, hk10, hp10⟩
                    have hoN : w10.cell? ⟨wr.heap.size, 1, none⟩ = some (.int .i64 on) := (World.cell?_of_block (hk10.block wr.heap.size (by simp) fun hn => hn (.inr rfl))).trans (by simp)
                    have HS10 := Lib.hid (HSO.out.step (hk10.mono fun b hb => .inl hb) (hp10.less fun b hb => .inl hb) rfl rfl rfl rfl)
                    have HOF10 := Lib.hid (HOF.out.wr HKN.out gq ob)
                    clear hk10 hp10
                    go_wp2_with fail
                    exact ⟨⟨j + 1, _, VD, by omega, by go_num, HS10.out, HOF10.out, HSC.out, by omega⟩, by simp [intOf]; omega⟩
                  · go_wp2_with fail
                    refine (pwrite_long_d HPO.out i1 HPG.out Ab ob.length cb (by omega)).mono ?_
                    rintro e w10 ⟨rfl, rfl⟩
                    go_wp2_with fail
                    exact ⟨⟨j + 1, V, VD, by omega, by go_num, HSO.out, HOF.out, HSC.out, by omega⟩, by simp [intOf]; omega⟩
              · have e2 : (od == 2) = false := by simp [d2]
                by_cases d3 : od = 3
                · subst d3
                  clear d0 e0 d2 e2
                  go_wp2_with fail
                  refine (pdrop_d HSO.out.pd i1).mono ?_
                  rintro e w10 ⟨hk10, ⟨v, rfl⟩, hcs⟩
                  have hcs2 : ∃ V', Off V' k ∧ V'.d = V.d ∧ V'.frm = V.frm ∧ V'.many = V.many ∧ PD (KS w db hb (.slice Av k cv) (.slice Ap k cp)) w10 p V' bb VD := by
                    rcases hcs with ⟨_, h⟩ | ⟨_, _, h⟩ | ⟨_, _, h⟩
                    · exact ⟨_, HOF.out.rmT on, rfl, rfl, rfl, h⟩
                    · exact ⟨_, HOF.out.rmF on, rfl, rfl, rfl, h⟩
                    · exact ⟨_, HOF.out, rfl, rfl, rfl, h⟩
                  obtain ⟨V', a1, a2, a3, a4, hp10⟩ := hcs2
                  have HS10 := Lib.hid (HSO.out.step hk10 hp10 a2 a3 a4 rfl)
                  have HOF10 := Lib.hid a1
                  clear hk10 hp10 hcs a1 a2 a3 a4
                  go_wp2_with fail
                  exact ⟨⟨j + 1, _, VD, by omega, by go_num, HS10.out, HOF10.out, HSC.out, by omega⟩, by simp [intOf]; omega⟩
                · have e3 : (od == 3) = false := by simp [d3]
                  by_cases d4 : od = 4
                  · subst d4
                    clear d0 e0 d2 e2 d3 e3
                    have h0r : 0 < (wr.alloc (.cells #[.int .i64 4, .int .i64 on, .slice Ab ob.length cb, .bool odn, .slice Ak okp.length ck, .slice Ao oold.length co] 78)).heap.size := Nat.lt_of_lt_of_le (by omega) HSO.out.bel.size
                    have HFL := Lib.hid (flush_v HSO.out.pd db HSO.out.d HSO.out.hdb (.inr (.inl rfl)) (.inl (by omega)) (HNB.out.below HSO.out.bel (by omega)) h0r (by rw [HSO.out.frm]; omega) (by rw [HSO.out.frm, HSO.out.many, HSO.out.n]; omega) (by omega))
                    clear h0r
                    go_wp2_with fail
                    refine HFL.out.mono ?_
                    rintro e w10 ⟨ks, hks, rfl, hp10, hk10⟩
                    rw [HSO.out.frm] at hp10 ⊢
                    obtain ⟨m1, m2, m3⟩ := flushD_may 3 (ks.map fun x => (x, V.bytes x)) VD
                    have hkl : ks.length ≤ 36 := pigeon 36 ks (hks.1.imp fun h => by omega) fun x hx => by
                      cases hp : V.pg x with
                      | none => exact absurd hp ((hks.2 x).1 hx)
                      | some q =>
                        have := HSO.out.pd.bounds.2.2.2.1 x q hp
                        have := HSO.out.many
                        omega
                    rw [List.length_map] at m3
                    have hwl' : (flushD 3 (ks.map fun x => (x, V.bytes x)) VD).2.wait.length ≤ (j + 1) * 36 := by omega
                    have HS10 := Lib.hid (HSO.out.step hk10 hp10 rfl rfl rfl m2)
                    have HSC10 := Lib.hid (HSC.out.flush HOF.out hks V.bytes)
                    have HWL := Lib.hid hwl'
                    generalize flushD 3 (ks.map fun x => (x, V.bytes x)) VD = FD at *
                    clear hks hp10 hk10 m1 m2 m3 hkl hwl' HFL
                    go_wp2_with fail
                    exact ⟨⟨j + 1, V, FD.2, by omega, by go_num, HS10.out, HOF.out, HSC10.out, HWL.out⟩, by simp [intOf]; omega⟩
                  · have e4 : (od == 4) = false := by simp [d4]
                    clear d0 d2 d3 d4
                    go_wp2_with fail
                    exact ⟨⟨j + 1, V, VD, by omega, by go_num, HSO.out, HOF.out, HSC.out, by omega⟩, by simp [intOf]; omega⟩
          · have hbin : BIn wr A4 keep (KS w db hb (.slice Av k cv) (.slice Ap k cp)) := fun hp => by
              obtain ⟨g, off, a1, a2, a3⟩ := (HKB.out.kept fun g hg _ => HS.out.bel.block g hg) hp
              exact ⟨g, off, a1, .inl a2, a3⟩
            have HCR := Lib.hid (pcrash_d HS.out.pd hb A4 c4 keep (by omega) HS.out.hand hbin hkl)
            clear hbin
            obtain ⟨wy, rfl⟩ : ∃ wy : World, wy = wr := ⟨_, rfl⟩
            go_wp2_with fail
            refine HCR.out.mono ?_
            rintro e w10 ⟨rfl, hk10, hd10⟩
            have HR1 := Lib.hid (ownsRow_keep HS.out.r1 fun g hg => hk10.block g (World.ownsRow.lt HS.out.r1 g hg).2 fun hn => hn (.inr (.inr (.inr (.inl hg)))))
            have HR2 := Lib.hid (ownsRow_keep HS.out.r2 fun g hg => hk10.block g (World.ownsRow.lt HS.out.r2 g hg).2 fun hn => hn (.inr (.inr (.inr (.inr hg)))))
            have HH := Lib.hid (hk10.blk HS.out.hand (.inr (.inr (.inl rfl))))
            have HBL := Lib.hid (HS.out.bel.trans (hk10.below (B := w.heap.size) (fun _ hb => .inl hb) HS.out.bel.size))
            have HD10 := Lib.hid hd10
            have HNN := Lib.hid HS.out.n
            clear hk10 hd10 HCR HS HOF hwl
            go_wp2_with fail
            refine (hdisk_any hb bb w10 HH.out).mono ?_
            rintro e w11 ⟨rfl, hw11⟩
            have hbel11 : Below w10.heap.size w10 w11 := by rw [hw11]; exact (Below.refl _ _).alloc (Nat.le_refl _) _
            have hs11 : w11.heap.size = w10.heap.size + 1 := by rw [hw11]; simp
            have hbd11 : w11.cell? ⟨w10.heap.size, 0, none⟩ = some (.pointer (some ⟨bb, 0, none⟩)) := by rw [hw11]; exact (Blk.new w10 100 [.pointer (some ⟨bb, 0, none⟩)]).cell 0
            have hd11 := HD10.out.keep hbel11
            have hc11 := hd11.cell0
            rw [show (VD.crash keep).n = 40 from HNN.out] at hc11
            have hr1 := ownsRow_keep HR1.out fun g hg => hbel11.block g (World.ownsRow.lt HR1.out g hg).2
            have hr2 := ownsRow_keep HR2.out fun g hg => hbel11.block g (World.ownsRow.lt HR2.out g hg).2
            have hia : IArg w11 w11.heap.size Ap (nums k) := fun hp => by
              rw [nums_length] at hp
              obtain ⟨g, h1, _, h2, h3⟩ := row_cells hr2 hp
              refine ⟨g, 0, h1, h2, fun i hi => ?_⟩
              rw [nums_length] at hi
              rw [Nat.zero_add, h3 i hi, List.getElem?_map, List.getElem?_eq_getElem (by rw [nums_length]; exact hi), HeapP.at_eq _ i (by rw [nums_length]; exact hi)]
              rfl
            have hopen := open_v w10.heap.size bb w11.heap.size 3 36 40 Ap cp (nums k) w11 hbd11 hc11 hia (Nat.le_refl _) (by omega) (by omega) (by omega) (by omega) (by omega) (by omega) (by rw [nums_length]; omega)
            rw [nums_length] at hopen
            have HOP := Lib.hid hopen
            have HX11 := Lib.hid (And.intro hr1 (And.intro hr2 (And.intro hd11 (And.intro hbd11 (HBL.out.trans (hbel11.mono HBL.out.size))))))
            have hsz11 : w.heap.size ≤ w10.heap.size := HBL.out.size
            clear hw11 hbel11 hbd11 hd11 hc11 hr1 hr2 hia hopen HR1 HR2 HH HD10 HBL
            go_wp2_with fail
            refine HOP.out.mono ?_
            rintro e w12 ⟨hb12, ⟨_, q, rfl, hq⟩ | ⟨hno, _⟩⟩
            case inr => exact absurd (keepok k (by omega)) hno
            obtain ⟨x1, x2, x3, x4, x5⟩ := HX11.out
            have HPD := Lib.hid (PD.open_ x3 hb12 hq)
            have HR1 := Lib.hid (ownsRow_keep x1 fun g hg => hb12.block g (World.ownsRow.lt x1 g hg).2)
            have HR2 := Lib.hid (ownsRow_keep x2 fun g hg => hb12.block g (World.ownsRow.lt x2 g hg).2)
            have HB12 := Lib.hid (x5.trans (hb12.mono (by omega)))
            have HDB := Lib.hid ((hb12.cell (p := ⟨w10.heap.size, 0, none⟩) (by show w10.heap.size < _; omega)).trans x4)
            have hsz12 := hb12.size
            clear hb12 hq x1 x2 x3 x4 x5 HX11 HOP
            go_wp2_with fail
            go_loopw [32] (fun s32 wx => ∃ (i : Nat), i ≤ k ∧ s32 = .int .i64 i ∧ Below w12.heap.size w12 wx) (fun s32 _ => k - (intOf s32).toNat)
            case atStart => exact ⟨0, Nat.zero_le _, rfl, Below.refl _ _⟩
            case round =>
              obtain ⟨i, hi, rfl, hbx⟩ := hrel
              have HBX := Lib.hid hbx
              clear hbx
              by_cases hik : i < k
              · obtain ⟨gv, rfl, _, hgv, hcv⟩ := row_cells HR1.out (by rw [HKL.out]; omega)
                obtain ⟨gp, rfl, _, hgp, hcp⟩ := row_cells HR2.out (by omega)
                have hcp1 : wr.cell? ⟨gp, i, none⟩ = some (.int .i64 (i : Int)) := (HBX.out.cell (p := ⟨gp, i, none⟩) hgp).trans (by
                  rw [hcp i hik, List.getElem?_map]
                  unfold nums
                  rw [List.getElem?_map, List.getElem?_range hik]
                  rfl)
                have hcv1 : ∀ W, Below w12.heap.size w12 W → W.cell? ⟨gv, i, none⟩ = some (.string ⟨(at2 ls i).toArray⟩) := fun W hW => (hW.cell (p := ⟨gv, i, none⟩) hgv).trans (by
                  have hil : i < ls.length := by rw [HKL.out]; exact hik
                  rw [hcv i hil, List.getElem?_map, List.getElem?_eq_getElem hil]
                  unfold at2 sv
                  rw [List.getD_eq_getElem?_getD, List.getElem?_eq_getElem hil]
                  rfl)
                have HCV := Lib.hid hcv1
                have hwi : IntKind.i64.wrap ((i : Int) + 1) = (i : Int) + 1 := IntWalk.i64_in _ (by omega)
                have hsr := HBX.out.size
                have hrd := pread_is (HPD.out.keep HBX.out) w10.heap.size rfl ((HBX.out.cell (p := ⟨w10.heap.size, 0, none⟩) (by show w10.heap.size < _; omega)).trans HDB.out) ((HNB.out.below HB12.out (by omega)).below HBX.out (by omega)) (by omega) (by show (0 : Int) ≤ 3; omega) i (at2 ls i) (HSC.out.crash keep _ i hik) (HSC.out i hik).1 (by show (3 : Int) + i < VD.n; rw [HNN.out]; omega) rfl
                have HRD := Lib.hid hrd
                have HL5 := Lib.hid (HSC.out i hik).1
                clear hcv hcp hcv1 hrd
                go_wp2_with fail
                refine HRD.out.mono ?_
                rintro e w13 ⟨A13, c13, rfl, hown, hb13⟩
                have hB13 := HBX.out.trans (hb13.mono hsr)
                have hstr : ∀ m, (convert 23 9 (.slice A13 500 c13)).run Tryd.prog (w13.drewN m) = .ok (.string ⟨(at2 ls i).toArray⟩) (w13.drewN m) := fun m => by
                  have := (hown.byt.below (w' := w13.drewN m) ⟨rfl, rfl, rfl, Nat.le_refl _, fun _ _ => rfl⟩).str c13
                  rw [HL5.out] at this
                  exact this
                have hce := HCV.out w13 hB13
                have HB13 := Lib.hid hB13
                clear hown hb13 hB13 HRD HL5 HCV
                generalize at2 ls i = fn at hstr hce
                go_wp2_with fail
                go_quiet (fail)
                go_wp2_with fail
                exact ⟨⟨i + 1, by omega, by go_num, HB13.out.trans ⟨rfl, rfl, rfl, Nat.le_refl _, fun _ _ => rfl⟩⟩, by simp [intOf]; omega⟩
              · obtain ⟨T, _, _, _, _, hpl⟩ := (HPD.out.keep HBX.out).pool
                have HPL := Lib.hid hpl
                have hik2 : i = k := by omega
                clear hpl
                go_wp2_with fail
                refine (inUse_v HPL.out).mono ?_
                rintro e w13 ⟨he, n13, rfl⟩
                have he' : e = .returned (.int .i64 (k : Int)) := by
                  rw [he]
                  show Ending.returned (.int .i64 (((0 : Nat) : Int) + ((nums k).length : Int))) = _
                  rw [nums_length]
                  simp
                subst he'
                clear he
                go_wp2_with fail
                refine (free_v (HPL.out.drewN n13)).mono ?_
                rintro e w14 ⟨he, n14, rfl⟩
                have he' : e = .returned (.int .i64 (36 - (k : Int))) := by
                  rw [he]
                  show Ending.returned (.int .i64 ((36 : Int) - (((0 : Nat) : Int) + ((nums k).length : Int)) - ((0 : Nat) : Int))) = _
                  rw [nums_length]
                  simp
                subst he'
                clear he
                have hw36 : IntKind.i64.wrap (36 - (k : Int)) = 36 - (k : Int) := IntWalk.i64_in _ (by omega)
                go_wp2_with fail
                go_ret
                exact ⟨rfl, HB12.out.trans ((below_drewN HBX.out (n13 + n14)).mono HB12.out.size)⟩
end Go.Proofs.YteediemhcocgdaaDoor
