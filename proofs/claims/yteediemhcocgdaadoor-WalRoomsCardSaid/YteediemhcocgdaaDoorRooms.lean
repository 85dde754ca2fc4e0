/-
  The law WalRooms: its walk.
-/
import Derived.Test.YteediemhcocgdaaDoorAwake12
import Derived.Test.YteediemhcocgdaaDoorRowsIn
namespace Go.Proofs.YteediemhcocgdaaDoor
open Go.RowKit
open WalP (Stamp secs readR)

theorem and_small_ (x : Int) (y : Nat) (hy : y < 1000) : ∃ m : Nat, m ≤ y ∧ bits BinOp.and IntKind.i64 x (y : Int) = (m : Int) := by
  refine ⟨((BitVec.ofInt 64 x) &&& (BitVec.ofInt 64 (y : Int))).toNat, ?_, ?_⟩
  · rw [BitVec.toNat_and]
    refine Nat.le_trans Nat.and_le_right ?_
    rw [BitVec.toNat_ofInt]
    omega
  · have h : ((BitVec.ofInt 64 x) &&& (BitVec.ofInt 64 (y : Int))).toNat ≤ y := by
      rw [BitVec.toNat_and]
      refine Nat.le_trans Nat.and_le_right ?_
      rw [BitVec.toNat_ofInt]
      omega
    show IntKind.i64.wrap _ = _
    exact IntWalk.i64_in _ (by
      have h2 : (((BitVec.ofInt 64 x) &&& (BitVec.ofInt 64 (y : Int))).toNat : Int) ≤ y := by exact_mod_cast h
      constructor
      · show (-9223372036854775808 : Int) ≤ _
        omega
      · show _ ≤ (9223372036854775807 : Int)
        exact Int.le_trans h2 (by omega))
set_option maxHeartbeats 4000000 in
set_option maxRecDepth 100000 in
theorem rooms_any (B : Nat) (A0 : Option Addr) (c0 : Nat) (records : List (List UInt8)) (many : Int) (w : World) (hr : RArg w B A0 records) (hB : B ≤ w.heap.size) (hn : Nib w) (hg : ErrH w) (h1 : 1 < w.heap.size) (hlen : records.length ≤ 140737488351232) :
    Calls Tryd.prog 10 #[.slice A0 records.length c0, .int .i64 many] w fun e w' => e = .returned (.bool true) ∧ Below w.heap.size w w' := by
  have HR := Lib.hid hr
  have HNB := Lib.hid hn
  have HG := Lib.hid hg
  clear hr hn hg
  obtain ⟨m, hm, hbits0⟩ := and_small_ many 31 (by omega)
  have hbits : bits BinOp.and IntKind.i64 many 31 = (m : Int) := hbits0
  clear hbits0
  obtain ⟨n, hnm⟩ : ∃ n : Nat, n = m + 1 := ⟨_, rfl⟩
  have hw1 : IntKind.i64.wrap (1 + (m : Int)) = (n : Int) := by rw [IntWalk.i64_in _ (by omega)]; omega
  have hn1 : 1 ≤ n := by omega
  have hn32 : n ≤ 32 := by omega
  clear hnm hm
  go_enter Tryd.func10, Tryd.ntmps10
  go_wp2_with fail
  refine (awake12_any w HNB.out HG.out h1).mono ?_
  rintro e w1 ⟨rfl, hb1⟩
  have HB1 := Lib.hid hb1
  have hs1 := hb1.size
  clear hb1
  go_wp2_with fail
  refine (new_any 40 w1 (by omega)).mono ?_
  rintro e w2 ⟨hb, bb, sb, nb, rfl, hn2⟩
  have HN := Lib.hid hn2
  have HDK2 := Lib.hid (hn2.dk (by omega) (by omega))
  have HB2 : Hid (Below w.heap.size w w2) := Lib.hid (HB1.out.trans (hn2.below.mono hs1))
  have hs2 := hn2.below.size
  clear hn2
  go_wp2_with fail
  refine (hdisk_any hb bb w2 HN.out.hand).mono ?_
  rintro e w3 ⟨rfl, hw3⟩
  have hbel3 : Below w2.heap.size w2 w3 := by rw [hw3]; exact (Below.refl _ _).alloc (Nat.le_refl _) _
  have hs3 : w3.heap.size = w2.heap.size + 1 := by rw [hw3]; simp
  have hbd3 : Blk w3 w2.heap.size 100 [.pointer (some ⟨bb, 0, none⟩)] := by rw [hw3]; exact Blk.new w2 100 _
  have HB3 : Hid (Below w.heap.size w w3) := Lib.hid (HB2.out.trans (hbel3.mono (by omega)))
  have HDK3 := Lib.hid (HDK2.out.more (K' := fun b => b < w.heap.size ∨ b = w2.heap.size) hbel3 (fun b hx => by
    rcases hx with h | h
    · exact .inl (.inl (by omega))
    · exact .inr ⟨by omega, by omega⟩))
  clear hw3 hbel3
  have hfr : NoEp 1 2 n 0 (DV.new 40) := NoEp.new _ _ _ _ (by omega)
  go_wp2_with fail
  refine (lopen_v HDK3.out ⟨w2.heap.size, 2, n, 1, 0, 0, false⟩ [] w2.heap.size (hbd3.cell 0) (HNB.out.below HB3.out (by omega)) (by omega) (LaidL.fresh hfr) (by show 1 ≤ n; omega) (by show n ≤ 1073741824; omega) (by show ((2 + n : Nat) : Int) ≤ 40; omega) (by show 1 ≤ 1; omega) (by show 1 ≤ 1099511627776; omega) rfl).mono ?_
  rintro e w4 ⟨hb4, lg, v, B4, Br, rfl, hlg, hblk, hB4, hlB, hBr, hrows⟩
  obtain ⟨Av, cv, rfl, _⟩ := hrows.len
  have HL4 : Hid (Lg (fun b => b < w.heap.size ∨ b = w2.heap.size ∨ b = lg) w4 bb (DV.new 40) lg ⟨w2.heap.size, 2, n, 1, 0, 0, false⟩ []) := Lib.hid
    ⟨HDK3.out.more hb4 (fun b hx => by
      have := hblk.lt
      rcases hx with h | h | h
      · exact .inl (.inl h)
      · exact .inl (.inr h)
      · exact .inr ⟨by omega, by omega⟩), hblk, (hb4.cell (p := ⟨w2.heap.size, 0, none⟩) (by show w2.heap.size < _; omega)).trans (hbd3.cell 0), (HNB.out.below HB3.out (by omega)).below hb4 (by omega), Nat.lt_of_lt_of_le (by omega) hb4.size, LaidL.fresh hfr, by show n ≤ 1073741824; omega, by show ((2 + n : Nat) : Int) ≤ 40; omega, by show 1 < 2 ^ 48; decide, rfl, rfl, rfl, by simp, by simp, by left; omega⟩
  have HB4 : Hid (Below w.heap.size w w4) := Lib.hid (HB3.out.trans (hb4.mono (by omega)))
  clear hb4 hblk hB4 hlB hBr hrows hbd3
  go_wp2_with fail
  refine (room_any _ lg w4 HL4.out.lg (by show n ≤ _; omega) (by show 0 ≤ _; omega)).mono ?_
  rintro e w5 ⟨he5, n5, rfl⟩
  have he5' : e = .returned (.int .i64 n) := by
    rw [he5]
    show Ending.returned (.int .i64 ((n : Int) - ((0 : Nat) : Int))) = _
    rw [show (n : Int) - ((0 : Nat) : Int) = n by omega]
  subst he5'
  clear he5
  have HL5 : Hid (Lg (fun b => b < w.heap.size ∨ b = w2.heap.size ∨ b = lg) (w4.drewN n5) bb (DV.new 40) lg ⟨w2.heap.size, 2, n, 1, 0, 0, false⟩ []) := Lib.hid (HL4.out.keep ⟨rfl, rfl, rfl, Nat.le_refl _, fun _ _ => rfl⟩)
  have HB5 : Hid (Below w.heap.size w (w4.drewN n5)) := Lib.hid (below_drewN HB4.out n5)
  generalize w4.drewN n5 = w5 at *
  go_wp2_with fail
  refine (count_any _ lg w5 HL5.out.lg).mono ?_
  rintro e w6 ⟨rfl, rfl⟩
  go_wp2_with fail
  go_loopw [11, 12] (fun s11 s12 wr => ∃ (k : Nat) (L : LV) (V : DV) (rs : List (List UInt8)), k ≤ records.length ∧ s12 = .int .i64 k ∧ s11 = .int .i64 L.cnt ∧ L.many = n ∧ L.db = w2.heap.size ∧ V.wait.length ≤ L.used ∧ Lg (fun b => b < w.heap.size ∨ b = w2.heap.size ∨ b = lg) wr bb V lg L rs ∧ Below w.heap.size w wr) (fun _ s12 _ => records.length - (intOf s12).toNat)
  case atStart => exact ⟨0, ⟨w2.heap.size, 2, n, 1, 0, 0, false⟩, _, _, Nat.zero_le _, rfl, rfl, rfl, rfl, Nat.le_refl _, HL5.out, HB5.out⟩
  case round =>
    obtain ⟨k, L, V, rs, hk, rfl, rfl, hLm, hLd, hwl, hL, hbl⟩ := hrel
    have HL := Lib.hid hL
    have HBL := Lib.hid hbl
    clear hL hbl
    by_cases hlt : k < records.length
    · obtain ⟨g, off, rfl, hgB, hc⟩ := (HR.out.below (HBL.out.mono hB)) (by omega)
      obtain ⟨Ai, ci, hci, hle, hc63, hl47, hby⟩ := hc k hlt
      have HBY := Lib.hid hby
      clear hc hby
      generalize hb : records.getD k [] = b at *
      have HLM := Lib.hid hLm
      have HLD := Lib.hid hLd
      have husd : L.used ≤ n := by rw [← hLm]; exact HL.out.laid.used
      have hcu : L.cnt ≤ L.used := HL.out.laid.cu
      obtain ⟨R, hR⟩ : ∃ R : Nat, (R : Int) = (n : Int) - (L.used : Int) := ⟨n - L.used, by omega⟩
      have HWL := Lib.hid hwl
      clear hLm hLd hwl hb
      go_wp2_with fail
      refine (room_any L lg wr HL.out.lg (by rw [HLM.out]; omega) (by omega)).mono ?_
      rintro e w7 ⟨he7, n7, rfl⟩
      have he7' : e = .returned (.int .i64 R) := by rw [he7, HLM.out, hR]
      subst he7'
      clear he7
      have HRR := Lib.hid hR
      clear hR
      have HL7 : Hid (Lg (fun b => b < w.heap.size ∨ b = w2.heap.size ∨ b = lg) (wr.drewN n7) bb V lg L rs) := Lib.hid (HL.out.keep ⟨rfl, rfl, rfl, Nat.le_refl _, fun _ _ => rfl⟩)
      have HBL7 : Hid (Below w.heap.size w (wr.drewN n7)) := Lib.hid (below_drewN HBL.out n7)
      have HBY7 : Hid (Byt (wr.drewN n7) B Ai b) := Lib.hid (HBY.out.below ⟨rfl, rfl, rfl, Nat.le_refl _, fun _ _ => rfl⟩)
      have hci7 : (wr.drewN n7).cell? ⟨g, off + k, none⟩ = some (.slice Ai b.length ci) := hci
      clear hci
      generalize wr.drewN n7 = w7 at *
      go_wp2_with fail
      refine (sectors_any_ b.length w7 (by omega)).mono ?_
      rintro e w8 ⟨rfl, rfl⟩
      have hnd : (takes L b ∧ 1 ≤ secs b.length ∧ secs b.length ≤ R ∧ secs b.length ≤ 533) ∨ (¬ takes L b ∧ (secs b.length = 0 ∨ R < secs b.length)) := by
        by_cases h1 : b.length ≤ 262144
        · have := secs_spec h1
          by_cases h2 : L.used + secs b.length ≤ L.many
          · have h3 := h2
            rw [HLM.out] at h3
            have hrr := HRR.out
            exact .inl ⟨⟨h1, h2⟩, this.1, by omega, by omega⟩
          · refine .inr ⟨fun h => h2 h.2, .inr ?_⟩
            rw [HLM.out] at h2
            have := HRR.out
            omega
        · exact .inr ⟨fun h => h1 h.1, .inl (by unfold secs; rw [if_pos (by omega)])⟩
      have HA := Lib.hid (app_v HL7.out B Ai ci b HBY7.out (by have := HBL7.out.size; omega) hle hc63 (by omega) (by have := HWL.out; omega) (fun hpos x hx => .inl (by have := HBY7.out.blk_lt hpos x hx; omega)) (by rw [HLD.out]; omega))
      generalize hndE : secs b.length = nd at *
      have HND := Lib.hid hnd
      clear hnd
      go_wp2_with fail
      refine HA.out.mono ?_
      rintro e w9 ⟨ht9, ⟨htk, rfl, V', hst, hlg9⟩ | ⟨htk, rfl, hlg9⟩⟩
      · obtain ⟨_, hd1, hd2, hd3⟩ := HND.out.resolve_right fun h => h.1 htk
        have hwl' := (steps_keeps _ _ hst).2.2
        rw [hndE] at hlg9 hwl'
        have HL9 := Lib.hid hlg9
        have HBL9 : Hid (Below w.heap.size w w9) := Lib.hid (HBL7.out.trans (turn_below ht9 HBL7.out.size (fun b h => ⟨.inl h, by omega⟩)))
        clear ht9 htk hst hlg9
        have hp1 : (0 : Int) < (nd : Int) := by omega
        have hp2 : (nd : Int) ≤ (R : Int) := by omega
        have hwc : IntKind.i64.wrap ((L.cnt : Int) + 1) = (L.cnt : Int) + 1 := IntWalk.i64_in _ (by omega)
        have hwr : IntKind.i64.wrap ((R : Int) - (nd : Int)) = (R : Int) - (nd : Int) := IntWalk.i64_in _ (by have := HRR.out; omega)
        have hwk : IntKind.i64.wrap ((k : Int) + 1) = (k : Int) + 1 := IntWalk.i64_in _ (by omega)
        go_wp2_with fail
        refine (room_any (L.add nd) lg w9 HL9.out.lg (by show L.many ≤ _; rw [HLM.out]; omega) (by show L.used + nd ≤ _; have := HRR.out; omega)).mono ?_
        rintro e w10 ⟨he, n10, rfl⟩
        have he' : e = .returned (.int .i64 ((R : Int) - nd)) := by
          rw [he]
          show Ending.returned (.int .i64 ((L.many : Int) - ((L.used + nd : Nat) : Int))) = _
          rw [HLM.out, show (n : Int) - ((L.used + nd : Nat) : Int) = (R : Int) - nd by have := HRR.out; omega]
        subst he'
        clear he
        have HL10 : Hid (Lg (fun b => b < w.heap.size ∨ b = w2.heap.size ∨ b = lg) (w9.drewN n10) bb V' lg (L.add nd) (rs ++ [b])) := Lib.hid (HL9.out.keep ⟨rfl, rfl, rfl, Nat.le_refl _, fun _ _ => rfl⟩)
        have HBL10 : Hid (Below w.heap.size w (w9.drewN n10)) := Lib.hid (below_drewN HBL9.out n10)
        generalize w9.drewN n10 = w10 at *
        go_wp2_with fail
        refine (count_any (L.add nd) lg w10 HL10.out.lg).mono ?_
        rintro e w11 ⟨he, rfl⟩
        have he' : e = .returned (.int .i64 ((L.cnt : Int) + 1)) := he
        subst he'
        clear he
        have hge : ¬ ((R : Int) - (nd : Int) < 0) := by omega
        go_wp2_with fail
        refine ⟨⟨k + 1, L.add nd, V', rs ++ [b], by omega, by go_num, by go_num, HLM.out, HLD.out, ?_, HL10.out, HBL10.out⟩, ?_⟩
        · show V'.wait.length ≤ L.used + nd
          have := HWL.out
          omega
        · simp [intOf]; omega
      · have hno := (HND.out.resolve_left fun h => htk h.1).2
        have HL9 := Lib.hid hlg9
        have HBL9 : Hid (Below w.heap.size w w9) := Lib.hid (HBL7.out.trans (turn_below ht9 HBL7.out.size (fun b h => ⟨.inl h, by omega⟩)))
        have hwk : IntKind.i64.wrap ((k : Int) + 1) = (k : Int) + 1 := IntWalk.i64_in _ (by omega)
        clear ht9 htk hlg9
        generalize (if b.length ≤ 262144 then (121 : Int) else 2) = q
        rcases hno with h00 | hgt
        · subst h00
          go_wp2_with fail
          refine (room_any L lg w9 HL9.out.lg (by rw [HLM.out]; omega) (by omega)).mono ?_
          rintro e w10 ⟨he, n10, rfl⟩
          have he' : e = .returned (.int .i64 R) := by rw [he, HLM.out, HRR.out]
          subst he'
          clear he
          have HL10 : Hid (Lg (fun b => b < w.heap.size ∨ b = w2.heap.size ∨ b = lg) (w9.drewN n10) bb V lg L rs) := Lib.hid (HL9.out.keep ⟨rfl, rfl, rfl, Nat.le_refl _, fun _ _ => rfl⟩)
          have HBL10 : Hid (Below w.heap.size w (w9.drewN n10)) := Lib.hid (below_drewN HBL9.out n10)
          generalize w9.drewN n10 = w10 at *
          go_wp2_with fail
          refine (count_any L lg w10 HL10.out.lg).mono ?_
          rintro e w11 ⟨rfl, rfl⟩
          have hge : ¬ ((R : Int) < 0) := by omega
          go_wp2_with fail
          exact ⟨⟨k + 1, L, V, rs, by omega, by go_num, rfl, HLM.out, HLD.out, HWL.out, HL10.out, HBL10.out⟩, by simp [intOf]; omega⟩
        · have hp2 : ¬ (nd : Int) ≤ (R : Int) := by omega
          have hp1 : (0 : Int) < (nd : Int) := by omega
          go_wp2_with fail
          refine (room_any L lg w9 HL9.out.lg (by rw [HLM.out]; omega) (by omega)).mono ?_
          rintro e w10 ⟨he, n10, rfl⟩
          have he' : e = .returned (.int .i64 R) := by rw [he, HLM.out, HRR.out]
          subst he'
          clear he
          have HL10 : Hid (Lg (fun b => b < w.heap.size ∨ b = w2.heap.size ∨ b = lg) (w9.drewN n10) bb V lg L rs) := Lib.hid (HL9.out.keep ⟨rfl, rfl, rfl, Nat.le_refl _, fun _ _ => rfl⟩)
          have HBL10 : Hid (Below w.heap.size w (w9.drewN n10)) := Lib.hid (below_drewN HBL9.out n10)
          generalize w9.drewN n10 = w10 at *
          go_wp2_with fail
          refine (count_any L lg w10 HL10.out.lg).mono ?_
          rintro e w11 ⟨rfl, rfl⟩
          have hge : ¬ ((R : Int) < 0) := by omega
          go_wp2_with fail
          exact ⟨⟨k + 1, L, V, rs, by omega, by go_num, rfl, HLM.out, HLD.out, HWL.out, HL10.out, HBL10.out⟩, by simp [intOf]; omega⟩
    · obtain rfl : k = records.length := by omega
      go_wp2_with fail
      refine (dead_any L lg _ HL.out.lg).mono ?_
      rintro e w7 ⟨rfl, rfl⟩
      rw [HL.out.dead]
      go_wp2_with fail
      go_ret
      exact ⟨rfl, HBL.out⟩
end Go.Proofs.YteediemhcocgdaaDoor
