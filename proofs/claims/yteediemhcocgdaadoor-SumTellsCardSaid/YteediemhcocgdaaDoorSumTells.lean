/-
  blotterlaw09.SumTells answers true, whatever the bytes, the place and the four bytes.
-/
import Derived.Test.YteediemhcocgdaaDoorAwake09
import Derived.Test.YteediemhcocgdaaDoorTellsPlain
namespace Go.Proofs.YteediemhcocgdaaDoor
open Go.RowKit

/-- The place from which bytes are turned. -/
def place (a : Int) (n : Nat) : Nat := ((if a < 0 then -(a + 1) else a) % (n : Int)).toNat

theorem sm_no {s q : Bool} (h : ¬ s = true) : Value.bool false = Value.bool (s && q) := by
  cases s <;> simp_all
theorem sm_yes {s : Bool} {e : UInt8} (h : s = true) : Value.bool ((e.toNat : Int) == 0) = Value.bool (s && e == 0) := by
  subst h
  congr 1
  rw [Bool.true_and, Bool.eq_iff_iff, beq_iff_eq, beq_iff_eq, ← UInt8.toNat_inj]
  simp

set_option maxHeartbeats 2000000 in
set_option maxRecDepth 100000 in
theorem tells_any (B : Nat) (A1 : Option Addr) (c1 : Nat) (b : List UInt8) (a : Int) (e : List UInt8) (he : e.length = 4) (w : World) (hb : Byt w B A1 b) (hB : B ≤ w.heap.size) (hn : Nib w) (h0 : 0 < w.heap.size)
    (hlb : b.length ≤ 140737488351232) (ha : -9223372036854775808 ≤ a ∧ a ≤ 9223372036854775807) :
    Calls Tryd.prog 6 #[.slice A1 b.length c1, .int .i64 a, .agg (e.map cu8).toArray] w fun e w' => e = .returned (.bool true) ∧ Below w.heap.size w w' := by
  obtain ⟨e0, e1, e2, e3, rfl⟩ : ∃ e0 e1 e2 e3, e = [e0, e1, e2, e3] := by
    match e, he with
    | [e0, e1, e2, e3], _ => exact ⟨e0, e1, e2, e3, rfl⟩
  clear he
  obtain ⟨ha1, ha2⟩ := ha
  go_enter Tryd.func6, Tryd.ntmps6
  go_wp2_with fail
  have hk0 := Blk.new w 39 [cu8 e0, cu8 e1, cu8 e2, cu8 e3]
  have hbel0 : Below w.heap.size w (w.alloc (.cells #[cu8 e0, cu8 e1, cu8 e2, cu8 e3] 39)) := (Below.refl _ _).alloc (Nat.le_refl _) _
  have hs0 : (w.alloc (.cells #[cu8 e0, cu8 e1, cu8 e2, cu8 e3] 39)).heap.size = w.heap.size + 1 := by simp
  refine (awake09_any _ (hn.below hbel0 h0) (by simp)).mono ?_
  rintro er w1 ⟨rfl, hb1⟩
  have hz1 := hb1.size
  rw [hs0] at hb1 hz1
  have hbel1 : Below w.heap.size w w1 := hbel0.trans (hb1.mono (by omega))
  have hk1 : Blk w1 w.heap.size 39 [cu8 e0, cu8 e1, cu8 e2, cu8 e3] := Blk.below hk0 hb1 (by omega)
  have HB1 := Lib.hid hbel1
  have HK1 := Lib.hid hk1
  clear hk0 hbel0 hs0 hb1 hbel1 hk1
  go_wp2_with fail
  refine (seal_any B A1 c1 b w1 (hb.below (HB1.out.mono hB)) (by omega) (hn.below HB1.out h0) (by omega) (by omega)).mono ?_
  rintro er w2 ⟨A, rfl, hf, hb2⟩
  have hlen := SumP.sealed_length b
  obtain ⟨g, cs, rfl, hg, hblk, htk⟩ := hf (by omega)
  have hbel2 := HB1.out.trans (hb2.mono HB1.out.size)
  have HK2 : Hid (Blk w2 w.heap.size 39 [cu8 e0, cu8 e1, cu8 e2, cu8 e3]) := HK1.out.below hb2 (by omega)
  have HB2 := Lib.hid hbel2
  have HG := Lib.hid hblk
  have HT := Lib.hid htk
  have hlo : 4 ≤ (SumP.sealed b).length := by omega
  have hhi : (SumP.sealed b).length ≤ 140737488351236 := by omega
  have heqn : ((SumP.sealed b).length : Int) = (b.length : Int) + 4 := by omega
  have HE := Lib.hid heqn
  have hq : (((SumP.sealed b).length : Int) != (b.length : Int) + 4) = false := by rw [heqn]; simp
  have hseal := SumP.openR_sealed b
  clear hf hb2 hbel2 hblk htk heqn hlen hseal
  generalize hX : SumP.sealed b = X at *
  have HX := Lib.hid hX
  clear hX
  by_cases hneg : a < 0
  · go_wp2_with fail
    obtain ⟨k, hk⟩ : ∃ k : Nat, k < X.length ∧ -((a + 1).tmod (X.length : Int)) = (k : Int) := by
      refine ⟨(-((a + 1).tmod (X.length : Int))).toNat, ?_, ?_⟩ <;> rw [show (a + 1).tmod (X.length : Int) = -((-(a + 1)) % (X.length : Int)) by rw [← Int.tmod_eq_emod_of_nonneg (by omega), Int.neg_tmod, Int.neg_neg]]
      · have := Int.emod_lt_of_pos (-(a + 1)) (show 0 < (X.length : Int) by omega)
        have := Int.emod_nonneg (-(a + 1)) (show (X.length : Int) ≠ 0 by omega)
        omega
      · have := Int.emod_nonneg (-(a + 1)) (show (X.length : Int) ≠ 0 by omega)
        omega
    obtain ⟨hk1, hke⟩ := hk
    rw [hke]
    clear hke
    go_loopw [10, 11] (fun s i wr => ∃ (j : Nat) (cs : List Value), j ≤ 4 ∧ k + j ≤ X.length ∧ i = .int .i64 j ∧ s = .bool (SumP.sm [e0, e1, e2, e3] j) ∧ Blk wr g 5 cs ∧ cs.take X.length = (SumP.tw X k [e0, e1, e2, e3] j).map cu8 ∧ Blk wr w.heap.size 39 [cu8 e0, cu8 e1, cu8 e2, cu8 e3] ∧ Below w.heap.size w wr) (fun _ i _ => 4 - (intOf i).toNat)
    case atStart => exact ⟨0, cs, by omega, by omega, rfl, rfl, HG.out, HT.out, HK2.out, HB2.out⟩
    case round =>
      obtain ⟨j, ds, hj4, hjl, rfl, rfl, hG, hT, hK, hBel⟩ := hrel
      have htl := SumP.tw_length X k [e0, e1, e2, e3] j
      have hdl : X.length ≤ ds.length := by
        have := congrArg List.length hT
        rw [List.length_take, List.length_map, htl] at this
        omega
      by_cases hgo : j < 4 ∧ k + j < X.length
      · obtain ⟨hlt, hkl⟩ := hgo
        have hcx : wr.cell? ⟨g, k + j, none⟩ = some (.int .u8 (((SumP.tw X k [e0, e1, e2, e3] j).getD (k + j) 0).toNat : Int)) := by
          rw [hG.cell]
          have h1 : (ds.take X.length)[k + j]? = ((SumP.tw X k [e0, e1, e2, e3] j).map cu8)[k + j]? := by rw [hT]
          rw [List.getElem?_take_of_lt hkl, List.getElem?_map, List.getElem?_eq_getElem (l := SumP.tw X k [e0, e1, e2, e3] j) (by omega)] at h1
          rw [h1, List.getD_eq_getElem?_getD, List.getElem?_eq_getElem (l := SumP.tw X k [e0, e1, e2, e3] j) (by omega)]
          rfl
        have hce : wr.cell? ⟨w.heap.size, j, none⟩ = some (.int .u8 ((([e0, e1, e2, e3] : List UInt8).getD j 0).toNat : Int)) := by
          rw [hK.cell]
          match j, hlt with
          | 0, _ => rfl
          | 1, _ => rfl
          | 2, _ => rfl
          | 3, _ => rfl
        have hfx := hG.frozen (k + j)
        have hsm := SumP.sm_succ [e0, e1, e2, e3] j (by simpa using hlt)
        have htw : SumP.tw X k [e0, e1, e2, e3] (j + 1) = (SumP.tw X k [e0, e1, e2, e3] j).set (k + j) ((SumP.tw X k [e0, e1, e2, e3] j).getD (k + j) 0 ^^^ ([e0, e1, e2, e3] : List UInt8).getD j 0) := rfl
        have HSM := Lib.hid hsm
        have HTW := Lib.hid htw
        have HG2 := Lib.hid hG
        have HT2 := Lib.hid hT
        have HK3 := Lib.hid hK
        have HB3 := Lib.hid hBel
        have hne : w.heap.size ≠ g := by omega
        have hxor : bits .xor .u8 (((SumP.tw X k [e0, e1, e2, e3] j).getD (k + j) 0).toNat : Int) ((([e0, e1, e2, e3] : List UInt8).getD j 0).toNat : Int) = ((((SumP.tw X k [e0, e1, e2, e3] j).getD (k + j) 0 ^^^ ([e0, e1, e2, e3] : List UInt8).getD j 0).toNat : Nat) : Int) := by
          rw [u8_xor_nat _ _ (UInt8.toNat_lt _) (UInt8.toNat_lt _), UInt8.toNat_xor]
        clear hsm htw hG hT hK hBel htl hdl
        generalize (SumP.tw X k [e0, e1, e2, e3] j).getD (k + j) 0 = x at hcx hxor HTW
        generalize ([e0, e1, e2, e3] : List UInt8).getD j 0 = ej at hce hxor HTW HSM
        generalize x ^^^ ej = xe at hxor HTW
        go_wp2_with fail
        go_region
        all_goals go_wp2_with fail
        all_goals
          refine ⟨⟨j + 1, ds.set (k + j) (cu8 xe), by omega, by omega, by go_num, ?_, (HG2.out.set_ (k + j) (cu8 xe)).drew, ?_, (HK3.out.far (p := ⟨g, k + j, none⟩) hne _).drew, (HB3.out.setCell (p := ⟨g, k + j, none⟩) (show w.heap.size ≤ g by omega) _).drew⟩, by simp [intOf]; omega⟩
          · rw [HSM.out]
            first
              | exact sm_no (by assumption)
              | exact sm_yes (by assumption)
          · rw [List.take_set, HT2.out, HTW.out, List.map_set]
      · have htells := SumP.tells b k j [e0, e1, e2, e3] rfl hj4 (by rw [HX.out]; exact hjl)
        rw [HX.out] at htells
        have hfr : Byt wr (g + 1) (some ⟨g, 0, none⟩) (SumP.tw X k [e0, e1, e2, e3] j) := fun _ => ⟨g, 0, rfl, by omega, fun i hi => by
          rw [htl] at hi
          rw [hG.cell, Nat.zero_add]
          have h1 : (ds.take X.length)[i]? = ((SumP.tw X k [e0, e1, e2, e3] j).map cu8)[i]? := by rw [hT]
          rw [List.getElem?_take_of_lt hi, List.getElem?_map, List.getElem?_eq_getElem (l := SumP.tw X k [e0, e1, e2, e3] j) (by omega)] at h1
          rw [h1, List.getD_eq_getElem?_getD, List.getElem?_eq_getElem (l := SumP.tw X k [e0, e1, e2, e3] j) (by omega)]
          rfl⟩
        have hnr := hn.below hBel h0
        have hgl := hG.lt
        have HBel := Lib.hid hBel
        have HTL := Lib.hid htl
        clear hG hT hK hBel htl hdl
        have hd1 : decide ((j : Int) < 4) = true ∧ decide ((k : Int) + (j : Int) < (X.length : Int)) = false ∨ decide ((j : Int) < 4) = false := by
          by_cases h : j < 4
          · left; simp; omega
          · right; simp; omega
        have hz : 0 < wr.heap.size := by omega
        rcases ho : SumP.openR (SumP.tw X k [e0, e1, e2, e3] j) with _ | y
        · have hsm : SumP.sm [e0, e1, e2, e3] j = false := by rw [← htells, ho]; rfl
          rw [hsm]
          have HO := Lib.hid ho
          clear ho htells hsm
          have hcall := open_none (g + 1) (some ⟨g, 0, none⟩) X.length (SumP.tw X k [e0, e1, e2, e3] j) wr hfr (by omega) (by rw [HTL.out]; exact Nat.le_refl _) hnr (by rw [HTL.out]; omega) hz (by omega) HO.out
          rw [HTL.out] at hcall
          have HC := Lib.hid hcall
          clear hcall
          rcases hd1 with ⟨hd1, hd2⟩ | hd1
          all_goals
            go_wp2_with fail
            refine HC.out.mono ?_
            rintro er w5 ⟨rfl, hb5⟩
            have HB5 := Lib.hid (HBel.out.trans (hb5.mono HBel.out.size))
            clear hb5
            go_wp2_with fail
            go_ret
            exact ⟨rfl, HB5.out⟩
        · have hsm : SumP.sm [e0, e1, e2, e3] j = true := by rw [← htells, ho]; rfl
          rw [hsm]
          have HO := Lib.hid ho
          clear ho htells hsm
          have hcall := open_some (g + 1) (some ⟨g, 0, none⟩) X.length (SumP.tw X k [e0, e1, e2, e3] j) y wr hfr (by omega) (by rw [HTL.out]; exact Nat.le_refl _) hnr (by rw [HTL.out]; omega) hz (by omega) HO.out
          rw [HTL.out] at hcall
          have HC := Lib.hid hcall
          clear hcall
          rcases hd1 with ⟨hd1, hd2⟩ | hd1
          all_goals
            go_wp2_with fail
            refine HC.out.mono ?_
            rintro er w5 ⟨A5, n5, rfl, _, hb5⟩
            have HB5 := Lib.hid (HBel.out.trans (hb5.mono HBel.out.size))
            clear hb5
            go_wp2_with fail
            go_ret
            exact ⟨rfl, HB5.out⟩
  · go_wp2_with fail
    obtain ⟨k, hk⟩ : ∃ k : Nat, k < X.length ∧ a % (X.length : Int) = (k : Int) := by
      have h1 := Int.emod_lt_of_pos a (show 0 < (X.length : Int) by omega)
      have h2 := Int.emod_nonneg a (show (X.length : Int) ≠ 0 by omega)
      exact ⟨(a % (X.length : Int)).toNat, by omega, by omega⟩
    obtain ⟨hk1, hke⟩ := hk
    rw [hke]
    clear hke
    go_loopw [10, 11] (fun s i wr => ∃ (j : Nat) (cs : List Value), j ≤ 4 ∧ k + j ≤ X.length ∧ i = .int .i64 j ∧ s = .bool (SumP.sm [e0, e1, e2, e3] j) ∧ Blk wr g 5 cs ∧ cs.take X.length = (SumP.tw X k [e0, e1, e2, e3] j).map cu8 ∧ Blk wr w.heap.size 39 [cu8 e0, cu8 e1, cu8 e2, cu8 e3] ∧ Below w.heap.size w wr) (fun _ i _ => 4 - (intOf i).toNat)
    case atStart => exact ⟨0, cs, by omega, by omega, rfl, rfl, HG.out, HT.out, HK2.out, HB2.out⟩
    case round =>
      obtain ⟨j, ds, hj4, hjl, rfl, rfl, hG, hT, hK, hBel⟩ := hrel
      have htl := SumP.tw_length X k [e0, e1, e2, e3] j
      have hdl : X.length ≤ ds.length := by
        have := congrArg List.length hT
        rw [List.length_take, List.length_map, htl] at this
        omega
      by_cases hgo : j < 4 ∧ k + j < X.length
      · obtain ⟨hlt, hkl⟩ := hgo
        have hcx : wr.cell? ⟨g, k + j, none⟩ = some (.int .u8 (((SumP.tw X k [e0, e1, e2, e3] j).getD (k + j) 0).toNat : Int)) := by
          rw [hG.cell]
          have h1 : (ds.take X.length)[k + j]? = ((SumP.tw X k [e0, e1, e2, e3] j).map cu8)[k + j]? := by rw [hT]
          rw [List.getElem?_take_of_lt hkl, List.getElem?_map, List.getElem?_eq_getElem (l := SumP.tw X k [e0, e1, e2, e3] j) (by omega)] at h1
          rw [h1, List.getD_eq_getElem?_getD, List.getElem?_eq_getElem (l := SumP.tw X k [e0, e1, e2, e3] j) (by omega)]
          rfl
        have hce : wr.cell? ⟨w.heap.size, j, none⟩ = some (.int .u8 ((([e0, e1, e2, e3] : List UInt8).getD j 0).toNat : Int)) := by
          rw [hK.cell]
          match j, hlt with
          | 0, _ => rfl
          | 1, _ => rfl
          | 2, _ => rfl
          | 3, _ => rfl
        have hfx := hG.frozen (k + j)
        have hsm := SumP.sm_succ [e0, e1, e2, e3] j (by simpa using hlt)
        have htw : SumP.tw X k [e0, e1, e2, e3] (j + 1) = (SumP.tw X k [e0, e1, e2, e3] j).set (k + j) ((SumP.tw X k [e0, e1, e2, e3] j).getD (k + j) 0 ^^^ ([e0, e1, e2, e3] : List UInt8).getD j 0) := rfl
        have HSM := Lib.hid hsm
        have HTW := Lib.hid htw
        have HG2 := Lib.hid hG
        have HT2 := Lib.hid hT
        have HK3 := Lib.hid hK
        have HB3 := Lib.hid hBel
        have hne : w.heap.size ≠ g := by omega
        have hxor : bits .xor .u8 (((SumP.tw X k [e0, e1, e2, e3] j).getD (k + j) 0).toNat : Int) ((([e0, e1, e2, e3] : List UInt8).getD j 0).toNat : Int) = ((((SumP.tw X k [e0, e1, e2, e3] j).getD (k + j) 0 ^^^ ([e0, e1, e2, e3] : List UInt8).getD j 0).toNat : Nat) : Int) := by
          rw [u8_xor_nat _ _ (UInt8.toNat_lt _) (UInt8.toNat_lt _), UInt8.toNat_xor]
        clear hsm htw hG hT hK hBel htl hdl
        generalize (SumP.tw X k [e0, e1, e2, e3] j).getD (k + j) 0 = x at hcx hxor HTW
        generalize ([e0, e1, e2, e3] : List UInt8).getD j 0 = ej at hce hxor HTW HSM
        generalize x ^^^ ej = xe at hxor HTW
        go_wp2_with fail
        go_region
        all_goals go_wp2_with fail
        all_goals
          refine ⟨⟨j + 1, ds.set (k + j) (cu8 xe), by omega, by omega, by go_num, ?_, (HG2.out.set_ (k + j) (cu8 xe)).drew, ?_, (HK3.out.far (p := ⟨g, k + j, none⟩) hne _).drew, (HB3.out.setCell (p := ⟨g, k + j, none⟩) (show w.heap.size ≤ g by omega) _).drew⟩, by simp [intOf]; omega⟩
          · rw [HSM.out]
            first
              | exact sm_no (by assumption)
              | exact sm_yes (by assumption)
          · rw [List.take_set, HT2.out, HTW.out, List.map_set]
      · have htells := SumP.tells b k j [e0, e1, e2, e3] rfl hj4 (by rw [HX.out]; exact hjl)
        rw [HX.out] at htells
        have hfr : Byt wr (g + 1) (some ⟨g, 0, none⟩) (SumP.tw X k [e0, e1, e2, e3] j) := fun _ => ⟨g, 0, rfl, by omega, fun i hi => by
          rw [htl] at hi
          rw [hG.cell, Nat.zero_add]
          have h1 : (ds.take X.length)[i]? = ((SumP.tw X k [e0, e1, e2, e3] j).map cu8)[i]? := by rw [hT]
          rw [List.getElem?_take_of_lt hi, List.getElem?_map, List.getElem?_eq_getElem (l := SumP.tw X k [e0, e1, e2, e3] j) (by omega)] at h1
          rw [h1, List.getD_eq_getElem?_getD, List.getElem?_eq_getElem (l := SumP.tw X k [e0, e1, e2, e3] j) (by omega)]
          rfl⟩
        have hnr := hn.below hBel h0
        have hgl := hG.lt
        have HBel := Lib.hid hBel
        have HTL := Lib.hid htl
        clear hG hT hK hBel htl hdl
        have hd1 : decide ((j : Int) < 4) = true ∧ decide ((k : Int) + (j : Int) < (X.length : Int)) = false ∨ decide ((j : Int) < 4) = false := by
          by_cases h : j < 4
          · left; simp; omega
          · right; simp; omega
        have hz : 0 < wr.heap.size := by omega
        rcases ho : SumP.openR (SumP.tw X k [e0, e1, e2, e3] j) with _ | y
        · have hsm : SumP.sm [e0, e1, e2, e3] j = false := by rw [← htells, ho]; rfl
          rw [hsm]
          have HO := Lib.hid ho
          clear ho htells hsm
          have hcall := open_none (g + 1) (some ⟨g, 0, none⟩) X.length (SumP.tw X k [e0, e1, e2, e3] j) wr hfr (by omega) (by rw [HTL.out]; exact Nat.le_refl _) hnr (by rw [HTL.out]; omega) hz (by omega) HO.out
          rw [HTL.out] at hcall
          have HC := Lib.hid hcall
          clear hcall
          rcases hd1 with ⟨hd1, hd2⟩ | hd1
          all_goals
            go_wp2_with fail
            refine HC.out.mono ?_
            rintro er w5 ⟨rfl, hb5⟩
            have HB5 := Lib.hid (HBel.out.trans (hb5.mono HBel.out.size))
            clear hb5
            go_wp2_with fail
            go_ret
            exact ⟨rfl, HB5.out⟩
        · have hsm : SumP.sm [e0, e1, e2, e3] j = true := by rw [← htells, ho]; rfl
          rw [hsm]
          have HO := Lib.hid ho
          clear ho htells hsm
          have hcall := open_some (g + 1) (some ⟨g, 0, none⟩) X.length (SumP.tw X k [e0, e1, e2, e3] j) y wr hfr (by omega) (by rw [HTL.out]; exact Nat.le_refl _) hnr (by rw [HTL.out]; omega) hz (by omega) HO.out
          rw [HTL.out] at hcall
          have HC := Lib.hid hcall
          clear hcall
          rcases hd1 with ⟨hd1, hd2⟩ | hd1
          all_goals
            go_wp2_with fail
            refine HC.out.mono ?_
            rintro er w5 ⟨A5, n5, rfl, _, hb5⟩
            have HB5 := Lib.hid (HBel.out.trans (hb5.mono HBel.out.size))
            clear hb5
            go_wp2_with fail
            go_ret
            exact ⟨rfl, HB5.out⟩
end Go.Proofs.YteediemhcocgdaaDoor
