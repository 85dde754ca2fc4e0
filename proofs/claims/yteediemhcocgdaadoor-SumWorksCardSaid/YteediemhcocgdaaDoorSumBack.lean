/-
  blotterlaw09.SumBack answers true, whatever the bytes and numbers.
-/
import Derived.Test.YteediemhcocgdaaDoorAwake09
namespace Go.Proofs.YteediemhcocgdaaDoor
open Go.RowKit

/-- Which numbers fit. -/
def BadNum (n s : Int) : Prop := s < 1 ∨ 8 < s ∨ n < 0 ∨ (s < 8 ∧ 2 ^ (8 * s.toNat) ≤ n)

theorem good_num (x s : Int) (hx : x ≤ 9223372036854775807) (h : ¬ BadNum x s) : ∃ k j : Nat, x = k ∧ s = j ∧ 1 ≤ j ∧ j ≤ 8 ∧ k ≤ 9223372036854775807 ∧ k < 2 ^ (8 * j) := by
  unfold BadNum at h
  refine ⟨x.toNat, s.toNat, by omega, by omega, by omega, by omega, by omega, ?_⟩
  by_cases h8 : s < 8
  · have h1 : x < 2 ^ (8 * s.toNat) := by
      rcases Int.lt_or_le x (2 ^ (8 * s.toNat)) with h2 | h2
      · exact h2
      · exact absurd (.inr (.inr (.inr ⟨h8, h2⟩))) h
    have h3 : ((x.toNat : Nat) : Int) < ((2 ^ (8 * s.toNat) : Nat) : Int) := by
      rw [Int.toNat_of_nonneg (by omega)]
      simpa using h1
    exact Int.ofNat_lt.1 h3
  · obtain h : s.toNat = 8 := by omega
    rw [h]
    omega

set_option maxHeartbeats 2000000 in
set_option maxRecDepth 100000 in
theorem back_any (B : Nat) (A1 A2 : Option Addr) (c1 c2 : Nat) (b c : List UInt8) (n s : Int) (w : World) (hb : Byt w B A1 b) (hc : Byt w B A2 c) (hB : B ≤ w.heap.size) (hn : Nib w) (h0 : 0 < w.heap.size)
    (hlb : b.length ≤ 140737488351232) (hlc : c.length ≤ 140737488351232) (hcc : c.length ≤ c2) (hc2 : c2 ≤ 9223372036854775807) (hn63 : n ≤ 9223372036854775807) :
    Calls Tryd.prog 5 #[.slice A1 b.length c1, .slice A2 c.length c2, .int .i64 n, .int .i64 s] w fun e w' => e = .returned (.bool true) ∧ Below w.heap.size w w' := by
  go_enter Tryd.func5, Tryd.ntmps5
  go_wp2_with fail
  refine (awake09_any w hn h0).mono ?_
  rintro e w1 ⟨rfl, hb1⟩
  have hb' := (hb.below (hb1.mono hB))
  have hn1 := hn.below hb1 h0
  have h01 : 0 < w1.heap.size := by have := hb1.size; omega
  have HB1 := Lib.hid hb1
  clear hb1
  go_wp2_with fail
  refine (seal_any B A1 c1 b w1 hb' (by have := HB1.out.size; omega) hn1 (by omega) h01).mono ?_
  rintro e w2 ⟨A, rfl, hf, hb2⟩
  have hn2 := hn1.below hb2 h01
  have hby := hf.byt
  have HB2 := Lib.hid (HB1.out.trans (hb2.mono HB1.out.size))
  have hlen : (SumP.sealed b).length ≤ 140737488355328 := by rw [SumP.sealed_length]; omega
  clear hb2 hf
  go_wp2_with fail
  refine (open_some w2.heap.size A (SumP.sealed b).length (SumP.sealed b) b w2 hby (Nat.le_refl _) (Nat.le_refl _) hn2 hlen (by have := HB2.out.size; omega) (by omega) (SumP.openR_sealed b)).mono ?_
  rintro e w3 ⟨A', n', rfl, hown, hb3⟩
  have hs1 := hown.byt.str n'
  have HB3 := Lib.hid (HB2.out.trans (hb3.mono HB2.out.size))
  have hs2 := (hb.below (HB3.out.mono hB)).str c1
  have hn3 := hn.below HB3.out h0
  clear hb3 hown hby hlen
  go_wp2_with fail
  have h03 : 0 < w3.heap.size := by have := HB3.out.size; omega
  have hc3 := hc.below (HB3.out.mono hB)
  clear hs1 hs2 hb' hn1 hn2
  rcases ho : SumP.openR c with _ | y
  · refine (open_none B A2 c2 c w3 hc3 (by have := HB3.out.size; omega) hcc hn3 (by omega) h03 hc2 ho).mono ?_
    rintro e w4 ⟨rfl, hb4⟩
    have HB4 := Lib.hid (HB3.out.trans (hb4.mono HB3.out.size))
    have HO := Lib.hid ho
    clear ho hb4
    go_wp2_with fail
    go_quiet (fail)
    go_wp2_with fail
    have hb5 := below_drewN HB4.out nq
    generalize w4.drewN nq = w5 at hb5 ⊢
    by_cases hbad : BadNum n s
    · have HBD := Lib.hid hbad
      have HB5 := Lib.hid hb5
      clear hbad hb5
      refine (number_bad n s w5 HBD.out).mono ?_
      rintro e w6 ⟨rfl, rfl⟩
      go_wp2_with fail
      go_ret
      exact ⟨rfl, HB5.out⟩
    · obtain ⟨k, j, rfl, rfl, hj1, hj8, hk63, hkp⟩ := good_num n s hn63 hbad
      have HB5 := Lib.hid hb5
      have HKP := Lib.hid hkp
      have hbl := SumP.be_length k j
      clear hbad hb5 hkp
      refine (number_ok k j w5 hj1 hj8 hk63 HKP.out).mono ?_
      rintro e w6 ⟨A6, rfl, hown6, hb6⟩
      have hy6 := hown6.byt
      have HB6 := Lib.hid (HB5.out.trans (hb6.mono HB5.out.size))
      have hrd := SumP.rdR_between k j hj1 hj8 HKP.out hk63
      clear hown6 hb6 HKP
      generalize SumP.be k j = z at hy6 hbl hrd
      subst hbl
      have HRD := Lib.hid hrd
      have hl6 : w.heap.size ≤ w6.heap.size := HB6.out.size
      have hown7 : Own (w6.alloc (.cells #[Value.int .u8 7] 5)) w.heap.size (some ⟨w6.heap.size, 0, none⟩) 1 [7] := Own.of_blk (l := [7]) (Blk.new w6 5 [Value.int .u8 7]) hl6 (by simp [maxLen])
      have hy7 : Byt (w6.alloc (.cells #[Value.int .u8 7] 5)) w6.heap.size A6 z := hy6.below ((Below.refl _ _).alloc (Nat.le_refl _) _)
      have HB7 : Hid (Below w.heap.size w (w6.alloc (.cells #[Value.int .u8 7] 5))) := HB6.out.alloc hl6 _
      clear hrd
      go_wp2_with (first
        | (at_builtin; refine wp_append_bytes rfl (.tmp 64) (.tmp 65) rfl w.heap.size (some ⟨w6.heap.size, 0, none⟩) 1 [7] w6.heap.size A6 z.length z rfl rfl hown7 hy7 (by simp; omega) HB7.out.size ?_; intro A8 n8 w8 hown8 hg8 hat8; have HB8 : Hid (Below w.heap.size w w8) := (hown7.grown_below HB7.out hg8 HB7.out.size); have hown9 : Own (w8.alloc (.cells #[Value.int .u8 9] 5)) w.heap.size A8 n8 ([7] ++ z) := World.ownsRow.alloc hown8 _; have HB9 : Hid (Below w.heap.size w (w8.alloc (.cells #[Value.int .u8 9] 5))) := HB8.out.alloc HB8.out.size _; clear hg8 hat8 hown8)
        | (at_builtin; refine wp_append_bytes rfl (.tmp 66) (.tmp 67) rfl w.heap.size A8 n8 ([7] ++ z) (w8.heap.size + 1) (some ⟨w8.heap.size, 0, none⟩) 1 [9] rfl rfl hown9 (byt_new w8 5 (0, 0) [9]) (by simp; omega) HB9.out.size ?_; intro A10 n10 w10 hown10 hg10 hat10; have HB10 : Hid (Below w.heap.size w w10) := (hown9.grown_below HB9.out hg10 HB9.out.size); clear hg10 hat10))
      have hle := hown10.len_le
      have hy10 := hown10.byt
      clear hown10 hown9 hown7 hy7
      rw [show z.length + 1 + 1 = ([7] ++ z ++ [9]).length by simp]
      refine (read_any w10.heap.size A10 n10 ([7] ++ z ++ [9]) 1 z.length w10 hy10 hle.1 hle.2).mono ?_
      rintro e w11 ⟨rfl, rfl⟩
      rw [HRD.out]
      clear hy10 hle
      go_wp2_with fail
      go_ret
      exact ⟨rfl, HB10.out⟩
  · refine (open_some B A2 c2 c y w3 hc3 (by have := HB3.out.size; omega) hcc hn3 (by omega) h03 hc2 ho).mono ?_
    rintro e w4 ⟨A4, n4, rfl, hown, hb4⟩
    have hy4 := hown.byt
    have hn4 := hn3.below hb4 h03
    have hk := SumP.sealed_of_openR ho
    have hly : y.length + 4 = c.length := by rw [← hk, SumP.sealed_length]
    have HB4 := Lib.hid (HB3.out.trans (hb4.mono HB3.out.size))
    have h04 : 0 < w4.heap.size := by have := HB4.out.size; omega
    have HK := Lib.hid hk
    have HO := Lib.hid ho
    have hl2 : y.length ≤ 140737488355324 := by omega
    have HL := Lib.hid hly
    clear ho hb4 hk hly
    go_wp2_with fail
    have hx0 := (hc.below (HB4.out.drew.mono hB)).str c2
    go_region_with (go_at_call 19; refine (seal_any w4.heap.size A4 n4 y w4.drew hy4 (Nat.le_refl _) hn4 hl2 h04).mono ?_; rintro e w5 ⟨A5, rfl, hf5, hbb⟩; have hb5 : Below w.heap.size w w5 := HB4.out.trans ((show Below w4.heap.size w4 w5 from ⟨hbb.os, hbb.tape, hbb.output, hbb.size, hbb.block⟩).mono HB4.out.size); have hx5 := (hc.below (hb5.mono hB)).str c2; have hz5 := hf5.byt.str (SumP.sealed y).length; have hst : (⟨(SumP.sealed y).toArray⟩ : ByteArray) = ⟨c.toArray⟩ := (by rw [HK.out]); rw [hst] at hz5; clear hst)
    all_goals
      clear hx5 hz5 hf5 hbb hx0
      go_wp2_with fail
      by_cases hbad : BadNum n s
      · have HBD := Lib.hid hbad
        have HB5 := Lib.hid hb5
        clear hbad hb5
        refine (number_bad n s w5 HBD.out).mono ?_
        rintro e w6 ⟨rfl, rfl⟩
        go_wp2_with fail
        go_ret
        exact ⟨rfl, HB5.out⟩
      · obtain ⟨k, j, rfl, rfl, hj1, hj8, hk63, hkp⟩ := good_num n s hn63 hbad
        have HB5 := Lib.hid hb5
        have HKP := Lib.hid hkp
        have hbl := SumP.be_length k j
        clear hbad hb5 hkp
        refine (number_ok k j w5 hj1 hj8 hk63 HKP.out).mono ?_
        rintro e w6 ⟨A6, rfl, hown6, hb6⟩
        have hy6 := hown6.byt
        have HB6 := Lib.hid (HB5.out.trans (hb6.mono HB5.out.size))
        have hrd := SumP.rdR_between k j hj1 hj8 HKP.out hk63
        clear hown6 hb6 HKP
        generalize SumP.be k j = z at hy6 hbl hrd
        subst hbl
        have HRD := Lib.hid hrd
        have hl6 : w.heap.size ≤ w6.heap.size := HB6.out.size
        have hown7 : Own (w6.alloc (.cells #[Value.int .u8 7] 5)) w.heap.size (some ⟨w6.heap.size, 0, none⟩) 1 [7] := Own.of_blk (l := [7]) (Blk.new w6 5 [Value.int .u8 7]) hl6 (by simp [maxLen])
        have hy7 : Byt (w6.alloc (.cells #[Value.int .u8 7] 5)) w6.heap.size A6 z := hy6.below ((Below.refl _ _).alloc (Nat.le_refl _) _)
        have HB7 : Hid (Below w.heap.size w (w6.alloc (.cells #[Value.int .u8 7] 5))) := HB6.out.alloc hl6 _
        clear hrd
        go_wp2_with (first
          | (at_builtin; refine wp_append_bytes rfl (.tmp 64) (.tmp 65) rfl w.heap.size (some ⟨w6.heap.size, 0, none⟩) 1 [7] w6.heap.size A6 z.length z rfl rfl hown7 hy7 (by simp; omega) HB7.out.size ?_; intro A8 n8 w8 hown8 hg8 hat8; have HB8 : Hid (Below w.heap.size w w8) := (hown7.grown_below HB7.out hg8 HB7.out.size); have hown9 : Own (w8.alloc (.cells #[Value.int .u8 9] 5)) w.heap.size A8 n8 ([7] ++ z) := World.ownsRow.alloc hown8 _; have HB9 : Hid (Below w.heap.size w (w8.alloc (.cells #[Value.int .u8 9] 5))) := HB8.out.alloc HB8.out.size _; clear hg8 hat8 hown8)
          | (at_builtin; refine wp_append_bytes rfl (.tmp 66) (.tmp 67) rfl w.heap.size A8 n8 ([7] ++ z) (w8.heap.size + 1) (some ⟨w8.heap.size, 0, none⟩) 1 [9] rfl rfl hown9 (byt_new w8 5 (0, 0) [9]) (by simp; omega) HB9.out.size ?_; intro A10 n10 w10 hown10 hg10 hat10; have HB10 : Hid (Below w.heap.size w w10) := (hown9.grown_below HB9.out hg10 HB9.out.size); clear hg10 hat10))
        have hle := hown10.len_le
        have hy10 := hown10.byt
        clear hown10 hown9 hown7 hy7
        rw [show z.length + 1 + 1 = ([7] ++ z ++ [9]).length by simp]
        refine (read_any w10.heap.size A10 n10 ([7] ++ z ++ [9]) 1 z.length w10 hy10 hle.1 hle.2).mono ?_
        rintro e w11 ⟨rfl, rfl⟩
        rw [HRD.out]
        clear hy10 hle
        go_wp2_with fail
        go_ret
        exact ⟨rfl, HB10.out⟩
end Go.Proofs.YteediemhcocgdaaDoor
