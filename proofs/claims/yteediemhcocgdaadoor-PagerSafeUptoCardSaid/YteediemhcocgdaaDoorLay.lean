/-
  pager's lay: a page's sector; slices.Equal of bytes.
-/
import Derived.Test.YteediemhcocgdaaDoorBlk
import Derived.Test.YteediemhcocgdaaDoorSealWalk
import Derived.Test.YteediemhcocgdaaDoorNumWalk
import Derived.Test.YteediemhcocgdaaDoorAwake09
import Derived.Deep.QuietTactic
import Derived.BigQuiet
namespace Go.Proofs.YteediemhcocgdaaDoor
open Go.RowKit

/-- A page's sector. -/
def layB (n : Nat) (l : List UInt8) : List UInt8 := SumP.sealed ((SumP.be n 8).drop 4 ++ (SumP.be n 8).take 4 ++ l)
theorem layB_length (n : Nat) (l : List UInt8) (h : l.length = 500) : (layB n l).length = 512 := by
  simp [layB, SumP.sealed_length, SumP.be_length, h]
theorem layB_page (n : Nat) (l : List UInt8) (h : l.length = 500) : ((layB n l).drop 8).take 500 = l := by
  unfold layB SumP.sealed
  rw [List.append_assoc, List.append_assoc, List.drop_append, List.drop_of_length_le (by simp [SumP.be_length])]
  have e1 : (List.drop 4 (SumP.be n 8)).length = 4 := by simp [SumP.be_length]
  rw [e1, List.drop_append, List.drop_of_length_le (by simp [SumP.be_length])]
  have e2 : (List.take 4 (SumP.be n 8)).length = 4 := by simp [SumP.be_length]
  rw [e2]
  simp [h]

/-- A part of bytes of one's own. -/
theorem own_parts {w : World} {base c : Nat} {A : Option Addr} {l : List UInt8} (h : Own w base A c l) (hl : 0 < l.length) : ∃ g, A = some ⟨g, 0, none⟩ ∧ base ≤ g ∧ g < w.heap.size ∧ ∀ i, i < l.length → w.cell? ⟨g, i, none⟩ = some (.int .u8 ((l.getD i 0).toNat : Int)) := by
  obtain ⟨b, off, hA, hb, hc⟩ := h.byt hl
  obtain ⟨g, cs, hA2, hg, _⟩ := h.fresh hl
  rw [hA] at hA2
  injection hA2 with hA2
  injection hA2 with e1 e2
  subst e1 e2
  exact ⟨b, hA, hg, hb, fun i hi => by have := hc i hi; rw [Nat.zero_add] at this; exact this⟩
theorem byt_drop {w : World} {g k B : Nat} {l : List UInt8} (hg : g < B) (hc : ∀ i, i < l.length → w.cell? ⟨g, i, none⟩ = some (.int .u8 ((l.getD i 0).toNat : Int))) : Byt w B (some ⟨g, k, none⟩) (l.drop k) := fun hl => by
  rw [List.length_drop] at hl
  refine ⟨g, k, rfl, hg, fun i hi => ?_⟩
  rw [List.length_drop] at hi
  rw [hc (k + i) (by omega)]
  congr 3
  rw [List.getD_eq_getElem?_getD, List.getD_eq_getElem?_getD, List.getElem?_drop]
theorem byt_take {w : World} {g k B : Nat} {l : List UInt8} (hg : g < B) (hc : ∀ i, i < l.length → w.cell? ⟨g, i, none⟩ = some (.int .u8 ((l.getD i 0).toNat : Int))) : Byt w B (some ⟨g, 0, none⟩) (l.take k) := fun hl => by
  rw [List.length_take] at hl
  refine ⟨g, 0, rfl, hg, fun i hi => ?_⟩
  rw [List.length_take] at hi
  rw [Nat.zero_add, hc i (by omega)]
  congr 3
  rw [List.getD_eq_getElem?_getD, List.getD_eq_getElem?_getD, List.getElem?_take_of_lt (by omega)]

set_option maxHeartbeats 2000000 in
set_option maxRecDepth 100000 in
theorem lay_any (n B : Nat) (A : Option Addr) (c : Nat) (l : List UInt8) (w : World) (hn : n ≤ 1099511627776) (hb : Byt w B A l) (hB : B ≤ w.heap.size) (hnb : Nib w) (h0 : 0 < w.heap.size) (hl : l.length ≤ 100000) :
    Calls Tryd.prog 71 #[.int .i64 n, .slice A l.length c] w fun e w' => ∃ A', e = .returned (.slice A' (layB n l).length (layB n l).length) ∧ Fresh w' w.heap.size A' (layB n l) ∧ Below w.heap.size w w' := by
  go_enter Tryd.func71, Tryd.ntmps71
  go_wp2_with fail
  have hnum := number_ok n 8 w (by omega) (by omega) (by omega) (by omega)
  refine hnum.mono ?_
  rintro e w1 ⟨A1, rfl, hown, hb1⟩
  have hlen : (SumP.be n 8).length = 8 := SumP.be_length n 8
  obtain ⟨g, rfl, hg0, hg1, hc⟩ := own_parts hown (by omega)
  have hs1 := hb1.size
  have HY := Lib.hid (hb.below (hb1.mono hB))
  have HN := Lib.hid (hnb.below hb1 h0)
  have HB1 := Lib.hid hb1
  have HC := Lib.hid hc
  clear hnum hown hb1 hc hb hnb
  have hcat : Calls Tryd.prog 56 #[.slice (some ⟨w1.heap.size, 0, none⟩) 3 3] (w1.alloc (.cells #[.slice (some ⟨g, 4, none⟩) 4 4, .slice (some ⟨g, 0, none⟩) 4 8, .slice A l.length c] 23)).drew
      fun e w' => ∃ A n', e = .returned (.slice A (8 + l.length) n') ∧ Own w' w1.heap.size A n' ((SumP.be n 8).drop 4 ++ (SumP.be n 8).take 4 ++ l) ∧ Below w1.heap.size w1 w' := by
    have hal : Below w1.heap.size w1 (w1.alloc (.cells #[.slice (some ⟨g, 4, none⟩) 4 4, .slice (some ⟨g, 0, none⟩) 4 8, .slice A l.length c] 23)).drew := ((Below.refl _ _).alloc (Nat.le_refl _) _).drew
    have hblk : Blk (w1.alloc (.cells #[.slice (some ⟨g, 4, none⟩) 4 4, .slice (some ⟨g, 0, none⟩) 4 8, .slice A l.length c] 23)).drew w1.heap.size 23 [.slice (some ⟨g, 4, none⟩) 4 4, .slice (some ⟨g, 0, none⟩) 4 8, .slice A l.length c] := Blk.new w1 23 _
    have hsz : (w1.alloc (.cells #[.slice (some ⟨g, 4, none⟩) 4 4, .slice (some ⟨g, 0, none⟩) 4 8, .slice A l.length c] 23)).drew.heap.size = w1.heap.size + 1 := by show (w1.alloc _).heap.size = _; simp
    generalize (w1.alloc (.cells #[.slice (some ⟨g, 4, none⟩) 4 4, .slice (some ⟨g, 0, none⟩) 4 8, .slice A l.length c] 23)).drew = W at hal hblk hsz ⊢
    have hc : ∀ i, i < (SumP.be n 8).length → W.cell? ⟨g, i, none⟩ = some (.int .u8 (((SumP.be n 8).getD i 0).toNat : Int)) := fun i hi => (hal.cell (p := ⟨g, i, none⟩) hg1).trans (HC.out i hi)
    have e4 : ((SumP.be n 8).drop 4).length = 4 := by simp [hlen]
    have e5 : ((SumP.be n 8).take 4).length = 4 := by simp [hlen]
    have hrs : cat [(some ⟨g, 4, none⟩, 4, (SumP.be n 8).drop 4), (some ⟨g, 0, none⟩, 8, (SumP.be n 8).take 4), (A, c, l)] 3 = (SumP.be n 8).drop 4 ++ (SumP.be n 8).take 4 ++ l := by simp [cat]
    have hrl : (cat [(some ⟨g, 4, none⟩, 4, (SumP.be n 8).drop 4), (some ⟨g, 0, none⟩, 8, (SumP.be n 8).take 4), (A, c, l)] 3).length = 8 + l.length := by rw [hrs]; simp [e4, e5]; omega
    have h3 := concat_any (w1.heap.size + 1) w1.heap.size 0 3 [(some ⟨g, 4, none⟩, 4, (SumP.be n 8).drop 4), (some ⟨g, 0, none⟩, 8, (SumP.be n 8).take 4), (A, c, l)] W (by omega) (by omega) (by simp)
      (fun k r hr => by
        rw [Nat.zero_add, hblk.cell]
        match k, hr with
        | 0, hr => obtain rfl := Option.some.inj hr; rw [e4]; rfl
        | 1, hr => obtain rfl := Option.some.inj hr; rw [e5]; rfl
        | 2, hr => obtain rfl := Option.some.inj hr; rfl
        | k + 3, hr => simp at hr)
      (fun k r hr => by
        match k, hr with
        | 0, hr => obtain rfl := Option.some.inj hr; exact byt_drop (by omega) hc
        | 1, hr => obtain rfl := Option.some.inj hr; exact byt_take (by omega) hc
        | 2, hr => obtain rfl := Option.some.inj hr; exact (HY.out.below (hal.mono (by omega))).more (by omega)
        | k + 3, hr => simp at hr) (by show (cat _ 3).length ≤ _; rw [hrl]; omega)
    refine h3.mono ?_
    rintro e w2 ⟨A2, n2, rfl, hown, hb2⟩
    have hown' : Own w2 W.heap.size A2 n2 ((SumP.be n 8).drop 4 ++ (SumP.be n 8).take 4 ++ l) := hrs ▸ hown
    exact ⟨A2, n2, by rw [show (cat _ [(some ⟨g, 4, none⟩, 4, (SumP.be n 8).drop 4), (some ⟨g, 0, none⟩, 8, (SumP.be n 8).take 4), (A, c, l)].length).length = 8 + l.length from hrl], hown'.more (by omega), hal.trans (hb2.mono (by omega))⟩
  have HCAT := Lib.hid hcat
  have hll : ((SumP.be n 8).drop 4 ++ (SumP.be n 8).take 4 ++ l).length = 8 + l.length := by simp [hlen]; omega
  have HLL := Lib.hid hll
  clear hcat hlen hll
  go_wp2_with fail
  go_region_with (first
    | (go_at_call 56; refine HCAT.out.mono ?_; rintro e w2 ⟨A2, n2, rfl, hown2, hb2⟩; have HO2 := Lib.hid hown2; have HB2 := Lib.hid hb2; clear hown2 hb2)
    | (go_at_call 19; rw [← HLL.out]; refine (seal_any _ A2 n2 ((SumP.be n 8).drop 4 ++ (SumP.be n 8).take 4 ++ l) _ HO2.out.byt (Nat.le_refl _) (HN.out.below HB2.out (by omega)) (by rw [HLL.out]; omega) (by have := HB2.out.size; omega)).mono ?_; rintro e w3 ⟨A3, rfl, hf3, hb3⟩; have HF3 := Lib.hid hf3; have HB3 := Lib.hid hb3; clear hf3 hb3))
  all_goals
    go_wp2_with fail
    go_ret
    exact ⟨A3, rfl, HF3.out.more (by have := HB2.out.size; omega), HB1.out.trans ((HB2.out.trans (HB3.out.mono HB2.out.size)).mono hs1)⟩

theorem bytes_eq {a b : List UInt8} (hl : a.length = b.length) (h : ∀ j, j < a.length → a.getD j 0 = b.getD j 0) : a = b := by
  refine List.ext_getElem hl fun i h1 h2 => ?_
  have := h i h1
  rw [List.getD_eq_getElem?_getD, List.getD_eq_getElem?_getD, List.getElem?_eq_getElem h1, List.getElem?_eq_getElem h2] at this
  exact this
set_option maxHeartbeats 2000000 in
set_option maxRecDepth 100000 in
theorem equal_any (w : World) (B1 B2 : Nat) (A1 A2 : Option Addr) (c1 c2 : Nat) (a b : List UInt8) (h1 : Byt w B1 A1 a) (h2 : Byt w B2 A2 b) (l1 : a.length ≤ 140737488355328) (t : Bool) (ht : t = decide (a = b)) :
    Calls Tryd.prog 70 #[.slice A1 a.length c1, .slice A2 b.length c2] w fun e w' => e = .returned (.bool t) ∧ ∃ n, w' = w.drewN n := by
  have HT := Lib.hid ht
  clear ht
  by_cases hl : a.length = b.length
  · have hne : ((a.length : Int) != (b.length : Int)) = false := by simp [hl]
    have HL := Lib.hid hl
    have HA := Lib.hid h1
    have HB := Lib.hid h2
    clear hl h1 h2
    go_enter Tryd.func70, Tryd.ntmps70
    go_wp2_with fail
    go_loopw [13] (fun s5 wr => ∃ (k n : Nat), k ≤ a.length ∧ s5 = .int .i64 k ∧ (∀ j, j < k → a.getD j 0 = b.getD j 0) ∧ wr = w.drewN n) (fun s5 _ => a.length - (intOf s5).toNat)
    case atStart => exact ⟨0, 0, Nat.zero_le _, rfl, fun j hj => by omega, rfl⟩
    case round =>
      obtain ⟨k, n, hk, rfl, hj, rfl⟩ := hrel
      have HJ := Lib.hid hj
      clear hj
      by_cases hlt : k < a.length
      · obtain ⟨g1, o1, rfl, _, hc1⟩ := HA.out (by omega)
        obtain ⟨g2, o2, rfl, _, hc2⟩ := HB.out (by have := HL.out; omega)
        have ha1 := hc1 k hlt
        have hb1 := hc2 k (by have := HL.out; omega)
        have i1 : (0 : Int) ≤ (k : Int) := by omega
        have i2 : (k : Int) < (a.length : Int) := by omega
        have i3 : (k : Int) < (b.length : Int) := by have := HL.out; omega
        have hwk : IntKind.i64.wrap ((k : Int) + 1) = (k : Int) + 1 := IntWalk.i64_in _ (by omega)
        clear hc1 hc2
        by_cases hxy : a.getD k 0 = b.getD k 0
        · have HXY := Lib.hid hxy
          rw [← hxy] at hb1
          clear hxy
          generalize a.getD k 0 = x at ha1 hb1
          go_wp2_with fail
          go_quiet (fail)
          go_wp2_with fail
          refine ⟨⟨k + 1, n + nq, by omega, by go_num, fun j hj => ?_, rfl⟩, by simp [intOf]; omega⟩
          by_cases e : j = k
          · rw [e]; exact HXY.out
          · exact HJ.out j (by omega)
        · have HXY := Lib.hid hxy
          have hs : (((a.getD k 0).toNat : Int) == ((b.getD k 0).toNat : Int)) = false := by
            rw [beq_eq_false_iff_ne]
            intro e
            exact hxy (UInt8.toNat_inj.1 (by omega))
          have hs2 : (((a.getD k 0).toNat : Int) != ((b.getD k 0).toNat : Int)) = true := by
            rw [bne_iff_ne]
            intro e
            exact hxy (UInt8.toNat_inj.1 (by omega))
          clear hxy
          generalize a.getD k 0 = x at ha1 hs hs2
          generalize b.getD k 0 = y at hb1 hs hs2
          go_wp2_with fail
          go_quiet (fail)
          go_wp2_with fail
          go_ret
          refine ⟨?_, n + nq, World.drewN_drewN _ _ _⟩
          rw [HT.out]
          refine ret_bool ?_
          symm
          rw [decide_eq_false_iff_not]
          exact fun e => HXY.out (by rw [e])
      · obtain rfl : k = a.length := by omega
        go_wp2_with fail
        go_ret
        refine ⟨?_, n, rfl⟩
        rw [HT.out, bytes_eq HL.out HJ.out]
        refine ret_bool ?_
        simp
  · have hne : ((a.length : Int) != (b.length : Int)) = true := by simp; omega
    have HL := Lib.hid hl
    clear hl h1 h2
    go_enter Tryd.func70, Tryd.ntmps70
    go_wp2_with fail
    go_ret
    refine ⟨?_, 0, rfl⟩
    rw [HT.out]
    refine ret_bool ?_
    symm
    rw [decide_eq_false_iff_not]
    exact fun e => HL.out (by rw [e])
end Go.Proofs.YteediemhcocgdaaDoor
