/-
  A pool on a disk: a frozen page read.
-/
import Derived.Test.YteediemhcocgdaaDoorPoolDisk
namespace Go.Proofs.YteediemhcocgdaaDoor
open Go.RowKit

theorem Dk.now_len {K : Nat → Prop} {w : World} {bb : Nat} {V : DV} (h : Dk K w bb V) (x : Int) : (V.now x).length = 512 := by
  obtain ⟨⟨S, rfl, ha, hok, hf⟩, hl⟩ := h
  show (secL (S.nw x)).length = 512
  cases hx : S.nw x with
  | none => exact z512_length
  | some q => exact (ha.nat x q hx).1
set_option maxHeartbeats 1000000 in
set_option maxRecDepth 100000 in
theorem dread_down {K : Nat → Prop} {w : World} {bb : Nat} {V : DV} (h : Dk K w bb V) (x : Int) (db : Nat) (hdn : V.down = true) (hdb : w.cell? ⟨db, 0, none⟩ = some (.pointer (some ⟨bb, 0, none⟩))) :
    Calls Tryd.prog 69 #[.pointer (some ⟨db, 0, none⟩), .int .i64 x] w fun e w' => e = .returned (.tuple #[.slice none 0 0, .iface 24 (.int .i64 5)]) ∧ w = w' := by
  have e7 := h.cells.2.2.2.1
  rw [hdn] at e7
  clear h
  go_enter Tryd.func69, Tryd.ntmps69
  go_wp2_with fail
  go_ret2
  exact ⟨rfl, rfl⟩

/-- What reading a frozen page leaves. -/
def ReadF (V : PV) (VD : DV) (n : Nat) (w : World) (e : Ending) (w' : World) : Prop :=
  Below w.heap.size w w' ∧
    ((layB n (((VD.now (V.frm + n)).drop 8).take 500) = VD.now (V.frm + n) ∧ ∃ A c, e = .returned (.tuple #[.slice A 500 c, .nilIface]) ∧ Own w' w.heap.size A c (((VD.now (V.frm + n)).drop 8).take 500)) ∨
      (layB n (((VD.now (V.frm + n)).drop 8).take 500) ≠ VD.now (V.frm + n) ∧ e = .returned (.tuple #[.slice none 0 0, .iface 24 (.int .i64 130)])))
set_option maxHeartbeats 2000000 in
set_option maxRecDepth 100000 in
theorem pread_frozen {K : Nat → Prop} {w : World} {p bb : Nat} {V : PV} {VD : DV} (h : PD K w p V bb VD) (db : Nat) (hd : V.d = .pointer (some ⟨db, 0, none⟩)) (hdb : w.cell? ⟨db, 0, none⟩ = some (.pointer (some ⟨bb, 0, none⟩))) (hn : Nib w) (h0 : 0 < w.heap.size)
    (hf0 : 0 ≤ V.frm) (n : Nat) (hp : V.pg n = none) (hfr : V.fr n = true) (hnb : V.frm + n < VD.n) (hdn : VD.down = false) :
    Calls Tryd.prog 48 #[.pointer (some ⟨p, 0, none⟩), .int .i64 (n : Int)] w (ReadF V VD n w) := by
  have hnM := h.bounds.2.1
  obtain ⟨S, hv, ha, hok, hf, hdk⟩ := h.disk
  obtain ⟨c0, c1, c2, c3, c4, c5, c6, c7⟩ := ha.cell
  have hI : I64 (n : Int) := i64_of (by omega) (by omega)
  have e0 : S.d = V.d := by rw [← hv]; rfl
  have e1 : S.frm = V.frm := by rw [← hv]; rfl
  have e2 : S.pg (n : Int) = none := by rw [← hp, ← hv]; rfl
  have e3 : S.fr (n : Int) = true := by rw [← hfr, ← hv]; rfl
  rw [e0, hd] at c0
  rw [e1] at c1
  have hlT := ha.lookT hI 0
  rw [show w.drewN 0 = w from rfl, show pageF S.pg (n : Int) = none by unfold pageF; rw [e2]; rfl] at hlT
  have hlF := ha.lookF hI 0
  rw [show w.drewN 0 = w from rfl, e3] at hlF
  have hwf : IntKind.i64.wrap (V.frm + (n : Int)) = V.frm + n := IntWalk.i64_in _ (by omega)
  have hlen := hdk.now_len (V.frm + n)
  have HD := Lib.hid hdk
  have HN := Lib.hid hn
  have HL := Lib.hid hlen
  have HDB := Lib.hid hdb
  clear h hv ha hok hf hdk e0 e1 e2 e3 hd hp hfr hn hlen hdb
  go_enter Tryd.func48, Tryd.ntmps48
  go_wp2_with fail
  go_region_held3 (fun W => W.cell? ⟨p, 0, none⟩ = some (.pointer (some ⟨db, 0, none⟩)) ∧ W.cell? ⟨p, 1, none⟩ = some (.int .i64 V.frm))
    (first | exact ⟨c0, c1⟩ | exact ⟨(HB1.out.cell (p := ⟨p, 0, none⟩) (cell_lt c0)).trans c0, (HB1.out.cell (p := ⟨p, 1, none⟩) (cell_lt c1)).trans c1⟩)
    (first | (go_at_call 69; refine (dread_v (HD.out.drewN 1) (V.frm + n) db (by omega) hnb hdn HDB.out).mono ?_; rintro e w1 ⟨g, rfl, hg, hblk, hb1⟩; have HB1 : Hid (Below w.heap.size w w1) := Lib.hid ⟨hb1.os, hb1.tape, hb1.output, hb1.size, hb1.block⟩; have HBL := Lib.hid hblk; have hg1 : w.heap.size ≤ g := hg; clear hblk hb1 hg))
  clear c0 c1 c2 c3 c4 c5 c6 c7 hlT hlF hwf
  generalize hX : VD.now (V.frm + (n : Int)) = X at *
  have HX := Lib.hid hX
  clear hX
  obtain ⟨l, hl⟩ : ∃ l, l = (X.drop 8).take 500 := ⟨_, rfl⟩
  have hl5 : l.length = 500 := by rw [hl]; simp [HL.out]
  have hcell : ∀ i, i < X.length → w1.cell? ⟨g, i, none⟩ = some (.int .u8 ((X.getD i 0).toNat : Int)) := fun i hi => by
    rw [HBL.out.cell, List.getElem?_map, List.getElem?_eq_getElem hi, List.getD_eq_getElem?_getD, List.getElem?_eq_getElem hi]
    rfl
  have hgl : g < w1.heap.size := HBL.out.lt
  have hbl : Byt w1 w1.heap.size (some ⟨g, 8, none⟩) l := by
    rw [hl]
    intro hp
    refine ⟨g, 8, rfl, hgl, fun i hi => ?_⟩
    rw [List.length_take, List.length_drop] at hi
    rw [hcell (8 + i) (by omega)]
    congr 3
    rw [List.getD_eq_getElem?_getD, List.getD_eq_getElem?_getD, List.getElem?_take_of_lt (by omega), List.getElem?_drop]
  have hbX : Byt w1 w1.heap.size (some ⟨g, 0, none⟩) X := fun hp => ⟨g, 0, rfl, hgl, fun i hi => by rw [Nat.zero_add]; exact hcell i hi⟩
  have hs1 := HB1.out.size
  have hlay := lay_any n w1.heap.size (some ⟨g, 8, none⟩) 504 l w1 (by omega) hbl (Nat.le_refl _) (HN.out.below HB1.out h0) (by omega) (by omega)
  rw [hl5, layB_length n l hl5] at hlay
  have HLAY := Lib.hid hlay
  have HBL2 := Lib.hid hbl
  have HBX := Lib.hid hbX
  have HLL := Lib.hid hl
  have HL5 := Lib.hid hl5
  clear hlay hbl hbX hl hl5 hcell
  go_wp2_with fail
  refine HLAY.out.mono ?_
  rintro e w2 ⟨A2, rfl, hfr, hb2⟩
  have HB2 := Lib.hid hb2
  have HBY2 := Lib.hid hfr.byt
  have hs2 := hb2.size
  clear hfr hb2
  obtain ⟨t, ht⟩ : ∃ t, t = decide (layB n l = X) := ⟨_, rfl⟩
  have heq := equal_any w2 w2.heap.size w1.heap.size A2 (some ⟨g, 0, none⟩) 512 512 (layB n l) X HBY2.out (HBX.out.below HB2.out) (by rw [layB_length n l HL5.out]; omega) t ht
  rw [layB_length n l HL5.out, HL.out] at heq
  have HEQ := Lib.hid heq
  have HT := Lib.hid ht
  clear heq ht
  go_wp2_with fail
  refine HEQ.out.mono ?_
  rintro e w3 ⟨rfl, n3, rfl⟩
  have hB3 : Below w.heap.size w (w2.drewN n3) := below_drewN (HB1.out.trans (HB2.out.mono hs1)) n3
  have hcl := clone_any w1.heap.size ⟨g, 8, none⟩ 504 l (w2.drewN n3) (HBL2.out.below (below_drewN HB2.out n3)) hs2 (by rw [HL5.out]; omega)
  rw [HL5.out] at hcl
  have HB3 := Lib.hid hB3
  have HCL := Lib.hid hcl
  clear hcl hB3
  cases t
  · have hne : layB n l ≠ X := fun e => by have := HT.out; rw [e] at this; simp at this
    rw [HLL.out] at hne
    have HNE := Lib.hid hne
    clear hne
    go_wp2_with fail
    go_ret2
    refine ⟨HB3.out, .inr ⟨?_, rfl⟩⟩
    rw [HX.out]
    exact HNE.out
  · have he : layB n l = X := of_decide_eq_true HT.out.symm
    rw [HLL.out] at he
    have HE := Lib.hid he
    clear he
    generalize w2.drewN n3 = w3 at *
    go_wp2_with fail
    refine HCL.out.mono ?_
    rintro e w4 ⟨A4, c4, rfl, hown, hb4⟩
    have HO := Lib.hid hown
    have HB4 := Lib.hid hb4
    clear hown hb4
    go_wp2_with fail
    go_ret2
    refine ⟨HB3.out.trans (HB4.out.mono HB3.out.size), .inl ⟨?_, A4, c4, rfl, ?_⟩⟩
    · rw [HX.out]; exact HE.out
    · rw [HX.out, ← HLL.out]
      exact HO.out.more HB3.out.size
end Go.Proofs.YteediemhcocgdaaDoor
