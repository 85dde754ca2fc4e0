/-
  What blotterlaw13.awake answers: true.
-/
import Derived.Test.YteediemhcocgdaaDoorPoolV
import Derived.Test.YteediemhcocgdaaDoorAwake09
namespace Go.Proofs.YteediemhcocgdaaDoor
open Go.RowKit
open HeapP (at_)

theorem keep13 : KeepOK [1, 3] 8 := by
  intro i hi
  have : i = 0 ∨ i = 1 := by simp at hi; omega
  rcases this with rfl | rfl <;> decide

theorem iarg_new (w : World) (t : TypeId) (l : List Int) : IArg (w.alloc (.cells (l.map ci).toArray t)) (w.heap.size + 1) (some ⟨w.heap.size, 0, none⟩) l := fun _ => ⟨_, 0, rfl, by omega, fun i hi => by
  rw [cell_of_row _ _ _ _ t _ (heap_alloc_new w _), Nat.zero_add, List.getElem?_toArray, List.getElem?_map, List.getElem?_eq_getElem hi]
  rw [HeapP.at_eq l i hi]
  rfl⟩

theorem awk1_free (d : Value) : (PV.open_ d 2 8 [1, 3]).free 0 := ⟨by decide, (show (0 : Int) < 8 by decide), rfl, rfl, rfl⟩
theorem awk1 (d : Value) (n : Int) (h : (PV.open_ d 2 8 [1, 3]).free n) (hl : ∀ x, (PV.open_ d 2 8 [1, 3]).free x → n ≤ x) : n = 0 := by
  have h1 := h.1
  have h2 := hl 0 (awk1_free d)
  omega
theorem awk2_free (d : Value) (g : Nat) : ((PV.open_ d 2 8 [1, 3]).tk 0 g).free 2 := ⟨by decide, (show (2 : Int) < 8 by decide), rfl, rfl, rfl⟩
theorem awk2 (d : Value) (g : Nat) (n : Int) (h : ((PV.open_ d 2 8 [1, 3]).tk 0 g).free n) (hl : ∀ x, ((PV.open_ d 2 8 [1, 3]).tk 0 g).free x → n ≤ x) : n = 2 := by
  have h1 := h.1
  have h2 := hl 2 (awk2_free d g)
  have h0 : n ≠ 0 := by rintro rfl; exact absurd h.2.2.1 (by intro h; cases h)
  have h3 : n ≠ 1 := by rintro rfl; exact absurd h.2.2.2.1 (by intro h; cases h)
  omega

theorem ErrH.drewN {w : World} (h : ErrH w) (n : Nat) : ErrH (w.drewN n) := h

set_option maxHeartbeats 2000000 in
set_option maxRecDepth 100000 in
theorem awake13_any (w : World) (hg : ErrH w) (h1 : 1 < w.heap.size) :
    Calls Tryd.prog 29 #[] w fun e w' => e = .returned (.bool true) ∧ Below w.heap.size w w' := by
  have HG := Lib.hid hg
  clear hg
  go_enter Tryd.func29, Tryd.ntmps29
  go_wp2_with fail
  refine (new_any 10 w (by omega)).mono ?_
  rintro e w1 ⟨hb, bb, sb, nb, rfl, hn⟩
  have HN := Lib.hid hn
  clear hn
  go_wp2_with fail
  refine (hdisk_any hb bb w1 HN.out.hand).mono ?_
  rintro e w2 ⟨rfl, hw2⟩
  have hbel2 : Below w1.heap.size w1 w2 := by rw [hw2]; exact (Below.refl _ _).alloc (Nat.le_refl _) _
  have hbb2 : w2.cell? ⟨bb, 0, none⟩ = some (.int .i64 10) := (HN.out.box.below hbel2 HN.out.box.lt).cell 0
  have hbd2 : Blk w2 w1.heap.size 100 [.pointer (some ⟨bb, 0, none⟩)] := by rw [hw2]; exact Blk.new w1 100 _
  have HB2 := Lib.hid hbel2
  have HD2 := Lib.hid hbd2
  have HBB2 := Lib.hid hbb2
  clear hw2 hbel2 hbd2 hbb2
  go_wp2_with fail
  have hia := iarg_new w2 3 [1, 3]
  have hbel3 : Below w2.heap.size w2 (w2.alloc (.cells (([1, 3] : List Int).map ci).toArray 3)) := (Below.refl _ _).alloc (Nat.le_refl _) _
  have hbd3 := (HD2.out.below hbel3 HD2.out.lt).cell 0
  have hbb3 := (hbel3.cell (p := ⟨bb, 0, none⟩) (Nat.lt_of_lt_of_le HN.out.box.lt HB2.out.size)).trans HBB2.out
  refine (open_v w1.heap.size bb (w2.heap.size + 1) 2 8 10 (some ⟨w2.heap.size, 0, none⟩) 2 [1, 3] (w2.alloc (.cells (([1, 3] : List Int).map ci).toArray 3)) hbd3 hbb3 hia (by simp) (by omega) (by omega) (by omega) (by omega) (by omega) (by omega) (by simp)).mono ?_
  rintro e w3 ⟨hb3, ⟨_, p, rfl, hp⟩ | ⟨hno, _⟩⟩
  · have hbel : Below w1.heap.size w1 w3 := (HB2.out.trans ((Below.refl _ _).alloc HB2.out.size _)).trans (hb3.mono (by simp; have := HB2.out.size; omega))
    have HB3 := Lib.hid hbel
    have HP := Lib.hid hp
    clear hia hbel3 hbd3 hbb3 hb3 hp hbel
    go_wp2_with fail
    refine (take_v HP.out).mono ?_
    rintro e w4 ⟨hk4, ⟨hno, _⟩ | ⟨n, g, hf, hle, rfl, hp4⟩⟩
    · exact absurd (awk1_free _) (hno 0)
    obtain rfl := awk1 _ n hf hle
    have HP4 := Lib.hid hp4
    have HK4 := Lib.hid hk4
    clear hk4 hf hle hp4
    go_wp2_with fail
    refine (take_v HP4.out).mono ?_
    rintro e w5 ⟨hk5, ⟨hno, _⟩ | ⟨n, g2, hf, hle, rfl, hp5⟩⟩
    · exact absurd (awk2_free _ g) (hno 2)
    obtain rfl := awk2 _ g n hf hle
    have HP5 := Lib.hid hp5
    have HK5 := Lib.hid (HK4.out.trans hk5)
    clear hk5 hf hle hp5
    have kc := fun (w : World) (C : Array Value) (n c : Nat) => Lib.run_convert_bytes_const (P := Tryd.prog) w 23 5 C n c Tryd.underlying23 Tryd.underlying5
    go_wp2_with fail
    have hby := byt_new w5 5 (1, 2) [97]
    have hal : Below w5.heap.size w5 (w5.alloc (.cells #[.int .u8 97] 5 (1, 2))) := (Below.refl _ _).alloc (Nat.le_refl _) _
    refine (write_v (HP5.out.keep hal) (x := 0) (by decide) (g := g) (l := zeros 500) rfl _ _ 1 [97] hby (by simp)).mono ?_
    rintro e w6 ⟨rfl, hk6, hp6⟩
    have HP6 := Lib.hid hp6
    have HK6 := Lib.hid ((HK5.out.trans (Kept.of_below hal HP5.out.lt)).trans hk6)
    clear hby hal hk6 hp6
    go_wp2_with fail
    have hal : Below w6.heap.size w6 (w6.alloc (.cells #[.int .u8 97] 5 (1, 2))) := (Below.refl _ _).alloc (Nat.le_refl _) _
    refine (write_none_v (HP6.out.keep hal) (x := 1) (by decide) _ rfl).mono ?_
    rintro e w7 ⟨rfl, rfl⟩
    have HP7 := Lib.hid (HP6.out.keep hal)
    have HK7 := Lib.hid (HK6.out.trans (Kept.of_below hal HP6.out.lt))
    clear hal
    go_wp2_with fail
    refine (read_v HP7.out (x := 0) (by decide) (g := g) (l := wrote [97]) rfl).mono ?_
    rintro e w8 ⟨A', c', rfl, hown, hb8⟩
    rw [show (wrote [97]).length = 500 by decide]
    obtain ⟨b8, o8, rfl, hb8l, hc8⟩ := hown.byt (by decide)
    have hc80 : w8.cell? ⟨b8, o8, none⟩ = some (.int .u8 97) := by have := hc8 0 (by decide); exact this
    have hge := (hown.blk_le b8 rfl).1
    have hp8 := HP7.out.more (K' := fun b => b < w2.heap.size + 1 ∨ b = b8) hb8 (fun b hb => by
      rcases hb with h | h
      · exact .inl (by simpa using h)
      · exact .inr ⟨by omega, by omega⟩)
    have HC8 := Lib.hid hc80
    have HK8 := Lib.hid (HK7.out.trans (Kept.of_below hb8 HP7.out.lt))
    have HP8 := Lib.hid hp8
    clear hown hb8 hc8 hc80 hp8
    go_wp2_with fail
    refine (drop_v HP8.out (x := 1) (by decide)).mono ?_
    rintro e w9 ⟨hk9, ⟨⟨q, hq⟩, _⟩ | ⟨_, _, rfl, hp9⟩ | ⟨_, hq, _⟩⟩
    · cases hq
    · have hw1 : w1.heap.size ≤ w2.heap.size := HB2.out.size
      have hcell : w9.cell? ⟨b8, o8, none⟩ = some (.int .u8 97) := (World.cell?_of_block (hk9.block b8 hb8l (fun hn => hn (.inr rfl)))).trans HC8.out
      have hb8l9 : b8 < w9.heap.size := Nat.lt_of_lt_of_le hb8l hk9.size
      have hbel39 : Below w1.heap.size w1 w9 := HB3.out.trans ((HK8.out.trans (hk9.mono (K' := fun b => b < (w2.alloc (Obj.cells (([1, 3] : List Int).map ci).toArray 3)).heap.size) (fun b hb => .inl (by simpa using hb)))).below (B := w1.heap.size) (fun b hb => by simp; omega) HB3.out.size)
      have hand9 : Blk w9 hb 93 [.pointer (some ⟨bb, 0, none⟩)] := HN.out.hand.below hbel39 HN.out.hand.lt
      have hbox9 := HN.out.box.below hbel39 HN.out.box.lt
      have HP9 := Lib.hid hp9
      have hbelw : Below w.heap.size w w9 := HN.out.below.trans (hbel39.mono HN.out.below.size)
      have HBW := Lib.hid hbelw
      have HBX := Lib.hid hbox9
      clear hk9 hbel39 hbox9 hp9 hbelw hw1
      go_wp2_with fail
      refine (hdisk_any hb bb w9 hand9).mono ?_
      rintro e w10 ⟨rfl, hw10⟩
      have hbel10 : Below w9.heap.size w9 w10 := by rw [hw10]; exact (Below.refl _ _).alloc (Nat.le_refl _) _
      have hc10 : w10.cell? ⟨b8, o8, none⟩ = some (.int .u8 97) := (hbel10.cell (p := ⟨b8, o8, none⟩) hb8l9).trans hcell
      have hd10 : w10.cell? ⟨w9.heap.size, 0, none⟩ = some (.pointer (some ⟨bb, 0, none⟩)) := by rw [hw10]; exact (Blk.new w9 100 [.pointer (some ⟨bb, 0, none⟩)]).cell 0
      have hb10 : w10.cell? ⟨bb, 0, none⟩ = some (.int .i64 10) := (HBX.out.below hbel10 HBX.out.lt).cell 0
      have HP10 := Lib.hid (HP9.out.keep hbel10)
      have HB10 : Hid (Below w.heap.size w w10) := Lib.hid (HBW.out.trans (hbel10.mono HBW.out.size))
      clear hw10 hbel10 hcell hand9
      go_wp2_with fail
      refine (popen_bad w9.heap.size bb 2 9 10 _ w10 hd10 hb10 (by omega) (by omega) (by omega) (by omega) (by omega) (by omega)).mono ?_
      rintro e w11 ⟨rfl, rfl⟩
      clear hd10 hb10
      go_wp2_with fail
      refine (free_v HP10.out).mono ?_
      rintro e w11 ⟨he, n11, rfl⟩
      have he' : e = .returned (.int .i64 4) := he
      subst he'
      clear he
      go_wp2_with fail
      refine (inUse_v (HP10.out.drewN n11)).mono ?_
      rintro e w12 ⟨he, n12, rfl⟩
      have he' : e = .returned (.int .i64 3) := he
      subst he'
      clear he
      go_wp2_with fail
      have hbz := HB10.out.size
      refine (number_err 1 _ ((HG.out.below HB10.out h1).drewN (n11 + n12)) (by simp; omega)).mono ?_
      rintro e w13 ⟨rfl, hb13⟩
      have HB13 : Hid (Below w.heap.size w w13) := Lib.hid (HB10.out.trans (⟨hb13.os, hb13.tape, hb13.output, hb13.size, fun b hb => hb13.block b (Nat.lt_of_lt_of_le hb hbz)⟩ : Below w.heap.size w10 w13))
      clear hb13 hbz
      go_wp2_with fail
      go_ret
      exact ⟨rfl, HB13.out⟩
    · cases hq
  · exact absurd keep13 hno
end Go.Proofs.YteediemhcocgdaaDoor
