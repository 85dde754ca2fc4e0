/-
  wal's read of a sector.
-/
import Derived.Test.YteediemhcocgdaaDoorWalBytes
import Derived.Test.YteediemhcocgdaaDoorOpenWalk
import Derived.Test.YteediemhcocgdaaDoorReadWalk
namespace Go.Proofs.YteediemhcocgdaaDoor
open Go.RowKit
open WalP (Stamp readR parse)

def noStamp : Value := .agg #[.int .i64 0, .int .i64 0, .int .i64 0, .int .i64 0, .int .i64 0]
def sizesOf : List Nat := [6, 4, 2, 2, 2]
def ats : List Nat := [0, 6, 10, 12, 14, 16]
/-- The numbers that have been read. -/
def gotNums (m : List UInt8) (k : Nat) : List Value := (List.range 5).map fun i => .int .i64 (if i < k then (SumP.rd ((m.drop (ats.getD i 0)).take (sizesOf.getD i 0)) : Int) else 0)

set_option maxHeartbeats 2000000 in
set_option maxRecDepth 100000 in
theorem wread_shut (B : Nat) (A : Option Addr) (c : Nat) (l : List UInt8) (w : World) (hb : Byt w B A l) (hB : B ≤ w.heap.size) (hc : l.length ≤ c) (hn : Nib w) (h0 : 0 < w.heap.size) (hcc : c ≤ 9223372036854775807) (hl : l.length = 512) (ho : SumP.openR l = none) :
    Calls Tryd.prog 63 #[.slice A 512 c] w fun e w' => e = .returned (.tuple #[.agg #[.int .i64 0, .int .i64 0, .int .i64 0, .int .i64 0, .int .i64 0], .slice none 0 0, .bool false]) ∧ Below w.heap.size w w' := by
  have hal : Below w.heap.size w (w.alloc (.cells #[.int .i64 0, .int .i64 0, .int .i64 0, .int .i64 0, .int .i64 0] 111)) := (Below.refl _ _).alloc (Nat.le_refl _) _
  have HC := Lib.hid (open_none B A c l _ (hb.below (hal.mono hB)) (by simp; omega) hc (hn.below hal h0) (by omega) (by simp) hcc ho)
  rw [hl] at HC
  clear hb hal
  go_enter Tryd.func63, Tryd.ntmps63
  go_wp2_with fail
  refine HC.out.mono ?_
  rintro e w1 ⟨rfl, hb1⟩
  have hbl : Blk w1 w.heap.size 111 [.int .i64 0, .int .i64 0, .int .i64 0, .int .i64 0, .int .i64 0] := ((Blk.new w 111 [.int .i64 0, .int .i64 0, .int .i64 0, .int .i64 0, .int .i64 0])).below hb1 (by simp)
  have e0 := hbl.cell 0
  have e1 := hbl.cell 1
  have e2 := hbl.cell 2
  have e3 := hbl.cell 3
  have e4 := hbl.cell 4
  have f0 := hbl.frozen
  have HB1 : Hid (Below w.heap.size w w1) := Lib.hid (((Below.refl _ w).alloc (Nat.le_refl _) _).trans (hb1.mono (by simp)))
  clear hb1
  have HBL := Lib.hid hbl
  clear hbl
  go_wp2_with fail
  have hfin := ((((HBL.out.set_ 0 (.int .i64 0)).set_ 1 (.int .i64 0)).set_ 2 (.int .i64 0)).set_ 3 (.int .i64 0)).set_ 4 (.int .i64 0)
  have hbel := ((((HB1.out.setCell (p := ⟨w.heap.size, 0, none⟩) (Nat.le_refl _) (.int .i64 0)).setCell (p := ⟨w.heap.size, 1, none⟩) (Nat.le_refl _) (.int .i64 0)).setCell (p := ⟨w.heap.size, 2, none⟩) (Nat.le_refl _) (.int .i64 0)).setCell (p := ⟨w.heap.size, 3, none⟩) (Nat.le_refl _) (.int .i64 0)).setCell (p := ⟨w.heap.size, 4, none⟩) (Nat.le_refl _) (.int .i64 0)
  generalize (((((w1.setCell ⟨w.heap.size, 0, none⟩ (.int .i64 0)).setCell ⟨w.heap.size, 1, none⟩ (.int .i64 0)).setCell ⟨w.heap.size, 2, none⟩ (.int .i64 0)).setCell ⟨w.heap.size, 3, none⟩ (.int .i64 0)).setCell ⟨w.heap.size, 4, none⟩ (.int .i64 0)) = W at *
  have g0 := hfin.cell 0
  have g1 := hfin.cell 1
  have g2 := hfin.cell 2
  have g3 := hfin.cell 3
  have g4 := hfin.cell 4
  clear e0 e1 e2 e3 e4 f0
  exact bodyPost_ret (v := .tuple #[.agg #[.int .i64 0, .int .i64 0, .int .i64 0, .int .i64 0, .int .i64 0], .slice none 0 0, .bool false]) (by simp [results, Tryd.results63, go_sem, g0, g1, g2, g3, g4]) rfl ⟨rfl, hbel⟩

theorem own_set {w : World} {base c : Nat} {A : Option Addr} {l : List UInt8} (h : Own w base A c l) {g : Nat} {t : TypeId} {cs : List Value} (hb : Blk w g t cs) (hne : t ≠ 5) (i : Nat) (v : Value) : Own (w.setCell ⟨g, i, none⟩ v) base A c l := by
  have hn := h.ne hb hne
  refine ⟨h.1, h.2.imp id ?_⟩
  rintro ⟨g', cap, cur, hv, hg, hh, r⟩
  refine ⟨g', cap, cur, hv, hg, (Below.heap_setCell w ⟨g, i, none⟩ v g' (fun e => hn ?_)).trans hh, r⟩
  injection hv with hA
  have e2 : g' = g := e
  rw [hA, e2]; rfl
theorem gotNums_set (m : List UInt8) (k : Nat) (hk : k < 5) : (gotNums m k).set k (.int .i64 (SumP.rd ((m.drop (ats.getD k 0)).take (sizesOf.getD k 0)) : Int)) = gotNums m (k + 1) := by
  apply List.ext_getElem?
  intro i
  rw [List.getElem?_set]
  unfold gotNums
  by_cases hi : i < 5
  · by_cases e : k = i
    · subst e
      simp [hk]
    · have e2 : (i < k + 1) ↔ i < k := by omega
      simp [e, hi, e2]
  · by_cases e : k = i
    · omega
    · rw [if_neg e, List.getElem?_eq_none (by simp; omega), List.getElem?_eq_none (by simp; omega)]
theorem gotNums_zero (m : List UInt8) : gotNums m 0 = [.int .i64 0, .int .i64 0, .int .i64 0, .int .i64 0, .int .i64 0] := by simp [gotNums, List.range, List.range.loop]
theorem gotNums_all (m : List UInt8) : gotNums m 5 = [.int .i64 (parse m).e, .int .i64 (parse m).r, .int .i64 (parse m).p, .int .i64 (parse m).ps, .int .i64 (parse m).l] := by
  simp [gotNums, List.range, List.range.loop, parse, ats, sizesOf]
theorem gotNums_get (m : List UInt8) (k i : Nat) (hi : i < 5) : ∃ v, (gotNums m k)[i]? = some v := ⟨_, List.getElem?_eq_getElem (by simp [gotNums]; omega)⟩

/-- A stamp stored into the block a. -/
def putSt (W : World) (a : Nat) (v0 v1 v2 v3 v4 : Value) : World := ((((W.setCell ⟨a, 0, none⟩ v0).setCell ⟨a, 1, none⟩ v1).setCell ⟨a, 2, none⟩ v2).setCell ⟨a, 3, none⟩ v3).setCell ⟨a, 4, none⟩ v4
theorem putSt_blk {W : World} {a : Nat} {c0 c1 c2 c3 c4 : Value} (h : Blk W a 111 [c0, c1, c2, c3, c4]) (v0 v1 v2 v3 v4 : Value) : Blk (putSt W a v0 v1 v2 v3 v4) a 111 [v0, v1, v2, v3, v4] :=
  ((((h.set_ 0 v0).set_ 1 v1).set_ 2 v2).set_ 3 v3).set_ 4 v4
theorem putSt_below {B : Nat} {w W : World} {a : Nat} (h : Below B w W) (ha : B ≤ a) (v0 v1 v2 v3 v4 : Value) : Below B w (putSt W a v0 v1 v2 v3 v4) :=
  ((((h.setCell (p := ⟨a, 0, none⟩) ha v0).setCell (p := ⟨a, 1, none⟩) ha v1).setCell (p := ⟨a, 2, none⟩) ha v2).setCell (p := ⟨a, 3, none⟩) ha v3).setCell (p := ⟨a, 4, none⟩) ha v4
theorem putSt_other {W : World} {a b : Nat} (h : b ≠ a) (v0 v1 v2 v3 v4 : Value) : (putSt W a v0 v1 v2 v3 v4).heap[b]? = W.heap[b]? := by
  unfold putSt
  rw [Below.heap_setCell _ ⟨a, 4, none⟩ v4 b h, Below.heap_setCell _ ⟨a, 3, none⟩ v3 b h, Below.heap_setCell _ ⟨a, 2, none⟩ v2 b h, Below.heap_setCell _ ⟨a, 1, none⟩ v1 b h, Below.heap_setCell _ ⟨a, 0, none⟩ v0 b h]
theorem putSt_alloc (W : World) (a : Nat) (v0 v1 v2 v3 v4 : Value) (o : Obj) : (((((W.setCell ⟨a, 0, none⟩ v0).setCell ⟨a, 1, none⟩ v1).setCell ⟨a, 2, none⟩ v2).setCell ⟨a, 3, none⟩ v3).setCell ⟨a, 4, none⟩ v4).alloc o = (putSt W a v0 v1 v2 v3 v4).alloc o := rfl
theorem putSt_size (W : World) (a : Nat) (v0 v1 v2 v3 v4 : Value) : (putSt W a v0 v1 v2 v3 v4).heap.size = W.heap.size := by simp [putSt, World.setCell]

theorem read_end {w wr : World} {g : Nat} {m : List UInt8} {n : Nat} (v0 v1 v2 v3 v4 : Value) (o : Obj) (hst : Blk wr w.heap.size 111 [.int .i64 0, .int .i64 0, .int .i64 0, .int .i64 0, .int .i64 0]) (hbe : Below w.heap.size w wr) (hcl : ∀ i, i < 508 → wr.cell? ⟨g, i, none⟩ = some (.int .u8 ((m.getD i 0).toNat : Int))) (hgl : g < wr.heap.size) (hgw : g ≠ w.heap.size) (hn : n ≤ 492) :
    Blk ((putSt wr w.heap.size v0 v1 v2 v3 v4).alloc o).drew w.heap.size 111 [v0, v1, v2, v3, v4] ∧ Below w.heap.size w ((putSt wr w.heap.size v0 v1 v2 v3 v4).alloc o).drew ∧ Byt ((putSt wr w.heap.size v0 v1 v2 v3 v4).alloc o).drew ((putSt wr w.heap.size v0 v1 v2 v3 v4).alloc o).drew.heap.size (some ⟨g, 16, none⟩) ((m.drop 16).take n) := by
  have h1 : Blk ((putSt wr w.heap.size v0 v1 v2 v3 v4).alloc o) w.heap.size 111 [v0, v1, v2, v3, v4] := (putSt_blk hst v0 v1 v2 v3 v4).alloc o
  have hsz : (putSt wr w.heap.size v0 v1 v2 v3 v4).heap.size = wr.heap.size := putSt_size _ _ _ _ _ _ _
  have h2 : Below w.heap.size w ((putSt wr w.heap.size v0 v1 v2 v3 v4).alloc o) := (putSt_below hbe (Nat.le_refl _) v0 v1 v2 v3 v4).alloc (by rw [hsz]; exact hbe.size) o
  have h3 : ((putSt wr w.heap.size v0 v1 v2 v3 v4).alloc o).heap[g]? = wr.heap[g]? := (Below.heap_alloc _ o g (by rw [hsz]; exact hgl)).trans (putSt_other hgw v0 v1 v2 v3 v4)
  have h4 : g < ((putSt wr w.heap.size v0 v1 v2 v3 v4).alloc o).heap.size := by simp [hsz]; omega
  generalize (putSt wr w.heap.size v0 v1 v2 v3 v4).alloc o = W at *
  refine ⟨h1, h2.drew, fun _ => ⟨g, 16, rfl, h4, fun i hi => ?_⟩⟩
  rw [List.length_take, List.length_drop] at hi
  have hk : W.drew.heap[g]? = wr.heap[g]? := h3
  rw [World.cell?_of_block hk, hcl (16 + i) (by omega)]
  congr 3
  rw [List.getD_eq_getElem?_getD, List.getD_eq_getElem?_getD, List.getElem?_take_of_lt (by omega), List.getElem?_drop]

/-- What read answers. -/
def WReadR (l : List UInt8) (w : World) (e : Ending) (w' : World) : Prop :=
  Below w.heap.size w w' ∧ match readR l with
    | none => e = .returned (.tuple #[.agg #[.int .i64 0, .int .i64 0, .int .i64 0, .int .i64 0, .int .i64 0], .slice none 0 0, .bool false])
    | some (s, part) => ∃ A c, e = .returned (.tuple #[.agg #[.int .i64 s.e, .int .i64 s.r, .int .i64 s.p, .int .i64 s.ps, .int .i64 s.l], .slice A s.l c, .bool true]) ∧ part.length = s.l ∧ Byt w' w'.heap.size A part

set_option maxHeartbeats 2000000 in
set_option maxRecDepth 100000 in
theorem wread_open (B : Nat) (A : Option Addr) (c : Nat) (l m : List UInt8) (w : World) (hb : Byt w B A l) (hB : B ≤ w.heap.size) (hc : l.length ≤ c) (hn : Nib w) (h0 : 0 < w.heap.size) (hcc : c ≤ 9223372036854775807) (hl : l.length = 512) (ho : SumP.openR l = some m) :
    Calls Tryd.prog 63 #[.slice A 512 c] w (WReadR l w) := by
  have hal : Below w.heap.size w (w.alloc (.cells #[.int .i64 0, .int .i64 0, .int .i64 0, .int .i64 0, .int .i64 0] 111)) := (Below.refl _ _).alloc (Nat.le_refl _) _
  have HC := Lib.hid (open_some B A c l m _ (hb.below (hal.mono hB)) (by simp; omega) hc (hn.below hal h0) (by omega) (by simp) hcc ho)
  rw [hl] at HC
  have hm : m.length = 508 := by have := WalP.openR_length ho; omega
  rw [hm] at HC
  have HO := Lib.hid ho
  have HM := Lib.hid hm
  clear hb hal ho hm
  go_enter Tryd.func63, Tryd.ntmps63
  go_wp2_with fail
  refine HC.out.mono ?_
  rintro e w1 ⟨A1, c1, rfl, hown, hb1⟩
  have hbl : Blk w1 w.heap.size 111 [.int .i64 0, .int .i64 0, .int .i64 0, .int .i64 0, .int .i64 0] := ((Blk.new w 111 [.int .i64 0, .int .i64 0, .int .i64 0, .int .i64 0, .int .i64 0])).below hb1 (by simp)
  have HB1 : Hid (Below w.heap.size w w1) := Lib.hid (((Below.refl _ w).alloc (Nat.le_refl _) _).trans (hb1.mono (by simp)))
  have HOW := Lib.hid (hown.more (base' := w.heap.size + 1) (by simp))
  have HBL := Lib.hid hbl
  clear hb1 hbl hown
  have HN0 : Hid (Blk (w1.alloc (.cells (gotNums m 0).toArray 129)) w1.heap.size 129 (gotNums m 0)) := Lib.hid (Blk.new w1 _ _)
  have hg0 := gotNums_zero m
  have HG0 := Lib.hid hg0
  clear hg0
  have hz1 : w.heap.size + 1 ≤ w1.heap.size := HBL.out.lt
  have hcap := HOW.out.len_le
  rw [HM.out] at hcap
  go_wp2_with fail
  have i0 : ∀ w, (Instr.index 129 (.agg #[.int .i64 6, .int .i64 4, .int .i64 2, .int .i64 2, .int .i64 2]) (.int .i64 0)).run Tryd.prog w = .ok (.int .i64 6) w := fun _ => by kernel_rfl
  have i1 : ∀ w, (Instr.index 129 (.agg #[.int .i64 6, .int .i64 4, .int .i64 2, .int .i64 2, .int .i64 2]) (.int .i64 1)).run Tryd.prog w = .ok (.int .i64 4) w := fun _ => by kernel_rfl
  have i2 : ∀ w, (Instr.index 129 (.agg #[.int .i64 6, .int .i64 4, .int .i64 2, .int .i64 2, .int .i64 2]) (.int .i64 2)).run Tryd.prog w = .ok (.int .i64 2) w := fun _ => by kernel_rfl
  have i3 : ∀ w, (Instr.index 129 (.agg #[.int .i64 6, .int .i64 4, .int .i64 2, .int .i64 2, .int .i64 2]) (.int .i64 3)).run Tryd.prog w = .ok (.int .i64 2) w := fun _ => by kernel_rfl
  have i4 : ∀ w, (Instr.index 129 (.agg #[.int .i64 6, .int .i64 4, .int .i64 2, .int .i64 2, .int .i64 2]) (.int .i64 4)).run Tryd.prog w = .ok (.int .i64 2) w := fun _ => by kernel_rfl
  go_loopw [7, 22] (fun s7 s22 wr => ∃ k : Nat, k ≤ 5 ∧ s22 = .int .i64 k ∧ s7 = .int .i64 (ats.getD k 0 : Nat) ∧ Blk wr w1.heap.size 129 (gotNums m k) ∧ Blk wr w.heap.size 111 [.int .i64 0, .int .i64 0, .int .i64 0, .int .i64 0, .int .i64 0] ∧ Own wr (w.heap.size + 1) A1 c1 m ∧ Below w.heap.size w wr) (fun _ s22 _ => 5 - (intOf s22).toNat)
  case atStart =>
    have hal : Below w1.heap.size w1 (w1.alloc (.cells (gotNums m 0).toArray 129)) := (Below.refl _ _).alloc (Nat.le_refl _) _
    refine ⟨0, by omega, rfl, rfl, HN0.out, ?_⟩
    rw [HG0.out] at hal
    exact ⟨HBL.out.alloc _, HOW.out.kept hal, HB1.out.alloc HB1.out.size _⟩
  case round =>
    obtain ⟨k, hk, rfl, rfl, hnum, hst, how, hbe⟩ := hrel
    by_cases hlt : k < 5
    · have hby := how.byt
      have HX := Lib.hid (And.intro hnum (And.intro hst (And.intro how hbe)))
      have hfz := hnum.frozen k
      obtain ⟨v, hv⟩ := gotNums_get m k k hlt
      have hcv : wr.cell? ⟨w1.heap.size, k, none⟩ = some v := (hnum.cell k).trans hv
      have hrd : ∀ a z : Nat, 1 ≤ z → z ≤ 7 → a + z ≤ 508 → Calls Tryd.prog 18 #[.slice A1 508 c1, .int .i64 a, .int .i64 z] wr fun e w' => e = .returned (.tuple #[.int .i64 (SumP.rd ((m.drop a).take z) : Int), .int .i64 0]) ∧ wr = w' := by
        intro a z h1 h7 ha
        have h := read_any wr.heap.size A1 c1 m a z wr hby (by rw [HM.out]; exact hcap.1) hcap.2
        rw [WalP.rdR_in m a z h1 h7 (by rw [HM.out]; exact ha), HM.out] at h
        exact h
      have HR := Lib.hid hrd
      have hcase : k = 0 ∨ k = 1 ∨ k = 2 ∨ k = 3 ∨ k = 4 := by omega
      clear hnum hst how hbe hby hrd hv hk hlt
      rcases hcase with rfl | rfl | rfl | rfl | rfl
      · have hat : ((ats.getD 0 0 : Nat) : Int) = 0 := rfl
        rw [hat]
        clear hat
        go_wp2_with fail
        refine (HR.out 0 6 (by omega) (by omega) (by omega)).mono ?_
        rintro e w2 ⟨rfl, rfl⟩
        go_wp2_with fail
        have hs := Eq.mp (congrArg (Blk (wr.setCell ⟨w1.heap.size, 0, none⟩ (.int .i64 (SumP.rd ((m.drop 0).take 6) : Int))) w1.heap.size 129) (gotNums_set m 0 (by omega))) (HX.out.1.set_ 0 (.int .i64 (SumP.rd ((m.drop 0).take 6) : Int)))
        exact ⟨⟨1, by omega, rfl, rfl, hs, HX.out.2.1.far (p := ⟨w1.heap.size, 0, none⟩) (by show w.heap.size ≠ w1.heap.size; omega) _, own_set HX.out.2.2.1 HX.out.1 (by decide) 0 _, HX.out.2.2.2.setCell (p := ⟨w1.heap.size, 0, none⟩) (by show w.heap.size ≤ w1.heap.size; omega) _⟩, by simp [intOf]⟩
      · have hat : ((ats.getD 1 0 : Nat) : Int) = 6 := rfl
        rw [hat]
        clear hat
        go_wp2_with fail
        refine (HR.out 6 4 (by omega) (by omega) (by omega)).mono ?_
        rintro e w2 ⟨rfl, rfl⟩
        go_wp2_with fail
        have hs := Eq.mp (congrArg (Blk (wr.setCell ⟨w1.heap.size, 1, none⟩ (.int .i64 (SumP.rd ((m.drop 6).take 4) : Int))) w1.heap.size 129) (gotNums_set m 1 (by omega))) (HX.out.1.set_ 1 (.int .i64 (SumP.rd ((m.drop 6).take 4) : Int)))
        exact ⟨⟨2, by omega, rfl, rfl, hs, HX.out.2.1.far (p := ⟨w1.heap.size, 1, none⟩) (by show w.heap.size ≠ w1.heap.size; omega) _, own_set HX.out.2.2.1 HX.out.1 (by decide) 1 _, HX.out.2.2.2.setCell (p := ⟨w1.heap.size, 1, none⟩) (by show w.heap.size ≤ w1.heap.size; omega) _⟩, by simp [intOf]⟩
      · have hat : ((ats.getD 2 0 : Nat) : Int) = 10 := rfl
        rw [hat]
        clear hat
        go_wp2_with fail
        refine (HR.out 10 2 (by omega) (by omega) (by omega)).mono ?_
        rintro e w2 ⟨rfl, rfl⟩
        go_wp2_with fail
        have hs := Eq.mp (congrArg (Blk (wr.setCell ⟨w1.heap.size, 2, none⟩ (.int .i64 (SumP.rd ((m.drop 10).take 2) : Int))) w1.heap.size 129) (gotNums_set m 2 (by omega))) (HX.out.1.set_ 2 (.int .i64 (SumP.rd ((m.drop 10).take 2) : Int)))
        exact ⟨⟨3, by omega, rfl, rfl, hs, HX.out.2.1.far (p := ⟨w1.heap.size, 2, none⟩) (by show w.heap.size ≠ w1.heap.size; omega) _, own_set HX.out.2.2.1 HX.out.1 (by decide) 2 _, HX.out.2.2.2.setCell (p := ⟨w1.heap.size, 2, none⟩) (by show w.heap.size ≤ w1.heap.size; omega) _⟩, by simp [intOf]⟩
      · have hat : ((ats.getD 3 0 : Nat) : Int) = 12 := rfl
        rw [hat]
        clear hat
        go_wp2_with fail
        refine (HR.out 12 2 (by omega) (by omega) (by omega)).mono ?_
        rintro e w2 ⟨rfl, rfl⟩
        go_wp2_with fail
        have hs := Eq.mp (congrArg (Blk (wr.setCell ⟨w1.heap.size, 3, none⟩ (.int .i64 (SumP.rd ((m.drop 12).take 2) : Int))) w1.heap.size 129) (gotNums_set m 3 (by omega))) (HX.out.1.set_ 3 (.int .i64 (SumP.rd ((m.drop 12).take 2) : Int)))
        exact ⟨⟨4, by omega, rfl, rfl, hs, HX.out.2.1.far (p := ⟨w1.heap.size, 3, none⟩) (by show w.heap.size ≠ w1.heap.size; omega) _, own_set HX.out.2.2.1 HX.out.1 (by decide) 3 _, HX.out.2.2.2.setCell (p := ⟨w1.heap.size, 3, none⟩) (by show w.heap.size ≤ w1.heap.size; omega) _⟩, by simp [intOf]⟩
      · have hat : ((ats.getD 4 0 : Nat) : Int) = 14 := rfl
        rw [hat]
        clear hat
        go_wp2_with fail
        refine (HR.out 14 2 (by omega) (by omega) (by omega)).mono ?_
        rintro e w2 ⟨rfl, rfl⟩
        go_wp2_with fail
        have hs := Eq.mp (congrArg (Blk (wr.setCell ⟨w1.heap.size, 4, none⟩ (.int .i64 (SumP.rd ((m.drop 14).take 2) : Int))) w1.heap.size 129) (gotNums_set m 4 (by omega))) (HX.out.1.set_ 4 (.int .i64 (SumP.rd ((m.drop 14).take 2) : Int)))
        exact ⟨⟨5, by omega, rfl, rfl, hs, HX.out.2.1.far (p := ⟨w1.heap.size, 4, none⟩) (by show w.heap.size ≠ w1.heap.size; omega) _, own_set HX.out.2.2.1 HX.out.1 (by decide) 4 _, HX.out.2.2.2.setCell (p := ⟨w1.heap.size, 4, none⟩) (by show w.heap.size ≤ w1.heap.size; omega) _⟩, by simp [intOf]⟩
    · obtain rfl : k = 5 := by omega
      rw [gotNums_all m] at hnum
      have hroff : readR l = if 492 < (parse m).l then none else if (m.drop (16 + (parse m).l)).all (· == 0) then some (parse m, (m.drop 16).take (parse m).l) else none := by unfold readR; rw [HO.out]
      have HRO := Lib.hid hroff
      clear hroff
      generalize parse m = P at *
      have n0 := hnum.cell 0
      have n1 := hnum.cell 1
      have n2 := hnum.cell 2
      have n3 := hnum.cell 3
      have n4 := hnum.cell 4
      have e0 := hst.cell 0
      have e1 := hst.cell 1
      have e2 := hst.cell 2
      have e3 := hst.cell 3
      have e4 := hst.cell 4
      have f0 := hst.frozen
      have hwl : w.heap.size < wr.heap.size := hst.lt
      have HST := Lib.hid hst
      have HOW2 := Lib.hid how
      have HBE := Lib.hid hbe
      clear hnum hst how hbe i0 i1 i2 i3 i4
      by_cases hlong : 492 < P.l
      · go_wp2_with fail
        clear e0 e1 e2 e3 e4 f0 n0 n1 n2 n3 n4
        rw [putSt_alloc]
        have hb1 := (putSt_blk HST.out (.int .i64 0) (.int .i64 0) (.int .i64 0) (.int .i64 0) (.int .i64 0)).alloc (.cells #[.int .i64 P.e, .int .i64 P.r, .int .i64 P.p, .int .i64 P.ps, .int .i64 P.l] 111)
        have hb2 := (putSt_below HBE.out (Nat.le_refl _) (.int .i64 0) (.int .i64 0) (.int .i64 0) (.int .i64 0) (.int .i64 0)).alloc (by rw [putSt_size]; omega) (.cells #[.int .i64 P.e, .int .i64 P.r, .int .i64 P.p, .int .i64 P.ps, .int .i64 P.l] 111)
        generalize ((putSt wr w.heap.size (.int .i64 0) (.int .i64 0) (.int .i64 0) (.int .i64 0) (.int .i64 0)).alloc (.cells #[.int .i64 P.e, .int .i64 P.r, .int .i64 P.p, .int .i64 P.ps, .int .i64 P.l] 111)) = W at *
        have g0 := hb1.cell 0
        have g1 := hb1.cell 1
        have g2 := hb1.cell 2
        have g3 := hb1.cell 3
        have g4 := hb1.cell 4
        have hro := HRO.out
        rw [if_pos hlong] at hro
        exact bodyPost_ret (v := .tuple #[.agg #[.int .i64 0, .int .i64 0, .int .i64 0, .int .i64 0, .int .i64 0], .slice none 0 0, .bool false]) (by simp [results, Tryd.results63, go_sem, g0, g1, g2, g3, g4]) rfl ⟨hb2, by rw [hro]⟩
      · have hlong2 : P.l ≤ 492 := by omega
        obtain ⟨g, cs, rfl, hgb, hbk, htk⟩ := HOW2.out.fresh (by rw [HM.out]; omega)
        have hcell : ∀ i, i < 508 → wr.cell? ⟨g, i, none⟩ = some (.int .u8 ((m.getD i 0).toNat : Int)) := by
          intro i hi
          obtain ⟨b, off, hA, _, hc⟩ := HOW2.out.byt (by rw [HM.out]; omega)
          cases hA
          have := hc i (by rw [HM.out]; exact hi)
          rw [Nat.zero_add] at this
          exact this
        have HCL := Lib.hid hcell
        have HBK := Lib.hid hbk
        have hgl : g < wr.heap.size := hbk.lt
        have hgw : g ≠ w.heap.size := by omega
        clear hbk htk hcell
        have k1 : (0 : Int) ≤ 16 + (P.l : Int) := by omega
        have k2 : (16 : Int) + (P.l : Int) ≤ 508 := by omega
        by_cases hce : c1 = 16 + P.l
        · obtain ⟨pe, pr, pp, pps, pl⟩ := P
          have hl492 : pl = 492 := by have h : c1 = 16 + pl := hce; have h2 : pl ≤ 492 := hlong2; omega
          subst hl492
          obtain rfl : c1 = 508 := hce
          go_wp2_with fail
          have hall : (m.drop (16 + 492)).all (· == 0) = true := by rw [List.drop_eq_nil_of_le (by rw [HM.out]; omega)]; rfl
          have hro := HRO.out
          rw [if_neg (by show ¬ 492 < 492; omega)] at hro
          have hro2 : readR l = some (⟨pe, pr, pp, pps, 492⟩, (m.drop 16).take 492) := by rw [hro]; exact if_pos hall
          have HR2 := Lib.hid hro2
          clear hro hro2 hall
          have a0 : wr.cell? ⟨w.heap.size, 0, none⟩ = some (.int .i64 0) := HST.out.cell 0
          have b0 : wr.frozen? ⟨w.heap.size, 0, none⟩ = false := HST.out.frozen 0
          have a1 : wr.cell? ⟨w.heap.size, 1, none⟩ = some (.int .i64 0) := HST.out.cell 1
          have b1 : wr.frozen? ⟨w.heap.size, 1, none⟩ = false := HST.out.frozen 1
          have a2 : wr.cell? ⟨w.heap.size, 2, none⟩ = some (.int .i64 0) := HST.out.cell 2
          have b2 : wr.frozen? ⟨w.heap.size, 2, none⟩ = false := HST.out.frozen 2
          have a3 : wr.cell? ⟨w.heap.size, 3, none⟩ = some (.int .i64 0) := HST.out.cell 3
          have b3 : wr.frozen? ⟨w.heap.size, 3, none⟩ = false := HST.out.frozen 3
          have a4 : wr.cell? ⟨w.heap.size, 4, none⟩ = some (.int .i64 0) := HST.out.cell 4
          have b4 : wr.frozen? ⟨w.heap.size, 4, none⟩ = false := HST.out.frozen 4
          have s508 : IntKind.i64.wrap 508 = 508 := by decide
          clear e0 e1 e2 e3 e4 f0 n0 n1 n2 n3 n4
          go_loop [60] (fun s60 => s60 = .int .i64 0) (fun _ => 0)
          case atStart => rfl
          case round =>
            obtain rfl := hrel
            go_wp2_with fail
            go_region
            rw [putSt_alloc]
            obtain ⟨hb1, hb2, hb3⟩ := read_end (.int .i64 pe) (.int .i64 pr) (.int .i64 pp) (.int .i64 pps) (.int .i64 492) (.cells #[.int .i64 pe, .int .i64 pr, .int .i64 pp, .int .i64 pps, .int .i64 492] 111) HST.out HBE.out HCL.out hgl hgw (Nat.le_refl 492)
            generalize ((putSt wr w.heap.size (.int .i64 pe) (.int .i64 pr) (.int .i64 pp) (.int .i64 pps) (.int .i64 492)).alloc (.cells #[.int .i64 pe, .int .i64 pr, .int .i64 pp, .int .i64 pps, .int .i64 492] 111)).drew = W at *
            have HX := Lib.hid (And.intro hb2 hb3)
            have g0 : W.cell? ⟨w.heap.size, 0, none⟩ = some (.int .i64 pe) := hb1.cell 0
            have g1 : W.cell? ⟨w.heap.size, 1, none⟩ = some (.int .i64 pr) := hb1.cell 1
            have g2 : W.cell? ⟨w.heap.size, 2, none⟩ = some (.int .i64 pp) := hb1.cell 2
            have g3 : W.cell? ⟨w.heap.size, 3, none⟩ = some (.int .i64 pps) := hb1.cell 3
            have g4 : W.cell? ⟨w.heap.size, 4, none⟩ = some (.int .i64 492) := hb1.cell 4
            clear hb1 hb2 hb3 a0 a1 a2 a3 a4 b0 b1 b2 b3 b4 s508
            go_wp2_with fail
            have hr := HR2.out
            exact bodyPost_ret (v := .tuple #[.agg #[.int .i64 pe, .int .i64 pr, .int .i64 pp, .int .i64 pps, .int .i64 492], .slice (some ⟨g, 16, none⟩) 492 492, .bool true]) (by simp [results, Tryd.results63, go_sem, g0, g1, g2, g3, g4]) rfl ⟨HX.out.1, by rw [hr]; exact ⟨_, _, rfl, by simp [HM.out], HX.out.2⟩⟩
        · go_wp2_with fail
          have hcA : ∀ i, i < 508 → (wr.alloc (.cells #[.int .i64 P.e, .int .i64 P.r, .int .i64 P.p, .int .i64 P.ps, .int .i64 P.l] 111)).cell? ⟨g, i, none⟩ = some (.int .u8 ((m.getD i 0).toNat : Int)) := fun i hi => (World.cell?_alloc_lt wr _ ⟨g, i, none⟩ hgl).trans (HCL.out i hi)
          have HCA := Lib.hid hcA
          have a0 : wr.cell? ⟨w.heap.size, 0, none⟩ = some (.int .i64 0) := HST.out.cell 0
          have a1 : wr.cell? ⟨w.heap.size, 1, none⟩ = some (.int .i64 0) := HST.out.cell 1
          have a2 : wr.cell? ⟨w.heap.size, 2, none⟩ = some (.int .i64 0) := HST.out.cell 2
          have a3 : wr.cell? ⟨w.heap.size, 3, none⟩ = some (.int .i64 0) := HST.out.cell 3
          have a4 : wr.cell? ⟨w.heap.size, 4, none⟩ = some (.int .i64 0) := HST.out.cell 4
          have b0 : wr.frozen? ⟨w.heap.size, 0, none⟩ = false := HST.out.frozen 0
          have b1 : wr.frozen? ⟨w.heap.size, 1, none⟩ = false := HST.out.frozen 1
          have b2 : wr.frozen? ⟨w.heap.size, 2, none⟩ = false := HST.out.frozen 2
          have b3 : wr.frozen? ⟨w.heap.size, 3, none⟩ = false := HST.out.frozen 3
          have b4 : wr.frozen? ⟨w.heap.size, 4, none⟩ = false := HST.out.frozen 4
          have swr : IntKind.i64.wrap (16 + (P.l : Int)) = 16 + (P.l : Int) := IntWalk.i64_in _ (by omega)
          have snat : (16 + (P.l : Int)).toNat = 16 + P.l := by omega
          clear hcA e0 e1 e2 e3 e4 f0 n0 n1 n2 n3 n4
          go_loop [60] (fun s60 => ∃ k : Nat, k ≤ 508 - (16 + P.l) ∧ s60 = .int .i64 k ∧ ∀ i, i < k → m.getD (16 + P.l + i) 0 = 0) (fun s60 => (508 - (16 + P.l)) - (intOf s60).toNat)
          case atStart => exact ⟨0, by omega, rfl, fun i hi => by omega⟩
          case round =>
            obtain ⟨k, hk, rfl, hz⟩ := hrel
            have HZ := Lib.hid hz
            clear hz
            by_cases hlt : k < 508 - (16 + P.l)
            · have hc := HCA.out (16 + P.l + k) (by omega)
              rcases hy : (m.getD (16 + P.l + k) 0).toNat with _ | z
              · rw [hy] at hc
                have hc' : (wr.alloc (.cells #[.int .i64 P.e, .int .i64 P.r, .int .i64 P.p, .int .i64 P.ps, .int .i64 P.l] 111)).cell? ⟨g, 16 + P.l + k, none⟩ = some (.int .u8 0) := hc
                have HY := Lib.hid hy
                clear hc hy
                go_wp2_with fail
                go_round
                case rel =>
                  refine ⟨k + 1, by omega, by go_num, fun i hi => ?_⟩
                  by_cases e : i = k
                  · rw [e]; exact UInt8.toNat_inj.1 HY.out
                  · exact HZ.out i (by omega)
                case measure => simp [intOf]; omega
              · rw [hy] at hc
                have hnz : ¬ ((m.drop (16 + P.l)).all (· == 0) = true) := by
                  intro hall
                  have hmem : m.getD (16 + P.l + k) 0 ∈ m.drop (16 + P.l) := by
                    rw [List.getD_eq_getElem?_getD, List.getElem?_eq_getElem (by rw [HM.out]; omega)]
                    refine List.mem_iff_getElem.2 ⟨k, by rw [List.length_drop, HM.out]; omega, ?_⟩
                    rw [List.getElem_drop]
                    rfl
                  have h0 := List.all_eq_true.1 hall _ hmem
                  have h1 : m.getD (16 + P.l + k) 0 = 0 := by simpa using h0
                  rw [h1] at hy
                  cases hy
                have HNZ := Lib.hid hnz
                have hzp : ¬ ((z : Int) + 1 = 0) := by omega
                have hc' : (wr.alloc (.cells #[.int .i64 P.e, .int .i64 P.r, .int .i64 P.p, .int .i64 P.ps, .int .i64 P.l] 111)).cell? ⟨g, 16 + P.l + k, none⟩ = some (.int .u8 ((z : Int) + 1)) := hc
                have hzb : (((z : Int) + 1) != 0) = true := by simp; omega
                clear hc hy hnz
                go_wp2_with fail
                clear hc' hzb hzp a0 a1 a2 a3 a4 b0 b1 b2 b3 b4 swr snat
                rw [putSt_alloc]
                have hb1 := (putSt_blk HST.out (.int .i64 0) (.int .i64 0) (.int .i64 0) (.int .i64 0) (.int .i64 0)).alloc (.cells #[.int .i64 P.e, .int .i64 P.r, .int .i64 P.p, .int .i64 P.ps, .int .i64 P.l] 111)
                have hb2 := (putSt_below HBE.out (Nat.le_refl _) (.int .i64 0) (.int .i64 0) (.int .i64 0) (.int .i64 0) (.int .i64 0)).alloc (by rw [putSt_size]; omega) (.cells #[.int .i64 P.e, .int .i64 P.r, .int .i64 P.p, .int .i64 P.ps, .int .i64 P.l] 111)
                generalize ((putSt wr w.heap.size (.int .i64 0) (.int .i64 0) (.int .i64 0) (.int .i64 0) (.int .i64 0)).alloc (.cells #[.int .i64 P.e, .int .i64 P.r, .int .i64 P.p, .int .i64 P.ps, .int .i64 P.l] 111)) = W at *
                have g0 := hb1.cell 0
                have g1 := hb1.cell 1
                have g2 := hb1.cell 2
                have g3 := hb1.cell 3
                have g4 := hb1.cell 4
                have hro := HRO.out
                rw [if_neg hlong, if_neg HNZ.out] at hro
                exact bodyPost_ret (v := .tuple #[.agg #[.int .i64 0, .int .i64 0, .int .i64 0, .int .i64 0, .int .i64 0], .slice none 0 0, .bool false]) (by simp [results, Tryd.results63, go_sem, g0, g1, g2, g3, g4]) rfl ⟨hb2, by rw [hro]⟩
            · obtain rfl : k = 508 - (16 + P.l) := by omega
              go_wp2_with fail
              go_region
              rw [putSt_alloc]
              obtain ⟨hb1, hb2, hb3⟩ := read_end (.int .i64 P.e) (.int .i64 P.r) (.int .i64 P.p) (.int .i64 P.ps) (.int .i64 P.l) (.cells #[.int .i64 P.e, .int .i64 P.r, .int .i64 P.p, .int .i64 P.ps, .int .i64 P.l] 111) HST.out HBE.out HCL.out hgl hgw hlong2
              generalize ((putSt wr w.heap.size (.int .i64 P.e) (.int .i64 P.r) (.int .i64 P.p) (.int .i64 P.ps) (.int .i64 P.l)).alloc (.cells #[.int .i64 P.e, .int .i64 P.r, .int .i64 P.p, .int .i64 P.ps, .int .i64 P.l] 111)).drew = W at *
              have HX := Lib.hid (And.intro hb2 hb3)
              have g0 : W.cell? ⟨w.heap.size, 0, none⟩ = some (.int .i64 P.e) := hb1.cell 0
              have g1 : W.cell? ⟨w.heap.size, 1, none⟩ = some (.int .i64 P.r) := hb1.cell 1
              have g2 : W.cell? ⟨w.heap.size, 2, none⟩ = some (.int .i64 P.p) := hb1.cell 2
              have g3 : W.cell? ⟨w.heap.size, 3, none⟩ = some (.int .i64 P.ps) := hb1.cell 3
              have g4 : W.cell? ⟨w.heap.size, 4, none⟩ = some (.int .i64 P.l) := hb1.cell 4
              have hall : (m.drop (16 + P.l)).all (· == 0) = true := by
                rw [List.all_eq_true]
                intro y hy
                obtain ⟨i, hi, rfl⟩ := List.mem_iff_getElem.1 hy
                rw [List.length_drop, HM.out] at hi
                have := HZ.out i (by omega)
                rw [List.getElem_drop]
                rw [List.getD_eq_getElem?_getD, List.getElem?_eq_getElem (by rw [HM.out]; omega)] at this
                simpa using this
              have hro := HRO.out
              rw [if_neg hlong, if_pos hall] at hro
              have HR2 := Lib.hid hro
              clear hro hall hb1 hb2 hb3 a0 a1 a2 a3 a4 b0 b1 b2 b3 b4 swr snat
              go_wp2_with fail
              have hr := HR2.out
              exact bodyPost_ret (v := .tuple #[.agg #[.int .i64 P.e, .int .i64 P.r, .int .i64 P.p, .int .i64 P.ps, .int .i64 P.l], .slice (some ⟨g, 16, none⟩) P.l (c1 - 16), .bool true]) (by simp [results, Tryd.results63, go_sem, g0, g1, g2, g3, g4]) rfl ⟨HX.out.1, by rw [hr]; exact ⟨_, _, rfl, by simp [HM.out]; omega, HX.out.2⟩⟩

/-- wal's read of a sector. -/
theorem wread_any (B : Nat) (A : Option Addr) (c : Nat) (l : List UInt8) (w : World) (hb : Byt w B A l) (hB : B ≤ w.heap.size) (hc : l.length ≤ c) (hn : Nib w) (h0 : 0 < w.heap.size) (hcc : c ≤ 9223372036854775807) (hl : l.length = 512) :
    Calls Tryd.prog 63 #[.slice A 512 c] w (WReadR l w) := by
  rcases ho : SumP.openR l with _ | m
  · refine (wread_shut B A c l w hb hB hc hn h0 hcc hl ho).mono ?_
    rintro e w' ⟨h1, h2⟩
    have hr : readR l = none := by unfold readR; rw [ho]
    exact ⟨h2, by rw [hr]; exact h1⟩
  · exact wread_open B A c l m w hb hB hc hn h0 hcc hl ho
end Go.Proofs.YteediemhcocgdaaDoor
