/-
  wal's stamp: bytes.
-/
import Derived.Test.YteediemhcocgdaaDoorBlk
import Derived.Test.YteediemhcocgdaaDoorWalPlain
import Derived.Test.YteediemhcocgdaaDoorAppZeros
import Derived.Test.YteediemhcocgdaaDoorSealWalk
import Derived.Test.YteediemhcocgdaaDoorNumWalk
namespace Go.Proofs.YteediemhcocgdaaDoor
open Go.RowKit
open WalP (Stamp)

/-- The numbers of a stamp. -/
def nums (s : Stamp) : List (Nat × Nat) := [(s.e, 6), (s.r, 4), (s.p, 2), (s.ps, 2), (s.l, 2)]
def pre (s : Stamp) (k : Nat) : List UInt8 := (((nums s).take k).map fun x => SumP.be x.1 x.2).flatten
theorem pre_succ (s : Stamp) (k : Nat) (x : Nat × Nat) (h : (nums s)[k]? = some x) : pre s (k + 1) = pre s k ++ SumP.be x.1 x.2 := by
  obtain ⟨hk, rfl⟩ := List.getElem?_eq_some_iff.1 h
  unfold pre
  rw [List.take_succ_eq_append_getElem hk, List.map_append, List.flatten_append]
  simp
theorem pre_all (s : Stamp) : pre s 5 = s.head := by
  simp [pre, nums, Stamp.head]
theorem pre_le (s : Stamp) (k : Nat) (hk : k ≤ 5) : (pre s k).length ≤ 16 := by
  have : k = 0 ∨ k = 1 ∨ k = 2 ∨ k = 3 ∨ k = 4 ∨ k = 5 := by omega
  rcases this with rfl | rfl | rfl | rfl | rfl | rfl <;> simp [pre, nums, SumP.be_length]
def numCells (s : Stamp) : List Value := [.int .i64 s.e, .int .i64 6, .int .i64 s.r, .int .i64 4, .int .i64 s.p, .int .i64 2, .int .i64 s.ps, .int .i64 2, .int .i64 s.l, .int .i64 2]
def Stamp.val (s : Stamp) : Value := .agg #[.int .i64 s.e, .int .i64 s.r, .int .i64 s.p, .int .i64 s.ps, .int .i64 s.l]

theorem nums_ok (s : Stamp) (hs : s.ok) (k : Nat) (hk : k < 5) : ∃ x z : Nat, (nums s)[k]? = some (x, z) ∧ 1 ≤ z ∧ z ≤ 8 ∧ x ≤ 9223372036854775807 ∧ x < 2 ^ (8 * z) ∧ (numCells s)[k * 2]? = some (.int .i64 x) ∧ (numCells s)[k * 2 + 1]? = some (.int .i64 z) := by
  obtain ⟨h1, h2, h3, h4, h5⟩ := hs
  have : k = 0 ∨ k = 1 ∨ k = 2 ∨ k = 3 ∨ k = 4 := by omega
  rcases this with rfl | rfl | rfl | rfl | rfl
  · exact ⟨s.e, 6, rfl, by omega, by omega, by omega, h1, rfl, rfl⟩
  · exact ⟨s.r, 4, rfl, by omega, by omega, by omega, h2, rfl, rfl⟩
  · exact ⟨s.p, 2, rfl, by omega, by omega, by omega, h3, rfl, rfl⟩
  · exact ⟨s.ps, 2, rfl, by omega, by omega, by omega, h4, rfl, rfl⟩
  · exact ⟨s.l, 2, rfl, by omega, by omega, by omega, h5, rfl, rfl⟩
theorem Own.congr_ {w : World} {base c : Nat} {A : Option Addr} {l m : List UInt8} (h : Own w base A c l) (e : m = l) : Own w base A c m := e ▸ h
theorem Own.ne {w : World} {base c : Nat} {A : Option Addr} {l : List UInt8} (h : Own w base A c l) {g : Nat} {t : TypeId} {cs : List Value} (hb : Blk w g t cs) (hne : t ≠ 5) : blkOf A ≠ some g := fun e => by
  obtain ⟨_, ⟨hv, h0⟩ | ⟨g', cap, cur, hv, hg, hh, r⟩⟩ := h
  · injection hv with hA
    rw [hA] at e; cases e
  · injection hv with hA
    rw [hA] at e
    obtain rfl : g' = g := Option.some.inj e
    have h2 : Blk w g' 5 cur.toList := by simpa [Blk] using hh
    exact blk_type hb h2 hne rfl

set_option maxHeartbeats 2000000 in
set_option maxRecDepth 100000 in
theorem bytes_any (s : Stamp) (B : Nat) (A : Option Addr) (c : Nat) (part : List UInt8) (w : World) (hs : s.ok) (hb : Byt w B A part) (hB : B ≤ w.heap.size) (hn : Nib w) (h0 : 0 < w.heap.size) (hp : part.length ≤ 492) :
    Calls Tryd.prog 67 #[.agg #[.int .i64 s.e, .int .i64 s.r, .int .i64 s.p, .int .i64 s.ps, .int .i64 s.l], .slice A part.length c] w fun e w' =>
      ∃ A' c', e = .returned (.slice A' 512 c') ∧ Fresh w' w.heap.size A' (s.bytes part) ∧ Below w.heap.size w w' := by
  have hmk : ∀ W, (Instr.makeSlice 23 (.int .i64 0) (.int .i64 512)).run Tryd.prog W = .ok (.slice (some ⟨W.heap.size, 0, none⟩) 0 512) (W.alloc (.cells (madeCells #[.int .u8 0] 512) 5)) := fun W => make_bytes_cap 512 (by omega) W
  have HS := Lib.hid hs
  have HB := Lib.hid hb
  have HN := Lib.hid hn
  clear hs hb hn
  go_enter Tryd.func67, Tryd.ntmps67
  go_wp2_with fail
  have hown0 := ((own_made (w.alloc (.cells #[.int .i64 s.e, .int .i64 s.r, .int .i64 s.p, .int .i64 s.ps, .int .i64 s.l] 111)) 512 (w.heap.size + 1) (by simp) (by omega)).kept (((Below.refl _ _).alloc (Nat.le_refl _) (.cells (numCells s).toArray 131))))
  have hblk0 : Blk ((((w.alloc (.cells #[.int .i64 s.e, .int .i64 s.r, .int .i64 s.p, .int .i64 s.ps, .int .i64 s.l] 111))).alloc (.cells (madeCells #[.int .u8 0] 512) 5)).alloc (.cells (numCells s).toArray 131)) (w.heap.size + 1 + 1) 131 (numCells s) := blk_new_at (by simp)
  have hbel0 : Below w.heap.size w ((((w.alloc (.cells #[.int .i64 s.e, .int .i64 s.r, .int .i64 s.p, .int .i64 s.ps, .int .i64 s.l] 111))).alloc (.cells (madeCells #[.int .u8 0] 512) 5)).alloc (.cells (numCells s).toArray 131)) := (((Below.refl _ w).alloc (Nat.le_refl _) _).alloc (by simp) _).alloc (by simp; omega) _
  rw [show (w.alloc (.cells #[.int .i64 s.e, .int .i64 s.r, .int .i64 s.p, .int .i64 s.ps, .int .i64 s.l] 111)).heap.size = w.heap.size + 1 by simp] at hown0
  have HS0 := Lib.hid (And.intro hown0 (And.intro hblk0 hbel0))
  clear hown0 hblk0 hbel0
  go_loopw [5, 28] (fun s5 s28 wr => ∃ (k : Nat) (A1 : Option Addr) (c1 : Nat), k ≤ 5 ∧ s28 = .int .i64 k ∧ s5 = .slice A1 (pre s k).length c1 ∧ Own wr (w.heap.size + 1) A1 c1 (pre s k) ∧ Blk wr (w.heap.size + 1 + 1) 131 (numCells s) ∧ Below w.heap.size w wr) (fun _ s28 _ => 5 - (intOf s28).toNat)
  case atStart => exact ⟨0, _, _, by omega, rfl, rfl, HS0.out.1, HS0.out.2.1, HS0.out.2.2⟩
  case round =>
    obtain ⟨k, A1, c1, hk, rfl, rfl, hown, hblk, hbel⟩ := hrel
    have hpl := pre_le s k hk
    by_cases hlt : k < 5
    · obtain ⟨x, z, hxz, hz1, hz8, hx63, hx2, hcx, hcz⟩ := nums_ok s HS.out k hlt
      have e1 : wr.cell? ⟨w.heap.size + 1 + 1, k * 2, none⟩ = some (.int .i64 x) := (hblk.cell _).trans hcx
      have e2 : wr.cell? ⟨w.heap.size + 1 + 1, k * 2 + 1, none⟩ = some (.int .i64 z) := (hblk.cell _).trans hcz
      have HO := Lib.hid hown
      have HBK := Lib.hid hblk
      have HBE := Lib.hid hbel
      have HPS := Lib.hid (pre_succ s k (x, z) hxz)
      clear hown hblk hbel hxz hcx hcz
      go_wp2_with fail
      refine (number_ok x z _ hz1 hz8 hx63 hx2).mono ?_
      rintro e w1 ⟨A2, rfl, hown2, hb2⟩
      have hbw : Below wr.heap.size wr w1 := ((Below.refl _ _).alloc (Nat.le_refl _) _).trans (hb2.mono (by simp))
      have HO1 := Lib.hid (HO.out.kept hbw)
      have HBK1 := Lib.hid (HBK.out.below hbw HBK.out.lt)
      have HBE1 := Lib.hid (HBE.out.trans (hbw.mono HBE.out.size))
      have HY := Lib.hid hown2.byt
      have hbl : (SumP.be x z).length = z := SumP.be_length x z
      have HBL := Lib.hid hbl
      clear hown2 hb2 hbw e1 e2 hx2 hx63 hbl
      go_wp2_with (at_builtin; refine wp_append_bytes rfl (.tmp 40) (.tmp 41) rfl (w.heap.size + 1) A1 c1 (pre s k) w1.heap.size A2 z (SumP.be x z) ?h1 ?h2 ?h3 ?h4 ?h5 ?h6 ?_)
      case h1 => rfl
      case h2 => rw [HBL.out]; rfl
      case h3 => exact HO1.out
      case h4 => exact HY.out
      case h5 => rw [HBL.out]; omega
      case h6 => have := HBE1.out.size; have := HBK1.out.lt; omega
      intro A3 c3 w2 hown3 hg3 hat3
      have HO3 := Lib.hid hown3
      have HBE3 := Lib.hid (HBE1.out.grown hg3 HBE1.out.size (fun k hk => by have := (HO1.out.blk_le k hk).1; omega))
      have HBK3 := Lib.hid (HBK1.out.grown hg3 (fun e => HO1.out.ne HBK1.out (by decide) e.symm))
      clear hown3 hg3 hat3
      have hsum : (pre s k).length + (SumP.be x z).length = (pre s (k + 1)).length := by rw [HPS.out, List.length_append]
      rw [hsum]
      have HSU := Lib.hid hsum
      clear hsum
      go_wp2_with fail
      refine ⟨⟨k + 1, A3, c3, by omega, by go_num, rfl, HO3.out.congr_ HPS.out, HBK3.out, HBE3.out⟩, by simp [intOf]; omega⟩
    · obtain rfl : k = 5 := by omega
      have h16 : (pre s 5).length = 16 := by rw [pre_all]; exact WalP.head_length s
      have HO := Lib.hid hown
      have HBK := Lib.hid hblk
      have HBE := Lib.hid hbel
      have H16 := Lib.hid h16
      have hl2 : (pre s 5 ++ part).length = 16 + part.length := by rw [List.length_append, h16]
      have HL2 := Lib.hid hl2
      have hbody : (pre s 5 ++ part) ++ List.replicate (492 - part.length) 0 = s.body part := by rw [pre_all]; rfl
      have HBD := Lib.hid hbody
      clear hown hblk hbel hpl h16 hl2 hbody
      rw [H16.out]
      go_wp2_with (at_builtin; refine wp_append_bytes rfl (.tmp 44) (.tmp 45) rfl (w.heap.size + 1) A1 c1 (pre s 5) wr.heap.size A c part ?h1 ?h2 ?h3 ?h4 ?h5 ?h6 ?_)
      case h1 => rw [H16.out]; rfl
      case h2 => rfl
      case h3 => exact HO.out
      case h4 => exact (HB.out.below (HBE.out.mono hB)).more (Nat.le_trans hB HBE.out.size)
      case h5 => rw [H16.out]; omega
      case h6 => have := HBK.out.lt; omega
      intro A3 c3 w2 hown3 hg3 hat3
      have HO3 := Lib.hid hown3
      have HBE3 := Lib.hid (HBE.out.grown hg3 HBE.out.size (fun k hk => by have := (HO.out.blk_le k hk).1; omega))
      have hz2 : w.heap.size + 1 ≤ w2.heap.size := by have := HBK.out.lt; have := hg3.size; omega
      obtain ⟨A4, c4, w3, hrun, hown4, hg4⟩ := run_append_zeros_own w2 23 (w.heap.size + 1) A3 c3 _ HO3.out (492 - part.length) (by rw [HL2.out]; omega) hz2
      clear hown3 hg3 hat3
      rw [HL2.out] at hrun
      have hsum : (pre s 5).length + part.length = 16 + part.length := by rw [H16.out]
      rw [hsum]
      have hk : IntKind.i64.wrap (508 - (16 + (part.length : Int))) = ((492 - part.length : Nat) : Int) := by rw [IntWalk.i64_in _ (by omega)]; omega
      have hk2 : (508 : Int) - (16 + (part.length : Int)) = ((492 - part.length : Nat) : Int) := by omega
      have HR := Lib.hid hrun
      clear hrun hsum
      go_wp2_with (at_builtin; refine Lib.wpList_append_run _ rfl _ _ _ _ rfl _ _ rfl rfl _ _ HR.out ?_)
      have HO4 : Hid (Own w3 (w.heap.size + 1) A4 c4 (s.body part)) := Lib.hid (hown4.congr_ HBD.out.symm)
      have HBE4 := Lib.hid (HBE3.out.grown hg4 HBE3.out.size (fun k hk => by have := (HO3.out.blk_le k hk).1; omega))
      have hz3 : w.heap.size ≤ w3.heap.size := HBE4.out.size
      have hb508 : (s.body part).length = 508 := WalP.body_length s part hp
      have hlb : (pre s 5).length + 492 = (s.body part).length := by rw [hb508, H16.out]
      rw [hlb]
      refine (seal_any w3.heap.size A4 c4 (s.body part) w3 HO4.out.byt (Nat.le_refl _) (HN.out.below HBE4.out h0) (by rw [hb508]; omega) (by omega)).mono ?_
      rintro e w4 ⟨A5, rfl, hfr, hb5⟩
      have hl5 : (SumP.sealed (s.body part)).length = 512 := WalP.bytes_length s part hp
      rw [hl5]
      have HX := Lib.hid (And.intro (hfr.more hz3) (HBE4.out.trans (hb5.mono hz3)))
      clear hfr hb5 hl5 hlb hb508 hown4 hg4
      go_wp2_with fail
      go_ret
      exact ⟨A5, 512, rfl, HX.out.1, HX.out.2⟩
end Go.Proofs.YteediemhcocgdaaDoor
