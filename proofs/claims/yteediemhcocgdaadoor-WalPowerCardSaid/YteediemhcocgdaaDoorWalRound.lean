/-
  wal's Open: one round. (The frame's slots are printed by genopen.py.)
-/
import Derived.Test.YteediemhcocgdaaDoorWalSt
import Derived.BigRegion
import Derived.Test.YteediemhcocgdaaDoorAppRun
namespace Go.Proofs.YteediemhcocgdaaDoor
open Go.RowKit Go.Shelf
open WalP (Stamp secs readR)
attribute [local go_sem] Oper.semAt_some
attribute [local go_sem ↓] appSem_eq


/-- The body of a function's first range over a function. -/
noncomputable def rangeBody : Code → Option Code
  | .rangeFunc _ _ _ b => some b
  | .seq a b => (rangeBody a).orElse fun _ => rangeBody b
  | .block _ c => rangeBody c
  | .cond _ a b => (rangeBody a).orElse fun _ => rangeBody b
  | _ => none
noncomputable def openBody : Code := (Tryd.f37.body.bind rangeBody).getD .skip

set_option maxHeartbeats 4000000 in
set_option maxRecDepth 100000 in
theorem open_round (n l b db frm many ep k g : Nat) (w0 : World) (f : Nat → List UInt8) (x0 x1 x2 x3 x4 x5 x6 x8 x9 x10 x11 x20 x21 x22 x23 x24 x25 x26 x27 x28 x29 x30 x31 x32 x33 x34 x35 x36 x37 x38 x39 x40 x41 x42 x43 x44 x45 x46 x47 x48 x49 x50 x51 x52 x53 x54 x55 x56 x57 x58 x59 x60 x61 x62 x63 x64 x65 x66 x67 x68 x69 x70 x71 x72 x73 x74 x75 x76 x77 x78 x79 x80 x81 x82 x83 x84 x85 x86 x87 x88 x89 x90 x91 x92 x93 x94 x95 x96 x97 x98 x99 x100 x101 x102 x103 x104 x105 x106 x107 x108 x109 x110 x111 x112 x113 x114 x115 x116 x117 x118 x119 x120 x121 x122 x123 x124 x125 x126 x127 x128 x129 x130 x131 x132 x133 x134 x135 x136 x137 x138 x139 x140 x141 x142 x143 x144 : Value)
    (W : World) (hb0 : w0.heap.size ≤ b) (hn : Nib w0) (h0 : 0 < w0.heap.size) (hJ : OpenJ b db frm many ep w0 f k W) (hk : k < many) (hmany : many ≤ 1073741824) (_hg : b ≤ g) (hblk : Blk W g 5 ((f k).map cu8)) (hl : (f k).length = 512) :
    openBody.wpIn (Fence.wide.inRound l) n Tryd.prog (fun e _ W' => KeepsOthers W W' ∧ ((e = .normal ∧ OpenJ b db frm many ep w0 f (k + 1) W') ∨ (∃ id, e = .exit id ∧ OpenX b db frm many ep w0 f id W'))) { tmps := #[x0, x1, x2, x3, x4, x5, x6, .pointer (some ⟨b, 0, none⟩), x8, x9, x10, x11, .pointer (some ⟨b + 2, 0, none⟩), .pointer (some ⟨b + 3, 0, none⟩), .pointer (some ⟨b + 4, 0, none⟩), .pointer (some ⟨b + 5, 0, none⟩), .pointer (some ⟨b + 6, 0, none⟩), .pointer (some ⟨b + 7, 0, none⟩), .int .i64 (k : Int), .slice (some ⟨g, 0, none⟩) 512 512, x20, x21, x22, x23, x24, x25, x26, x27, x28, x29, x30, x31, x32, x33, x34, x35, x36, x37, x38, x39, x40, x41, x42, x43, x44, x45, x46, x47, x48, x49, x50, x51, x52, x53, x54, x55, x56, x57, x58, x59, x60, x61, x62, x63, x64, x65, x66, x67, x68, x69, x70, x71, x72, x73, x74, x75, x76, x77, x78, x79, x80, x81, x82, x83, x84, x85, x86, x87, x88, x89, x90, x91, x92, x93, x94, x95, x96, x97, x98, x99, x100, x101, x102, x103, x104, x105, x106, x107, x108, x109, x110, x111, x112, x113, x114, x115, x116, x117, x118, x119, x120, x121, x122, x123, x124, x125, x126, x127, x128, x129, x130, x131, x132, x133, x134, x135, x136, x137, x138, x139, x140, x141, x142, x143, x144], defers := [] } W := by
  obtain ⟨hbel, s, v, A, c, Br, hsc, hst⟩ := hJ
  have HST := Lib.hid hst
  have HSC := Lib.hid hsc
  have HBEL := Lib.hid hbel
  have hN : Nib W := hn.below hbel h0
  have HR := Lib.hid (wread_any W.heap.size (some ⟨g, 0, none⟩) 512 (f k) W (fun _ => ⟨g, 0, rfl, hblk.lt, fun i hi => by rw [hblk.cell]; simp [hi, cu8, List.getD]⟩) (Nat.le_refl _) (by omega) hN (by have := hbel.size; omega) (by omega) hl)
  clear hst hsc hbel hN hblk
  simp only [openBody, Tryd.f37, rangeBody, Option.bind_some, Option.getD_some, Option.orElse_none, Option.orElse_some]
  gi_wp2
  refine ⟨trivial, fun h => (by cases h), ?_⟩
  refine (CallsIn.inRound l (callsIn_wide.2 HR.out)).mono ?_
  rintro e w1 ⟨hb1, hr⟩
  have HST1 := Lib.hid (HST.out.cl (.of_below hb1))
  have hsz : b + 12 ≤ w1.heap.size := by have := HST1.out.le; omega
  obtain ⟨st, A2, c2, is, rfl, his⟩ : ∃ (st : Stamp) (A2 : Option Addr) (c2 : Nat) (is : Bool), e = .returned (.tuple #[.agg #[.int .i64 st.e, .int .i64 st.r, .int .i64 st.p, .int .i64 st.ps, .int .i64 st.l], .slice A2 st.l c2, .bool is]) ∧
      ((is = false ∧ readR (f k) = none) ∨ (is = true ∧ ∃ part, readR (f k) = some (st, part) ∧ part.length = st.l ∧ Byt w1 w1.heap.size A2 part)) := by
    cases hrd : readR (f k) with
    | none =>
      rw [hrd] at hr
      exact ⟨⟨0, 0, 0, 0, 0⟩, none, 0, false, hr, .inl ⟨rfl, rfl⟩⟩
    | some q =>
      obtain ⟨st, part⟩ := q
      rw [hrd] at hr
      obtain ⟨A2, c2, h1, h2, h3⟩ := hr
      exact ⟨st, A2, c2, true, h1, .inr ⟨rfl, part, rfl, h2, h3⟩⟩
  have HIS := Lib.hid his
  have HB1 := Lib.hid hb1
  have hs2 : Below W.heap.size W (w1.alloc (.cells #[.int .i64 st.e, .int .i64 st.r, .int .i64 st.p, .int .i64 st.ps, .int .i64 st.l] 111)) := hb1.alloc (by have := hb1.size; omega) _
  have hblk2 : Blk (w1.alloc (.cells #[.int .i64 st.e, .int .i64 st.r, .int .i64 st.p, .int .i64 st.ps, .int .i64 st.l] 111)) w1.heap.size 111 (stCells st) := Blk.new w1 111 (stCells st)
  obtain ⟨W2, hW2⟩ : ∃ W2, w1.alloc (.cells #[.int .i64 st.e, .int .i64 st.r, .int .i64 st.p, .int .i64 st.ps, .int .i64 st.l] 111) = W2 := ⟨_, rfl⟩
  rw [hW2] at hs2 hblk2
  have HST2 := Lib.hid (HST.out.cl (.of_below hs2))
  have HPB : Hid (∀ part, Byt w1 w1.heap.size A2 part → Byt W2 w1.heap.size A2 part) := Lib.hid fun part h => by
    have h2 := h.below (w' := w1.alloc (.cells #[.int .i64 st.e, .int .i64 st.r, .int .i64 st.p, .int .i64 st.ps, .int .i64 st.l] 111)) ((Below.refl _ _).alloc (Nat.le_refl _) _)
    rw [hW2] at h2
    exact h2
  have HB2 := Lib.hid hs2
  have HK2 := Lib.hid hblk2
  clear hr his hb1 hs2 hblk2 HR HST HST1
  obtain ⟨Ao, co, hvo, hco⟩ := HST2.out.out.len
  subst hvo
  have hlen := scan_len HSC.out
  have hKW2 := Lib.hid (keeps_below HB2.out)
  have hBW2 := Lib.hid (HBEL.out.trans (HB2.out.mono HBEL.out.size))
  have hsb : b + 12 ≤ w1.heap.size := hsz
  have s0 : W2.cell? ⟨w1.heap.size, 0, none⟩ = some (.int .i64 st.e) := HK2.out.cell 0
  have s3 : W2.cell? ⟨w1.heap.size, 3, none⟩ = some (.int .i64 st.ps) := HK2.out.cell 3
  have q6 : W2.cell? ⟨b + 6, 0, none⟩ = some (.int .i64 s.part) := HST2.out.qb.cell 0
  have q5 : W2.cell? ⟨b + 5, 0, none⟩ = some (.int .i64 s.parts) := HST2.out.pb.cell 0
  have z5 : W2.frozen? ⟨b + 5, 0, none⟩ = false := HST2.out.pb.frozen 0
  -- the world behind the first test
  obtain ⟨W3, hW3⟩ : ∃ W3, (if s.part = 0 then W2.setCell ⟨b + 5, 0, none⟩ (.int .i64 st.ps) else W2) = W3 := ⟨_, rfl⟩
  have HST3 : Hid (St b db frm many ep W3 { s with parts := s.ps st } (.slice Ao s.out.length co) A c Br ∧ Blk W3 w1.heap.size 111 (stCells st) ∧ KeepsOthers W W3 ∧ Below w0.heap.size w0 W3 ∧ w1.heap.size < W3.heap.size ∧ ∀ part, Byt W2 w1.heap.size A2 part → Byt W3 W3.heap.size A2 part) := Lib.hid (by
    rw [← hW3]
    unfold Scan.ps
    split
    · exact ⟨HST2.out.parts_ st.ps, HK2.out.far (by simp; omega) _, hKW2.out.trans (.setCell _ _ _), hBW2.out.setCell (p := ⟨b + 5, 0, none⟩) (by simp; omega) _, by have := HK2.out.lt; simpa using this, fun part h => byt_far h HST2.out.pb (by simp) _ (by have := HK2.out.lt; simp; omega)⟩
    · exact ⟨HST2.out, HK2.out, hKW2.out, hBW2.out, HK2.out.lt, fun part h => h.more (by have := HK2.out.lt; omega)⟩)
  have HX3 : Hid (StX b db frm many ep W3 s (.slice Ao s.out.length co)) := Lib.hid (by have h3 := HST3.out.1.x; exact ⟨h3.1, h3.2, h3.3, h3.4, h3.5⟩)
  have q0 : W3.cell? ⟨b, 0, none⟩ = some (.int .i64 ep) := HST3.out.1.eb.cell 0
  have q3 : W3.cell? ⟨b + 3, 0, none⟩ = some (.slice Ao s.out.length co) := HST3.out.1.ob.cell 0
  have q4 : W3.cell? ⟨b + 4, 0, none⟩ = some (.slice A s.rc.length c) := HST3.out.1.rb.cell 0
  have q5' : W3.cell? ⟨b + 5, 0, none⟩ = some (.int .i64 (s.ps st : Nat)) := HST3.out.1.pb.cell 0
  have q6' : W3.cell? ⟨b + 6, 0, none⟩ = some (.int .i64 s.part) := HST3.out.1.qb.cell 0
  have t0 : W3.cell? ⟨w1.heap.size, 0, none⟩ = some (.int .i64 st.e) := HST3.out.2.1.cell 0
  have t1 : W3.cell? ⟨w1.heap.size, 1, none⟩ = some (.int .i64 st.r) := HST3.out.2.1.cell 1
  have t2 : W3.cell? ⟨w1.heap.size, 2, none⟩ = some (.int .i64 st.p) := HST3.out.2.1.cell 2
  have t3 : W3.cell? ⟨w1.heap.size, 3, none⟩ = some (.int .i64 st.ps) := HST3.out.2.1.cell 3
  -- where the sector does not go on
  have HNO : Hid (¬ (is = true ∧ s.fits ep st) → ∀ W', KeepsOthers W W' → Below w0.heap.size w0 W' → StX b db frm many ep W' s (.slice Ao s.out.length co) → KeepsOthers W W' ∧ ((Exit.exit 0 = .normal ∧ OpenJ b db frm many ep w0 f (k + 1) W') ∨ (∃ id, Exit.exit 0 = .exit id ∧ OpenX b db frm many ep w0 f id W'))) := Lib.hid (by
    intro hno W' h1 h2 h3
    refine ⟨h1, .inr ⟨0, rfl, ?_⟩⟩
    unfold OpenX
    refine ⟨rfl, h2, k, s, _, hk, HSC.out, ?_, ⟨h3.1, h3.2, h3.3, h3.4, h3.5⟩⟩
    show (scanTo ep f k).bind (scan1 ep k (f k)) = none
    rw [HSC.out, Option.bind_some]
    unfold scan1
    rcases HIS.out with ⟨_, h⟩ | ⟨h, part, hr, _⟩
    · rw [h]
    · rw [hr]
      simp only
      rw [if_neg fun hf => hno ⟨h, hf⟩])
  by_cases hp0 : s.part = 0
  · rw [if_pos hp0] at hW3
    have hp0' : ((s.part : Int) == 0) = true := by simp [hp0]
    clear hp0
    rcases hb : is with _ | _
    · gi_wp2
      exact HNO.out (by rw [hb]; simp) _ HST3.out.2.2.1 HST3.out.2.2.2.1 HX3.out
    by_cases e1 : st.e = ep
    case neg =>
      have e1' : ¬ ((st.e : Int) = (ep : Int)) := by omega
      gi_wp2
      exact HNO.out (fun h => e1 h.2.1) _ HST3.out.2.2.1 HST3.out.2.2.2.1 HX3.out
    have e1' : (((st.e : Int) = (ep : Int)) = True) := eq_true (by omega)
    have b1' : ((st.e : Int) != (ep : Int)) = false := bne_eq_false_iff_eq.2 (by omega)
    have E1 := Lib.hid e1
    clear e1
    by_cases e2 : st.r = s.out.length
    case neg =>
      have e2' : ¬ ((st.r : Int) = (s.out.length : Int)) := by omega
      gi_wp2
      exact HNO.out (fun h => e2 h.2.2.1) _ HST3.out.2.2.1 HST3.out.2.2.2.1 HX3.out
    have e2' : (((st.r : Int) = (s.out.length : Int)) = True) := eq_true (by omega)
    have b2' : ((st.r : Int) != (s.out.length : Int)) = false := bne_eq_false_iff_eq.2 (by omega)
    have E2 := Lib.hid e2
    clear e2
    by_cases e3 : st.p = s.part
    case neg =>
      have e3' : ¬ ((st.p : Int) = (s.part : Int)) := by omega
      gi_wp2
      exact HNO.out (fun h => e3 h.2.2.2.1) _ HST3.out.2.2.1 HST3.out.2.2.2.1 HX3.out
    have e3' : (((st.p : Int) = (s.part : Int)) = True) := eq_true (by omega)
    have b3' : ((st.p : Int) != (s.part : Int)) = false := bne_eq_false_iff_eq.2 (by omega)
    have E3 := Lib.hid e3
    clear e3
    by_cases e4 : st.ps = s.ps st
    case neg =>
      have e4' : ¬ ((st.ps : Int) = (s.ps st : Int)) := by omega
      gi_wp2
      exact HNO.out (fun h => e4 h.2.2.2.2.1) _ HST3.out.2.2.1 HST3.out.2.2.2.1 HX3.out
    have e4' : (((st.ps : Int) = (s.ps st : Int)) = True) := eq_true (by omega)
    have b4' : ((st.ps : Int) != (s.ps st : Int)) = false := bne_eq_false_iff_eq.2 (by omega)
    have E4 := Lib.hid e4
    clear e4
    by_cases e5 : s.part < s.ps st
    case neg =>
      have e5' : (s.ps st : Int) ≤ (s.part : Int) := by omega
      gi_wp2
      exact HNO.out (fun h => e5 h.2.2.2.2.2) _ HST3.out.2.2.1 HST3.out.2.2.2.1 HX3.out
    have e5' : ¬ (s.ps st : Int) ≤ (s.part : Int) := by omega
    obtain ⟨_, part, hr, hpl, hpb⟩ := HIS.out.resolve_left (by rw [hb]; simp)
    have HRD := Lib.hid hr
    have HPL := Lib.hid hpl
    have hfit : s.fits ep st := ⟨E1.out, E2.out, E3.out, E4.out, e5⟩
    have HFIT := Lib.hid hfit
    have hl492 := readR_l hr
    obtain ⟨A', c', W4, hrun, hown, hgrow, hblkA⟩ := run_append_bytes W3 23 Br A c s.rc HST3.out.1.rc W3.heap.size A2 c2 part (HST3.out.2.2.2.2.2 part (HPB.out part hpb)) (by omega) HST3.out.1.le.2
    have HST5 := Lib.hid (HST3.out.1.app hgrow hown)
    have HSB4 := Lib.hid (HST3.out.2.1.grownA HST3.out.1.rc hgrow (by decide))
    have HKO4 := Lib.hid (keeps_own HST3.out.1.rc hgrow)
    have HBL4 : Hid (Below w0.heap.size w0 W4) := Lib.hid (HST3.out.2.2.2.1.grown hgrow HST3.out.2.2.2.1.size fun x hx => by
      have := (HST3.out.1.rc.blk_le x hx).1
      have := HST3.out.1.le.1
      omega)
    have r4 : W4.cell? ⟨b + 4, 0, none⟩ = some (.slice A s.rc.length c) := (HST3.out.1.rb.grownA HST3.out.1.rc hgrow (by decide)).cell 0
    have z4 : W4.frozen? ⟨b + 4, 0, none⟩ = false := (HST3.out.1.rb.grownA HST3.out.1.rc hgrow (by decide)).frozen 0
    rw [hpl, appSem_eq] at hrun
    generalize hL1 : s.rc ++ part = L1 at *
    have HL1 := Lib.hid hL1
    have hlL : L1.length ≤ 140737488355328 := by rw [← hL1]; simp; omega
    clear hL1
    clear hr hpl hpb hfit hown hgrow hblkA
    obtain ⟨W5, hW5⟩ : ∃ W5, W4.setCell ⟨b + 4, 0, none⟩ (.slice A' L1.length c') = W5 := ⟨_, rfl⟩
    have HSB5 : Hid (Blk W5 w1.heap.size 111 (stCells st)) := Lib.hid (by rw [← hW5]; exact HSB4.out.far (by simp; omega) _)
    have HKO5 : Hid (KeepsOthers W W5) := Lib.hid (by rw [← hW5]; exact (HST3.out.2.2.1.trans HKO4.out).trans (.setCell _ _ _))
    have HBL5 : Hid (Below w0.heap.size w0 W5) := Lib.hid (by rw [← hW5]; exact HBL4.out.setCell (p := ⟨b + 4, 0, none⟩) (by simp; omega) _)
    rw [hW5] at HST5
    have r6 : W5.cell? ⟨b + 6, 0, none⟩ = some (.int .i64 s.part) := HST5.out.qb.cell 0
    have z6 : W5.frozen? ⟨b + 6, 0, none⟩ = false := HST5.out.qb.frozen 0
    have hwr : IntKind.i64.wrap ((s.part : Int) + 1) = (s.part : Int) + 1 := IntWalk.i64_in _ (by omega)
    obtain ⟨W6, hW6⟩ : ∃ W6, W5.setCell ⟨b + 6, 0, none⟩ (.int .i64 ((s.part : Int) + 1)) = W6 := ⟨_, rfl⟩
    have HSB6 : Hid (Blk W6 w1.heap.size 111 (stCells st)) := Lib.hid (by rw [← hW6]; exact HSB5.out.far (by simp; omega) _)
    have HKO6 : Hid (KeepsOthers W W6) := Lib.hid (by rw [← hW6]; exact HKO5.out.trans (.setCell _ _ _))
    have HBL6 : Hid (Below w0.heap.size w0 W6) := Lib.hid (by rw [← hW6]; exact HBL5.out.setCell (p := ⟨b + 6, 0, none⟩) (by simp; omega) _)
    have HST6 : Hid (St b db frm many ep W6 { s with rc := L1, parts := s.ps st, part := s.part + 1 } (.slice Ao s.out.length co) A' c' Br) := Lib.hid (by
      have h6 := HST5.out.part_ (s.part + 1)
      rw [show ((s.part + 1 : Nat) : Int) = (s.part : Int) + 1 by omega, hW6] at h6
      exact h6)
    have u6 : W6.cell? ⟨b + 6, 0, none⟩ = some (.int .i64 ((s.part : Int) + 1)) := by have := HST6.out.qb.cell 0; simpa using this
    have u5 : W6.cell? ⟨b + 5, 0, none⟩ = some (.int .i64 (s.ps st : Nat)) := HST6.out.pb.cell 0
    have u4 : W6.cell? ⟨w1.heap.size, 4, none⟩ = some (.int .i64 st.l) := HSB6.out.cell 4
    by_cases e6 : (s.part : Int) + 1 < (s.ps st : Int)
    · by_cases e7 : (st.l : Int) < 492
      · gi_wp2
        refine ⟨HKO6.out, .inr ⟨0, rfl, ?_⟩⟩
        unfold OpenX
        have h6 := HST6.out.x
        refine ⟨rfl, HBL6.out, k, s, _, hk, HSC.out, ?_, ⟨h6.1, h6.2, h6.3, h6.4, h6.5⟩⟩
        show (scanTo ep f k).bind _ = none
        rw [HSC.out, Option.bind_some]
        unfold scan1
        rw [HRD.out]
        simp only
        rw [if_pos HFIT.out, if_pos (by omega), if_pos (by omega)]
      · gi_wp2
        refine ⟨HKO6.out, ?_⟩
        unfold OpenJ
        refine ⟨HBL6.out, _, _, _, _, _, ?_, HST6.out⟩
        show (scanTo ep f k).bind _ = _
        rw [HSC.out, Option.bind_some]
        unfold scan1
        rw [HRD.out]
        simp only
        rw [if_pos HFIT.out, if_pos (by omega), if_neg (by omega), HL1.out]
    · gi_wp2
      have hS20 : W6.drew.cell? ⟨b + 4, 0, none⟩ = some (.slice A' L1.length c') ∧ W6.drew.cell? ⟨b + 5, 0, none⟩ = some (.int .i64 (s.ps st : Nat)) := ⟨HST6.out.rb.cell 0, u5⟩
      exact region_ex (fun w' => w'.cell? ⟨b + 4, 0, none⟩ = some (.slice A' L1.length c') ∧ w'.cell? ⟨b + 5, 0, none⟩ = some (.int .i64 (s.ps st : Nat))) (by kernel_rfl) (by kernel_rfl) W6.drew rfl ⟨_, _, (by
        refine take_ 0 117 (.slice A' L1.length c') rfl rfl (by kernel_rfl) (by kernel_rfl) (by kernel_rfl) (by rfl) (fun w hw => by simp [go_sem, hw.1]) hS20 ?_
        simp only [List.setIfInBounds_toArray, List.set_cons_zero, List.set_cons_succ]
        refine take_ 1 118 (.int .i64 (L1.length : Int)) rfl rfl (by kernel_rfl) (by kernel_rfl) (by kernel_rfl) (by rfl) (fun w hw => by simp [go_sem]) hS20 ?_
        simp only [List.setIfInBounds_toArray, List.set_cons_zero, List.set_cons_succ]
        refine take_ 3 120 (.int .i64 (s.ps st : Nat)) rfl rfl (by kernel_rfl) (by kernel_rfl) (by kernel_rfl) (by rfl) (fun w hw => by simp [go_sem, hw.2]) hS20 ?_
        simp only [List.setIfInBounds_toArray, List.set_cons_zero, List.set_cons_succ]
        refine call_ 2 119 (.int .i64 (secs L1.length : Nat)) W6.drew W6.drew (f := 40) (args := #[.int .i64 (L1.length : Int)]) rfl rfl (by kernel_rfl) (by rfl) (by simp [go_sem]) ((sectors_any_ L1.length W6.drew (by omega)).mono (by rintro e x ⟨rfl, rfl⟩; exact ⟨rfl, rfl⟩)) hS20 ?_
        simp only [List.setIfInBounds_toArray, List.set_cons_zero, List.set_cons_succ]
        refine take_ 4 121 (.bool ((secs L1.length : Int) != (s.ps st : Int))) rfl rfl (by kernel_rfl) (by kernel_rfl) (by kernel_rfl) (by rfl) (fun w hw => by simp [go_sem]) hS20 ?_
        simp only [List.setIfInBounds_toArray, List.set_cons_zero, List.set_cons_succ]
        exact done_ (by kernel_rfl) ⟨rfl, rfl⟩ _), (by
        by_cases e8 : secs L1.length = s.ps st
        case neg =>
          have e8' : ((secs L1.length : Int) != (s.ps st : Int)) = true := by rw [bne_iff_ne]; omega
          have e8'' : ¬ ((secs L1.length : Int) = (s.ps st : Int)) := by omega
          gi_wp2
          refine ⟨HKO6.out.trans (.drew _), .inr ⟨0, rfl, ?_⟩⟩
          unfold OpenX
          have h6 := (HST6.out.cl (W' := W6.drew) (.of_below (Below.refl _ _).drew)).x
          refine ⟨rfl, HBL6.out.drew, k, s, _, hk, HSC.out, ?_, ⟨h6.1, h6.2, h6.3, h6.4, h6.5⟩⟩
          show (scanTo ep f k).bind _ = none
          rw [HSC.out, Option.bind_some]
          unfold scan1
          rw [HRD.out]
          simp only
          rw [if_pos HFIT.out, if_neg (by omega), HL1.out, if_neg e8]
        have e8' : ((secs L1.length : Int) != (s.ps st : Int)) = false := bne_eq_false_iff_eq.2 (by omega)
        have e8'' : ((secs L1.length : Int) = (s.ps st : Int)) = True := eq_true (by omega)
        have E8 := Lib.hid e8
        clear e8
        gi_wp2
        clear e1' e2' e3' e4' b1' b2' b3' b4' q0 q3 q4 q5' q6' t0 t1 t2 t3 hrun r4 z4 hW5 r6 z6 hwr hW6 u6 u5 u4
        have HSTD : Hid (St b db frm many ep W6.drew.drew { s with rc := L1, parts := s.ps st, part := s.part + 1 } (.slice Ao s.out.length co) A' c' Br) := Lib.hid (HST6.out.cl (.of_below (Below.refl _ _).drew.drew))
        have HKOD : Hid (KeepsOthers W W6.drew.drew) := Lib.hid ((HKO6.out.trans (.drew _)).trans (.drew _))
        have HBLD : Hid (Below w0.heap.size w0 W6.drew.drew) := Lib.hid HBL6.out.drew.drew
        generalize hD : W6.drew.drew = D at *
        have hL40 : L1.length ≤ 1099511627776 := by rw [← HL1.out]; simp; omega
        obtain ⟨A3, c3, M2, Ap, cp, M4, hr2, hr4, hM2, hx2, hx4, hko, hbe, hs4, hrows⟩ := rows_push HSTD.out hL40 (by show s.out.length ≤ _; omega)
        have HROWS := Lib.hid hrows
        have HX2 := Lib.hid hx2
        have HX4 := Lib.hid hx4
        have HKO4' := Lib.hid hko
        have HBE := Lib.hid hbe
        clear hrows hx2 hx4 hko hbe
        have hmk := make_bytes_cap L1.length (by omega) D
        obtain ⟨M1, hM1⟩ : ∃ M1, D.alloc (.cells (madeCells #[.int .u8 0] L1.length) 5) = M1 := ⟨_, rfl⟩
        rw [hM1] at hmk hr2
        obtain ⟨M3, hM3⟩ : ∃ M3, M2.alloc (.cells #[.slice A3 L1.length c3] 23) = M3 := ⟨_, rfl⟩
        rw [hM3] at hr4
        obtain ⟨M5, hM5⟩ : ∃ M5, M4.setCell ⟨b + 3, 0, none⟩ (.slice Ap (s.out.length + 1) cp) = M5 := ⟨_, rfl⟩
        have k4D : D.cell? ⟨b + 4, 0, none⟩ = some (.slice A' L1.length c') := HSTD.out.rb.cell 0
        have k3D : D.cell? ⟨b + 3, 0, none⟩ = some (.slice Ao s.out.length co) := HSTD.out.ob.cell 0
        have k41 : M1.cell? ⟨b + 4, 0, none⟩ = some (.slice A' L1.length c') := by rw [← hM1]; exact (HSTD.out.rb.alloc _).cell 0
        have k31 : M1.cell? ⟨b + 3, 0, none⟩ = some (.slice Ao s.out.length co) := by rw [← hM1]; exact (HSTD.out.ob.alloc _).cell 0
        have B42 : Blk M2 (b + 4) 23 [.slice A' L1.length c'] := (HX2.out _ (by omega)).trans HSTD.out.rb
        have B32 : Blk M2 (b + 3) 36 [.slice Ao s.out.length co] := (HX2.out _ (by omega)).trans HSTD.out.ob
        have k42 : M2.cell? ⟨b + 4, 0, none⟩ = some (.slice A' L1.length c') := B42.cell 0
        have k32 : M2.cell? ⟨b + 3, 0, none⟩ = some (.slice Ao s.out.length co) := B32.cell 0
        have k43 : M3.cell? ⟨b + 4, 0, none⟩ = some (.slice A' L1.length c') := by rw [← hM3]; exact (B42.alloc _).cell 0
        have k33 : M3.cell? ⟨b + 3, 0, none⟩ = some (.slice Ao s.out.length co) := by rw [← hM3]; exact (B32.alloc _).cell 0
        have B44 : Blk M4 (b + 4) 23 [.slice A' L1.length c'] := (HX4.out _ (by omega)).trans HSTD.out.rb
        have B34 : Blk M4 (b + 3) 36 [.slice Ao s.out.length co] := (HX4.out _ (by omega)).trans HSTD.out.ob
        have k44 : M4.cell? ⟨b + 4, 0, none⟩ = some (.slice A' L1.length c') := B44.cell 0
        have k34 : M4.cell? ⟨b + 3, 0, none⟩ = some (.slice Ao s.out.length co) := B34.cell 0
        have z34 : M4.frozen? ⟨b + 3, 0, none⟩ = false := B34.frozen 0
        have k45 : M5.cell? ⟨b + 4, 0, none⟩ = some (.slice A' L1.length c') := by rw [← hM5]; exact (B44.far (by simp) _).cell 0
        clear B42 B32 B44 B34
        exact region_ex (fun w' => w'.cell? ⟨b + 4, 0, none⟩ = some (.slice A' L1.length c')) (by kernel_rfl) (by kernel_rfl) D hD ⟨_, _, (by
          refine take_ 1 123 (.slice A' L1.length c') rfl rfl (by kernel_rfl) (by kernel_rfl) (by kernel_rfl) (by rfl) (fun w hw => by simp [go_sem, hw]) k4D ?_
          simp only [List.setIfInBounds_toArray, List.set_cons_zero, List.set_cons_succ]
          refine take_ 2 124 (.int .i64 (L1.length : Int)) rfl rfl (by kernel_rfl) (by kernel_rfl) (by kernel_rfl) (by rfl) (fun w hw => by simp [go_sem]) k4D ?_
          simp only [List.setIfInBounds_toArray, List.set_cons_zero, List.set_cons_succ]
          refine take_ 4 126 (.slice A' L1.length c') rfl rfl (by kernel_rfl) (by kernel_rfl) (by kernel_rfl) (by rfl) (fun w hw => by simp [go_sem, hw]) k4D ?_
          simp only [List.setIfInBounds_toArray, List.set_cons_zero, List.set_cons_succ]
          refine two_ 0 122 3 125 (.slice Ao s.out.length co) (.slice (some ⟨D.heap.size, 0, none⟩) 0 L1.length) D M1 rfl rfl rfl rfl (by kernel_rfl) (by rfl) (by rfl) (by simp [go_sem, k3D]) (by simp [go_sem, hmk]) k4D k41 ?_ ?_
          · simp only [List.setIfInBounds_toArray, List.set_cons_zero, List.set_cons_succ]
            refine one_ 3 125 (.slice (some ⟨D.heap.size, 0, none⟩) 0 L1.length) M1 rfl rfl (by kernel_rfl) (by rfl) (by simp [go_sem, hmk]) k41 ?_
            simp only [List.setIfInBounds_toArray, List.set_cons_zero, List.set_cons_succ]
            refine one_ 5 127 (.slice A3 L1.length c3) M2 rfl rfl (by kernel_rfl) (by rfl) (by simp [go_sem, hr2]) k42 ?_
            simp only [List.setIfInBounds_toArray, List.set_cons_zero, List.set_cons_succ]
            refine one_ 6 128 (.slice (some ⟨M2.heap.size, 0, none⟩) 1 1) M3 rfl rfl (by kernel_rfl) (by rfl) (by simp [go_sem, hM3]) k43 ?_
            simp only [List.setIfInBounds_toArray, List.set_cons_zero, List.set_cons_succ]
            refine one_ 7 129 (.slice Ap (s.out.length + 1) cp) M4 rfl rfl (by kernel_rfl) (by rfl) (by simp [go_sem, hr4]) k44 ?_
            simp only [List.setIfInBounds_toArray, List.set_cons_zero, List.set_cons_succ]
            refine st_ 8 M5 rfl rfl (by kernel_rfl) (by rfl) (by simp [go_sem, k34, z34, hM5]) k45 ?_
            exact done_ (by kernel_rfl) ⟨rfl, rfl⟩ _
          · simp only [List.setIfInBounds_toArray, List.set_cons_zero, List.set_cons_succ]
            refine two_ 0 122 5 127 (.slice Ao s.out.length co) (.slice A3 L1.length c3) M1 M2 rfl rfl rfl rfl (by kernel_rfl) (by rfl) (by rfl) (by simp [go_sem, k31]) (by simp [go_sem, hr2]) k41 k42 ?_ ?_
            · simp only [List.setIfInBounds_toArray, List.set_cons_zero, List.set_cons_succ]
              refine one_ 5 127 (.slice A3 L1.length c3) M2 rfl rfl (by kernel_rfl) (by rfl) (by simp [go_sem, hr2]) k42 ?_
              simp only [List.setIfInBounds_toArray, List.set_cons_zero, List.set_cons_succ]
              refine one_ 6 128 (.slice (some ⟨M2.heap.size, 0, none⟩) 1 1) M3 rfl rfl (by kernel_rfl) (by rfl) (by simp [go_sem, hM3]) k43 ?_
              simp only [List.setIfInBounds_toArray, List.set_cons_zero, List.set_cons_succ]
              refine one_ 7 129 (.slice Ap (s.out.length + 1) cp) M4 rfl rfl (by kernel_rfl) (by rfl) (by simp [go_sem, hr4]) k44 ?_
              simp only [List.setIfInBounds_toArray, List.set_cons_zero, List.set_cons_succ]
              refine st_ 8 M5 rfl rfl (by kernel_rfl) (by rfl) (by simp [go_sem, k34, z34, hM5]) k45 ?_
              exact done_ (by kernel_rfl) ⟨rfl, rfl⟩ _
            · simp only [List.setIfInBounds_toArray, List.set_cons_zero, List.set_cons_succ]
              refine two_ 0 122 6 128 (.slice Ao s.out.length co) (.slice (some ⟨M2.heap.size, 0, none⟩) 1 1) M2 M3 rfl rfl rfl rfl (by kernel_rfl) (by rfl) (by rfl) (by simp [go_sem, k32]) (by simp [go_sem, hM3]) k42 k43 ?_ ?_
              · simp only [List.setIfInBounds_toArray, List.set_cons_zero, List.set_cons_succ]
                refine one_ 6 128 (.slice (some ⟨M2.heap.size, 0, none⟩) 1 1) M3 rfl rfl (by kernel_rfl) (by rfl) (by simp [go_sem, hM3]) k43 ?_
                simp only [List.setIfInBounds_toArray, List.set_cons_zero, List.set_cons_succ]
                refine one_ 7 129 (.slice Ap (s.out.length + 1) cp) M4 rfl rfl (by kernel_rfl) (by rfl) (by simp [go_sem, hr4]) k44 ?_
                simp only [List.setIfInBounds_toArray, List.set_cons_zero, List.set_cons_succ]
                refine st_ 8 M5 rfl rfl (by kernel_rfl) (by rfl) (by simp [go_sem, k34, z34, hM5]) k45 ?_
                exact done_ (by kernel_rfl) ⟨rfl, rfl⟩ _
              · simp only [List.setIfInBounds_toArray, List.set_cons_zero, List.set_cons_succ]
                refine one_ 0 122 (.slice Ao s.out.length co) M3 rfl rfl (by kernel_rfl) (by rfl) (by simp [go_sem, k33]) k43 ?_
                simp only [List.setIfInBounds_toArray, List.set_cons_zero, List.set_cons_succ]
                refine one_ 7 129 (.slice Ap (s.out.length + 1) cp) M4 rfl rfl (by kernel_rfl) (by rfl) (by simp [go_sem, hr4]) k44 ?_
                simp only [List.setIfInBounds_toArray, List.set_cons_zero, List.set_cons_succ]
                refine st_ 8 M5 rfl rfl (by kernel_rfl) (by rfl) (by simp [go_sem, k34, z34, hM5]) k45 ?_
                exact done_ (by kernel_rfl) ⟨rfl, rfl⟩ _), (by
          gi_wp2
          obtain ⟨D2, hD2⟩ : ∃ D2, M5.drew = D2 := ⟨_, rfl⟩
          have far5 : ∀ (x : Nat) (t : TypeId) (cs : List Value), x < b + 12 → x ≠ b + 3 → Blk D x t cs → Blk D2 x t cs := fun x t cs hx hne hb => by
            rw [← hD2, ← hM5]
            exact Blk.far ((HX4.out x hx).trans hb) (by simpa using hne) _
          have o5 : Blk D2 (b + 3) 36 [.slice Ap (s.out.length + 1) cp] := by
            rw [← hD2, ← hM5]
            exact Blk.set_ (cs := [.slice Ao s.out.length co]) ((HX4.out _ (by omega)).trans HSTD.out.ob) 0 _
          have l5 : Blk D2 (b + 1) 105 _ := far5 _ _ _ (by omega) (by omega) HSTD.out.lg
          have x5 : Blk D2 (b + 2) 56 _ := far5 _ _ _ (by omega) (by omega) HSTD.out.lx
          have RO5 : Hid (RowsAt D2 (b + 12) M4.heap.size (.slice Ap (s.out.length + 1) cp) (s.out ++ [L1])) := Lib.hid (by
            rw [← hD2, ← hM5]
            exact (HROWS.out.far (by omega) _ _).cl (.of_below (Below.refl _ _).drew))
          have KO5 : Hid (KeepsOthers W D2) := Lib.hid (by
            rw [← hD2, ← hM5]
            exact ((HKOD.out.trans HKO4'.out).trans (.setCell _ _ _)).trans (.drew _))
          have BL5 : Hid (Below w0.heap.size w0 D2) := Lib.hid (by
            rw [← hD2, ← hM5]
            exact ((HBE.out _ _ hb0 HBLD.out).setCell (p := ⟨b + 3, 0, none⟩) (by simp; omega) _).drew)
          have SZ5 : M4.heap.size ≤ D2.heap.size := by rw [← hD2, ← hM5]; simp
          have c5 : D2.cell? ⟨b + 3, 0, none⟩ = some (.slice Ap (s.out.length + 1) cp) := o5.cell 0
          have cx5 : D2.cell? ⟨b + 2, 0, none⟩ = some (.pointer (some ⟨b + 1, 0, none⟩)) := x5.cell 0
          have c54 : D2.cell? ⟨b + 1, 4, none⟩ = some (.int .i64 s.out.length) := l5.cell 4
          have z54 : D2.frozen? ⟨b + 1, 4, none⟩ = false := l5.frozen 4
          obtain ⟨E1, hE1⟩ : ∃ E1, D2.setCell ⟨b + 1, 4, none⟩ (.int .i64 ((s.out.length : Int) + 1)) = E1 := ⟨_, rfl⟩
          have l6 := l5.set_ 4 (.int .i64 ((s.out.length : Int) + 1))
          rw [hE1] at l6
          have c65 : E1.cell? ⟨b + 1, 5, none⟩ = some (.int .i64 s.used) := l6.cell 5
          have z65 : E1.frozen? ⟨b + 1, 5, none⟩ = false := l6.frozen 5
          have c6 : E1.cell? ⟨b + 3, 0, none⟩ = some (.slice Ap (s.out.length + 1) cp) := by rw [← hE1]; exact (o5.far (by simp) _).cell 0
          have cx6 : E1.cell? ⟨b + 2, 0, none⟩ = some (.pointer (some ⟨b + 1, 0, none⟩)) := by rw [← hE1]; exact (x5.far (by simp) _).cell 0
          obtain ⟨E2, hE2⟩ : ∃ E2, E1.setCell ⟨b + 1, 5, none⟩ (.int .i64 ((k : Int) + 1)) = E2 := ⟨_, rfl⟩
          have l7 := l6.set_ 5 (.int .i64 ((k : Int) + 1))
          rw [hE2] at l7
          have c7 : E2.cell? ⟨b + 3, 0, none⟩ = some (.slice Ap (s.out.length + 1) cp) := by rw [← hE2, ← hE1]; exact ((o5.far (by simp) _).far (by simp) _).cell 0
          have cx7 : E2.cell? ⟨b + 2, 0, none⟩ = some (.pointer (some ⟨b + 1, 0, none⟩)) := by rw [← hE2, ← hE1]; exact ((x5.far (by simp) _).far (by simp) _).cell 0
          have far7 : ∀ (x : Nat) (t : TypeId) (cs : List Value), x ≠ b + 1 → Blk D2 x t cs → Blk E2 x t cs := fun x t cs hne hb => by
            rw [← hE2, ← hE1]
            exact (hb.far (by simpa using hne) _).far (by simpa using hne) _
          have r7 : Blk E2 (b + 4) 23 _ := far7 _ _ _ (by omega) (far5 _ _ _ (by omega) (by omega) HSTD.out.rb)
          have q7 : Blk E2 (b + 6) 3 _ := far7 _ _ _ (by omega) (far5 _ _ _ (by omega) (by omega) HSTD.out.qb)
          have cr7 : E2.cell? ⟨b + 4, 0, none⟩ = some (.slice A' L1.length c') := r7.cell 0
          have zr7 : E2.frozen? ⟨b + 4, 0, none⟩ = false := r7.frozen 0
          obtain ⟨E3, hE3⟩ : ∃ E3, E2.setCell ⟨b + 4, 0, none⟩ (.slice none 0 0) = E3 := ⟨_, rfl⟩
          have q8 := q7.far (p := ⟨b + 4, 0, none⟩) (by simp) (.slice none 0 0)
          rw [hE3] at q8
          have cq8 : E3.cell? ⟨b + 6, 0, none⟩ = some (.int .i64 ((s.part : Int) + 1)) := by have := q8.cell 0; simpa using this
          have zq8 : E3.frozen? ⟨b + 6, 0, none⟩ = false := q8.frozen 0
          obtain ⟨E4, hE4⟩ : ∃ E4, E3.setCell ⟨b + 6, 0, none⟩ (.int .i64 0) = E4 := ⟨_, rfl⟩
          have far9 : ∀ (x : Nat) (t : TypeId) (cs : List Value), x ≠ b + 4 → x ≠ b + 6 → Blk E2 x t cs → Blk E4 x t cs := fun x t cs hn1 hn2 hb => by
            rw [← hE4, ← hE3]
            exact (hb.far (by simpa using hn1) _).far (by simpa using hn2) _
          have HFIN : Hid (St b db frm many ep E4 ⟨s.out ++ [L1], [], s.ps st, 0, k + 1⟩ (.slice Ap (s.out.length + 1) cp) none 0 M4.heap.size) := Lib.hid (by
            refine ⟨far9 _ _ _ (by omega) (by omega) (far7 _ _ _ (by omega) (far5 _ _ _ (by omega) (by omega) HSTD.out.eb)), ?_, far9 _ _ _ (by omega) (by omega) (far7 _ _ _ (by omega) x5), far9 _ _ _ (by omega) (by omega) (far7 _ _ _ (by omega) o5), ?_, far9 _ _ _ (by omega) (by omega) (far7 _ _ _ (by omega) (far5 _ _ _ (by omega) (by omega) HSTD.out.pb)), ?_, far9 _ _ _ (by omega) (by omega) (far7 _ _ _ (by omega) (far5 _ _ _ (by omega) (by omega) HSTD.out.xb)), far9 _ _ _ (by omega) (by omega) (far7 _ _ _ (by omega) (far5 _ _ _ (by omega) (by omega) HSTD.out.dx)), far9 _ _ _ (by omega) (by omega) (far7 _ _ _ (by omega) (far5 _ _ _ (by omega) (by omega) HSTD.out.fx)), ⟨?_, ?_⟩, Own.none_ _ _, ?_⟩
            · have := far9 _ _ _ (by omega) (by omega) l7
              simpa [LV.cells] using this
            · have := r7.set_ 0 (.slice none 0 0)
              rw [hE3] at this
              have := this.far (p := ⟨b + 6, 0, none⟩) (by simp) (.int .i64 0)
              rw [hE4] at this
              simpa using this
            · have := q8.set_ 0 (.int .i64 0)
              rw [hE4] at this
              simpa using this
            · have := HSTD.out.le
              omega
            · rw [← hE4, ← hE3, ← hE2, ← hE1]
              simp
              exact SZ5
            · rw [← hE4, ← hE3, ← hE2, ← hE1]
              exact (((RO5.out.far (by omega) _ _).far (by omega) _ _).far (by omega) _ _).far (by omega) _ _)
          have KO9 : Hid (KeepsOthers W E4) := Lib.hid (by
            rw [← hE4, ← hE3, ← hE2, ← hE1]
            exact (((KO5.out.trans (.setCell _ _ _)).trans (.setCell _ _ _)).trans (.setCell _ _ _)).trans (.setCell _ _ _))
          have BL9 : Hid (Below w0.heap.size w0 E4) := Lib.hid (by
            rw [← hE4, ← hE3, ← hE2, ← hE1]
            exact (((BL5.out.setCell (p := ⟨b + 1, 4, none⟩) (by simp; omega) _).setCell (p := ⟨b + 1, 5, none⟩) (by simp; omega) _).setCell (p := ⟨b + 4, 0, none⟩) (by simp; omega) _).setCell (p := ⟨b + 6, 0, none⟩) (by simp; omega) _)
          have hwk : IntKind.i64.wrap ((k : Int) + 1) = (k : Int) + 1 := IntWalk.i64_in _ (by omega)
          clear far5 o5 l5 x5 l6 l7 far7 r7 q7 q8 far9 k4D k3D k41 k31 k42 k32 k43 k33 k44 k34 z34 k45 hM5 hr2 hr4 hmk hM1 hM3 hM2 hs4
          have hS22 : D2.cell? ⟨b + 2, 0, none⟩ = some (.pointer (some ⟨b + 1, 0, none⟩)) ∧ D2.cell? ⟨b + 3, 0, none⟩ = some (.slice Ap (s.out.length + 1) cp) := ⟨cx5, c5⟩
          exact region_ex (fun w' => w'.cell? ⟨b + 2, 0, none⟩ = some (.pointer (some ⟨b + 1, 0, none⟩)) ∧ w'.cell? ⟨b + 3, 0, none⟩ = some (.slice Ap (s.out.length + 1) cp)) (by kernel_rfl) (by kernel_rfl) D2 hD2 ⟨_, _, (by
            refine take_ 0 130 (.pointer (some ⟨b + 1, 0, none⟩)) rfl rfl (by kernel_rfl) (by kernel_rfl) (by kernel_rfl) (by rfl) (fun w hw => by simp [go_sem, hw.1]) hS22 ?_
            simp only [List.setIfInBounds_toArray, List.set_cons_zero, List.set_cons_succ]
            refine take_ 1 131 (.pointer (some ⟨b + 1, 0, none⟩)) rfl rfl (by kernel_rfl) (by kernel_rfl) (by kernel_rfl) (by rfl) (fun w hw => by simp [go_sem, hw.1]) hS22 ?_
            simp only [List.setIfInBounds_toArray, List.set_cons_zero, List.set_cons_succ]
            refine take_ 2 132 (.slice Ap (s.out.length + 1) cp) rfl rfl (by kernel_rfl) (by kernel_rfl) (by kernel_rfl) (by rfl) (fun w hw => by simp [go_sem, hw.2]) hS22 ?_
            simp only [List.setIfInBounds_toArray, List.set_cons_zero, List.set_cons_succ]
            refine take_ 3 133 (.int .i64 ((s.out.length : Int) + 1)) rfl rfl (by kernel_rfl) (by kernel_rfl) (by kernel_rfl) (by rfl) (fun w hw => by simp [go_sem]) hS22 ?_
            simp only [List.setIfInBounds_toArray, List.set_cons_zero, List.set_cons_succ]
            refine take_ 4 134 (.int .i64 (k : Int)) rfl rfl (by kernel_rfl) (by kernel_rfl) (by kernel_rfl) (by rfl) (fun w hw => by simp [go_sem]) hS22 ?_
            simp only [List.setIfInBounds_toArray, List.set_cons_zero, List.set_cons_succ]
            refine take_ 5 135 (.int .i64 ((k : Int) + 1)) rfl rfl (by kernel_rfl) (by kernel_rfl) (by kernel_rfl) (by rfl) (fun w hw => by simp [go_sem, hwk]) hS22 ?_
            simp only [List.setIfInBounds_toArray, List.set_cons_zero, List.set_cons_succ]
            refine take_ 6 136 (.pointer (some ⟨b + 1, 0, none⟩)) rfl rfl (by kernel_rfl) (by kernel_rfl) (by kernel_rfl) (by rfl) (fun w hw => by simp [go_sem]) hS22 ?_
            simp only [List.setIfInBounds_toArray, List.set_cons_zero, List.set_cons_succ]
            refine take_ 7 137 (.pointer (some ⟨b + 1, 4, none⟩)) rfl rfl (by kernel_rfl) (by kernel_rfl) (by kernel_rfl) (by rfl) (fun w hw => by simp [go_sem]) hS22 ?_
            simp only [List.setIfInBounds_toArray, List.set_cons_zero, List.set_cons_succ]
            refine st_ 8 E1 rfl rfl (by kernel_rfl) (by rfl) (by simp [go_sem, c54, z54, hE1]) ⟨cx6, c6⟩ ?_
            refine take_ 9 138 (.pointer (some ⟨b + 1, 0, none⟩)) rfl rfl (by kernel_rfl) (by kernel_rfl) (by kernel_rfl) (by rfl) (fun w hw => by simp [go_sem]) ⟨cx6, c6⟩ ?_
            simp only [List.setIfInBounds_toArray, List.set_cons_zero, List.set_cons_succ]
            refine take_ 10 139 (.pointer (some ⟨b + 1, 5, none⟩)) rfl rfl (by kernel_rfl) (by kernel_rfl) (by kernel_rfl) (by rfl) (fun w hw => by simp [go_sem]) ⟨cx6, c6⟩ ?_
            simp only [List.setIfInBounds_toArray, List.set_cons_zero, List.set_cons_succ]
            refine st_ 11 E2 rfl rfl (by kernel_rfl) (by rfl) (by simp [go_sem, c65, z65, hE2]) ⟨cx7, c7⟩ ?_
            exact done_ (by kernel_rfl) ⟨rfl, rfl⟩ _), (by
            gi_wp2
            refine ⟨KO9.out, ?_⟩
            unfold OpenJ
            refine ⟨BL9.out, _, _, _, _, _, ?_, HFIN.out⟩
            show (scanTo ep f k).bind _ = _
            rw [HSC.out, Option.bind_some]
            unfold scan1
            rw [HRD.out]
            simp only
            rw [if_pos HFIT.out, if_neg (by omega), HL1.out, if_pos E8.out])⟩)⟩)⟩
  · rw [if_neg hp0] at hW3
    have hp0' : ((s.part : Int) == 0) = false := by simp [hp0]
    rcases hb : is with _ | _
    · gi_wp2
      exact HNO.out (by rw [hb]; simp) _ HST3.out.2.2.1 HST3.out.2.2.2.1 HX3.out
    by_cases e1 : st.e = ep
    case neg =>
      have e1' : ¬ ((st.e : Int) = (ep : Int)) := by omega
      gi_wp2
      exact HNO.out (fun h => e1 h.2.1) _ HST3.out.2.2.1 HST3.out.2.2.2.1 HX3.out
    have e1' : (((st.e : Int) = (ep : Int)) = True) := eq_true (by omega)
    have b1' : ((st.e : Int) != (ep : Int)) = false := bne_eq_false_iff_eq.2 (by omega)
    have E1 := Lib.hid e1
    clear e1
    by_cases e2 : st.r = s.out.length
    case neg =>
      have e2' : ¬ ((st.r : Int) = (s.out.length : Int)) := by omega
      gi_wp2
      exact HNO.out (fun h => e2 h.2.2.1) _ HST3.out.2.2.1 HST3.out.2.2.2.1 HX3.out
    have e2' : (((st.r : Int) = (s.out.length : Int)) = True) := eq_true (by omega)
    have b2' : ((st.r : Int) != (s.out.length : Int)) = false := bne_eq_false_iff_eq.2 (by omega)
    have E2 := Lib.hid e2
    clear e2
    by_cases e3 : st.p = s.part
    case neg =>
      have e3' : ¬ ((st.p : Int) = (s.part : Int)) := by omega
      gi_wp2
      exact HNO.out (fun h => e3 h.2.2.2.1) _ HST3.out.2.2.1 HST3.out.2.2.2.1 HX3.out
    have e3' : (((st.p : Int) = (s.part : Int)) = True) := eq_true (by omega)
    have b3' : ((st.p : Int) != (s.part : Int)) = false := bne_eq_false_iff_eq.2 (by omega)
    have E3 := Lib.hid e3
    clear e3
    by_cases e4 : st.ps = s.ps st
    case neg =>
      have e4' : ¬ ((st.ps : Int) = (s.ps st : Int)) := by omega
      gi_wp2
      exact HNO.out (fun h => e4 h.2.2.2.2.1) _ HST3.out.2.2.1 HST3.out.2.2.2.1 HX3.out
    have e4' : (((st.ps : Int) = (s.ps st : Int)) = True) := eq_true (by omega)
    have b4' : ((st.ps : Int) != (s.ps st : Int)) = false := bne_eq_false_iff_eq.2 (by omega)
    have E4 := Lib.hid e4
    clear e4
    by_cases e5 : s.part < s.ps st
    case neg =>
      have e5' : (s.ps st : Int) ≤ (s.part : Int) := by omega
      gi_wp2
      exact HNO.out (fun h => e5 h.2.2.2.2.2) _ HST3.out.2.2.1 HST3.out.2.2.2.1 HX3.out
    have e5' : ¬ (s.ps st : Int) ≤ (s.part : Int) := by omega
    obtain ⟨_, part, hr, hpl, hpb⟩ := HIS.out.resolve_left (by rw [hb]; simp)
    have HRD := Lib.hid hr
    have HPL := Lib.hid hpl
    have hfit : s.fits ep st := ⟨E1.out, E2.out, E3.out, E4.out, e5⟩
    have HFIT := Lib.hid hfit
    have hl492 := readR_l hr
    obtain ⟨A', c', W4, hrun, hown, hgrow, hblkA⟩ := run_append_bytes W3 23 Br A c s.rc HST3.out.1.rc W3.heap.size A2 c2 part (HST3.out.2.2.2.2.2 part (HPB.out part hpb)) (by omega) HST3.out.1.le.2
    have HST5 := Lib.hid (HST3.out.1.app hgrow hown)
    have HSB4 := Lib.hid (HST3.out.2.1.grownA HST3.out.1.rc hgrow (by decide))
    have HKO4 := Lib.hid (keeps_own HST3.out.1.rc hgrow)
    have HBL4 : Hid (Below w0.heap.size w0 W4) := Lib.hid (HST3.out.2.2.2.1.grown hgrow HST3.out.2.2.2.1.size fun x hx => by
      have := (HST3.out.1.rc.blk_le x hx).1
      have := HST3.out.1.le.1
      omega)
    have r4 : W4.cell? ⟨b + 4, 0, none⟩ = some (.slice A s.rc.length c) := (HST3.out.1.rb.grownA HST3.out.1.rc hgrow (by decide)).cell 0
    have z4 : W4.frozen? ⟨b + 4, 0, none⟩ = false := (HST3.out.1.rb.grownA HST3.out.1.rc hgrow (by decide)).frozen 0
    rw [hpl, appSem_eq] at hrun
    generalize hL1 : s.rc ++ part = L1 at *
    have HL1 := Lib.hid hL1
    have hlL : L1.length ≤ 140737488355328 := by rw [← hL1]; simp; omega
    clear hL1
    clear hr hpl hpb hfit hown hgrow hblkA
    obtain ⟨W5, hW5⟩ : ∃ W5, W4.setCell ⟨b + 4, 0, none⟩ (.slice A' L1.length c') = W5 := ⟨_, rfl⟩
    have HSB5 : Hid (Blk W5 w1.heap.size 111 (stCells st)) := Lib.hid (by rw [← hW5]; exact HSB4.out.far (by simp; omega) _)
    have HKO5 : Hid (KeepsOthers W W5) := Lib.hid (by rw [← hW5]; exact (HST3.out.2.2.1.trans HKO4.out).trans (.setCell _ _ _))
    have HBL5 : Hid (Below w0.heap.size w0 W5) := Lib.hid (by rw [← hW5]; exact HBL4.out.setCell (p := ⟨b + 4, 0, none⟩) (by simp; omega) _)
    rw [hW5] at HST5
    have r6 : W5.cell? ⟨b + 6, 0, none⟩ = some (.int .i64 s.part) := HST5.out.qb.cell 0
    have z6 : W5.frozen? ⟨b + 6, 0, none⟩ = false := HST5.out.qb.frozen 0
    have hwr : IntKind.i64.wrap ((s.part : Int) + 1) = (s.part : Int) + 1 := IntWalk.i64_in _ (by omega)
    obtain ⟨W6, hW6⟩ : ∃ W6, W5.setCell ⟨b + 6, 0, none⟩ (.int .i64 ((s.part : Int) + 1)) = W6 := ⟨_, rfl⟩
    have HSB6 : Hid (Blk W6 w1.heap.size 111 (stCells st)) := Lib.hid (by rw [← hW6]; exact HSB5.out.far (by simp; omega) _)
    have HKO6 : Hid (KeepsOthers W W6) := Lib.hid (by rw [← hW6]; exact HKO5.out.trans (.setCell _ _ _))
    have HBL6 : Hid (Below w0.heap.size w0 W6) := Lib.hid (by rw [← hW6]; exact HBL5.out.setCell (p := ⟨b + 6, 0, none⟩) (by simp; omega) _)
    have HST6 : Hid (St b db frm many ep W6 { s with rc := L1, parts := s.ps st, part := s.part + 1 } (.slice Ao s.out.length co) A' c' Br) := Lib.hid (by
      have h6 := HST5.out.part_ (s.part + 1)
      rw [show ((s.part + 1 : Nat) : Int) = (s.part : Int) + 1 by omega, hW6] at h6
      exact h6)
    have u6 : W6.cell? ⟨b + 6, 0, none⟩ = some (.int .i64 ((s.part : Int) + 1)) := by have := HST6.out.qb.cell 0; simpa using this
    have u5 : W6.cell? ⟨b + 5, 0, none⟩ = some (.int .i64 (s.ps st : Nat)) := HST6.out.pb.cell 0
    have u4 : W6.cell? ⟨w1.heap.size, 4, none⟩ = some (.int .i64 st.l) := HSB6.out.cell 4
    by_cases e6 : (s.part : Int) + 1 < (s.ps st : Int)
    · by_cases e7 : (st.l : Int) < 492
      · gi_wp2
        refine ⟨HKO6.out, .inr ⟨0, rfl, ?_⟩⟩
        unfold OpenX
        have h6 := HST6.out.x
        refine ⟨rfl, HBL6.out, k, s, _, hk, HSC.out, ?_, ⟨h6.1, h6.2, h6.3, h6.4, h6.5⟩⟩
        show (scanTo ep f k).bind _ = none
        rw [HSC.out, Option.bind_some]
        unfold scan1
        rw [HRD.out]
        simp only
        rw [if_pos HFIT.out, if_pos (by omega), if_pos (by omega)]
      · gi_wp2
        refine ⟨HKO6.out, ?_⟩
        unfold OpenJ
        refine ⟨HBL6.out, _, _, _, _, _, ?_, HST6.out⟩
        show (scanTo ep f k).bind _ = _
        rw [HSC.out, Option.bind_some]
        unfold scan1
        rw [HRD.out]
        simp only
        rw [if_pos HFIT.out, if_pos (by omega), if_neg (by omega), HL1.out]
    · gi_wp2
      have hS20 : W6.drew.cell? ⟨b + 4, 0, none⟩ = some (.slice A' L1.length c') ∧ W6.drew.cell? ⟨b + 5, 0, none⟩ = some (.int .i64 (s.ps st : Nat)) := ⟨HST6.out.rb.cell 0, u5⟩
      exact region_ex (fun w' => w'.cell? ⟨b + 4, 0, none⟩ = some (.slice A' L1.length c') ∧ w'.cell? ⟨b + 5, 0, none⟩ = some (.int .i64 (s.ps st : Nat))) (by kernel_rfl) (by kernel_rfl) W6.drew rfl ⟨_, _, (by
        refine take_ 0 117 (.slice A' L1.length c') rfl rfl (by kernel_rfl) (by kernel_rfl) (by kernel_rfl) (by rfl) (fun w hw => by simp [go_sem, hw.1]) hS20 ?_
        simp only [List.setIfInBounds_toArray, List.set_cons_zero, List.set_cons_succ]
        refine take_ 1 118 (.int .i64 (L1.length : Int)) rfl rfl (by kernel_rfl) (by kernel_rfl) (by kernel_rfl) (by rfl) (fun w hw => by simp [go_sem]) hS20 ?_
        simp only [List.setIfInBounds_toArray, List.set_cons_zero, List.set_cons_succ]
        refine take_ 3 120 (.int .i64 (s.ps st : Nat)) rfl rfl (by kernel_rfl) (by kernel_rfl) (by kernel_rfl) (by rfl) (fun w hw => by simp [go_sem, hw.2]) hS20 ?_
        simp only [List.setIfInBounds_toArray, List.set_cons_zero, List.set_cons_succ]
        refine call_ 2 119 (.int .i64 (secs L1.length : Nat)) W6.drew W6.drew (f := 40) (args := #[.int .i64 (L1.length : Int)]) rfl rfl (by kernel_rfl) (by rfl) (by simp [go_sem]) ((sectors_any_ L1.length W6.drew (by omega)).mono (by rintro e x ⟨rfl, rfl⟩; exact ⟨rfl, rfl⟩)) hS20 ?_
        simp only [List.setIfInBounds_toArray, List.set_cons_zero, List.set_cons_succ]
        refine take_ 4 121 (.bool ((secs L1.length : Int) != (s.ps st : Int))) rfl rfl (by kernel_rfl) (by kernel_rfl) (by kernel_rfl) (by rfl) (fun w hw => by simp [go_sem]) hS20 ?_
        simp only [List.setIfInBounds_toArray, List.set_cons_zero, List.set_cons_succ]
        exact done_ (by kernel_rfl) ⟨rfl, rfl⟩ _), (by
        by_cases e8 : secs L1.length = s.ps st
        case neg =>
          have e8' : ((secs L1.length : Int) != (s.ps st : Int)) = true := by rw [bne_iff_ne]; omega
          have e8'' : ¬ ((secs L1.length : Int) = (s.ps st : Int)) := by omega
          gi_wp2
          refine ⟨HKO6.out.trans (.drew _), .inr ⟨0, rfl, ?_⟩⟩
          unfold OpenX
          have h6 := (HST6.out.cl (W' := W6.drew) (.of_below (Below.refl _ _).drew)).x
          refine ⟨rfl, HBL6.out.drew, k, s, _, hk, HSC.out, ?_, ⟨h6.1, h6.2, h6.3, h6.4, h6.5⟩⟩
          show (scanTo ep f k).bind _ = none
          rw [HSC.out, Option.bind_some]
          unfold scan1
          rw [HRD.out]
          simp only
          rw [if_pos HFIT.out, if_neg (by omega), HL1.out, if_neg e8]
        have e8' : ((secs L1.length : Int) != (s.ps st : Int)) = false := bne_eq_false_iff_eq.2 (by omega)
        have e8'' : ((secs L1.length : Int) = (s.ps st : Int)) = True := eq_true (by omega)
        have E8 := Lib.hid e8
        clear e8
        gi_wp2
        clear e1' e2' e3' e4' b1' b2' b3' b4' q0 q3 q4 q5' q6' t0 t1 t2 t3 hrun r4 z4 hW5 r6 z6 hwr hW6 u6 u5 u4
        have HSTD : Hid (St b db frm many ep W6.drew.drew { s with rc := L1, parts := s.ps st, part := s.part + 1 } (.slice Ao s.out.length co) A' c' Br) := Lib.hid (HST6.out.cl (.of_below (Below.refl _ _).drew.drew))
        have HKOD : Hid (KeepsOthers W W6.drew.drew) := Lib.hid ((HKO6.out.trans (.drew _)).trans (.drew _))
        have HBLD : Hid (Below w0.heap.size w0 W6.drew.drew) := Lib.hid HBL6.out.drew.drew
        generalize hD : W6.drew.drew = D at *
        have hL40 : L1.length ≤ 1099511627776 := by rw [← HL1.out]; simp; omega
        obtain ⟨A3, c3, M2, Ap, cp, M4, hr2, hr4, hM2, hx2, hx4, hko, hbe, hs4, hrows⟩ := rows_push HSTD.out hL40 (by show s.out.length ≤ _; omega)
        have HROWS := Lib.hid hrows
        have HX2 := Lib.hid hx2
        have HX4 := Lib.hid hx4
        have HKO4' := Lib.hid hko
        have HBE := Lib.hid hbe
        clear hrows hx2 hx4 hko hbe
        have hmk := make_bytes_cap L1.length (by omega) D
        obtain ⟨M1, hM1⟩ : ∃ M1, D.alloc (.cells (madeCells #[.int .u8 0] L1.length) 5) = M1 := ⟨_, rfl⟩
        rw [hM1] at hmk hr2
        obtain ⟨M3, hM3⟩ : ∃ M3, M2.alloc (.cells #[.slice A3 L1.length c3] 23) = M3 := ⟨_, rfl⟩
        rw [hM3] at hr4
        obtain ⟨M5, hM5⟩ : ∃ M5, M4.setCell ⟨b + 3, 0, none⟩ (.slice Ap (s.out.length + 1) cp) = M5 := ⟨_, rfl⟩
        have k4D : D.cell? ⟨b + 4, 0, none⟩ = some (.slice A' L1.length c') := HSTD.out.rb.cell 0
        have k3D : D.cell? ⟨b + 3, 0, none⟩ = some (.slice Ao s.out.length co) := HSTD.out.ob.cell 0
        have k41 : M1.cell? ⟨b + 4, 0, none⟩ = some (.slice A' L1.length c') := by rw [← hM1]; exact (HSTD.out.rb.alloc _).cell 0
        have k31 : M1.cell? ⟨b + 3, 0, none⟩ = some (.slice Ao s.out.length co) := by rw [← hM1]; exact (HSTD.out.ob.alloc _).cell 0
        have B42 : Blk M2 (b + 4) 23 [.slice A' L1.length c'] := (HX2.out _ (by omega)).trans HSTD.out.rb
        have B32 : Blk M2 (b + 3) 36 [.slice Ao s.out.length co] := (HX2.out _ (by omega)).trans HSTD.out.ob
        have k42 : M2.cell? ⟨b + 4, 0, none⟩ = some (.slice A' L1.length c') := B42.cell 0
        have k32 : M2.cell? ⟨b + 3, 0, none⟩ = some (.slice Ao s.out.length co) := B32.cell 0
        have k43 : M3.cell? ⟨b + 4, 0, none⟩ = some (.slice A' L1.length c') := by rw [← hM3]; exact (B42.alloc _).cell 0
        have k33 : M3.cell? ⟨b + 3, 0, none⟩ = some (.slice Ao s.out.length co) := by rw [← hM3]; exact (B32.alloc _).cell 0
        have B44 : Blk M4 (b + 4) 23 [.slice A' L1.length c'] := (HX4.out _ (by omega)).trans HSTD.out.rb
        have B34 : Blk M4 (b + 3) 36 [.slice Ao s.out.length co] := (HX4.out _ (by omega)).trans HSTD.out.ob
        have k44 : M4.cell? ⟨b + 4, 0, none⟩ = some (.slice A' L1.length c') := B44.cell 0
        have k34 : M4.cell? ⟨b + 3, 0, none⟩ = some (.slice Ao s.out.length co) := B34.cell 0
        have z34 : M4.frozen? ⟨b + 3, 0, none⟩ = false := B34.frozen 0
        have k45 : M5.cell? ⟨b + 4, 0, none⟩ = some (.slice A' L1.length c') := by rw [← hM5]; exact (B44.far (by simp) _).cell 0
        clear B42 B32 B44 B34
        exact region_ex (fun w' => w'.cell? ⟨b + 4, 0, none⟩ = some (.slice A' L1.length c')) (by kernel_rfl) (by kernel_rfl) D hD ⟨_, _, (by
          refine take_ 1 123 (.slice A' L1.length c') rfl rfl (by kernel_rfl) (by kernel_rfl) (by kernel_rfl) (by rfl) (fun w hw => by simp [go_sem, hw]) k4D ?_
          simp only [List.setIfInBounds_toArray, List.set_cons_zero, List.set_cons_succ]
          refine take_ 2 124 (.int .i64 (L1.length : Int)) rfl rfl (by kernel_rfl) (by kernel_rfl) (by kernel_rfl) (by rfl) (fun w hw => by simp [go_sem]) k4D ?_
          simp only [List.setIfInBounds_toArray, List.set_cons_zero, List.set_cons_succ]
          refine take_ 4 126 (.slice A' L1.length c') rfl rfl (by kernel_rfl) (by kernel_rfl) (by kernel_rfl) (by rfl) (fun w hw => by simp [go_sem, hw]) k4D ?_
          simp only [List.setIfInBounds_toArray, List.set_cons_zero, List.set_cons_succ]
          refine two_ 0 122 3 125 (.slice Ao s.out.length co) (.slice (some ⟨D.heap.size, 0, none⟩) 0 L1.length) D M1 rfl rfl rfl rfl (by kernel_rfl) (by rfl) (by rfl) (by simp [go_sem, k3D]) (by simp [go_sem, hmk]) k4D k41 ?_ ?_
          · simp only [List.setIfInBounds_toArray, List.set_cons_zero, List.set_cons_succ]
            refine one_ 3 125 (.slice (some ⟨D.heap.size, 0, none⟩) 0 L1.length) M1 rfl rfl (by kernel_rfl) (by rfl) (by simp [go_sem, hmk]) k41 ?_
            simp only [List.setIfInBounds_toArray, List.set_cons_zero, List.set_cons_succ]
            refine one_ 5 127 (.slice A3 L1.length c3) M2 rfl rfl (by kernel_rfl) (by rfl) (by simp [go_sem, hr2]) k42 ?_
            simp only [List.setIfInBounds_toArray, List.set_cons_zero, List.set_cons_succ]
            refine one_ 6 128 (.slice (some ⟨M2.heap.size, 0, none⟩) 1 1) M3 rfl rfl (by kernel_rfl) (by rfl) (by simp [go_sem, hM3]) k43 ?_
            simp only [List.setIfInBounds_toArray, List.set_cons_zero, List.set_cons_succ]
            refine one_ 7 129 (.slice Ap (s.out.length + 1) cp) M4 rfl rfl (by kernel_rfl) (by rfl) (by simp [go_sem, hr4]) k44 ?_
            simp only [List.setIfInBounds_toArray, List.set_cons_zero, List.set_cons_succ]
            refine st_ 8 M5 rfl rfl (by kernel_rfl) (by rfl) (by simp [go_sem, k34, z34, hM5]) k45 ?_
            exact done_ (by kernel_rfl) ⟨rfl, rfl⟩ _
          · simp only [List.setIfInBounds_toArray, List.set_cons_zero, List.set_cons_succ]
            refine two_ 0 122 5 127 (.slice Ao s.out.length co) (.slice A3 L1.length c3) M1 M2 rfl rfl rfl rfl (by kernel_rfl) (by rfl) (by rfl) (by simp [go_sem, k31]) (by simp [go_sem, hr2]) k41 k42 ?_ ?_
            · simp only [List.setIfInBounds_toArray, List.set_cons_zero, List.set_cons_succ]
              refine one_ 5 127 (.slice A3 L1.length c3) M2 rfl rfl (by kernel_rfl) (by rfl) (by simp [go_sem, hr2]) k42 ?_
              simp only [List.setIfInBounds_toArray, List.set_cons_zero, List.set_cons_succ]
              refine one_ 6 128 (.slice (some ⟨M2.heap.size, 0, none⟩) 1 1) M3 rfl rfl (by kernel_rfl) (by rfl) (by simp [go_sem, hM3]) k43 ?_
              simp only [List.setIfInBounds_toArray, List.set_cons_zero, List.set_cons_succ]
              refine one_ 7 129 (.slice Ap (s.out.length + 1) cp) M4 rfl rfl (by kernel_rfl) (by rfl) (by simp [go_sem, hr4]) k44 ?_
              simp only [List.setIfInBounds_toArray, List.set_cons_zero, List.set_cons_succ]
              refine st_ 8 M5 rfl rfl (by kernel_rfl) (by rfl) (by simp [go_sem, k34, z34, hM5]) k45 ?_
              exact done_ (by kernel_rfl) ⟨rfl, rfl⟩ _
            · simp only [List.setIfInBounds_toArray, List.set_cons_zero, List.set_cons_succ]
              refine two_ 0 122 6 128 (.slice Ao s.out.length co) (.slice (some ⟨M2.heap.size, 0, none⟩) 1 1) M2 M3 rfl rfl rfl rfl (by kernel_rfl) (by rfl) (by rfl) (by simp [go_sem, k32]) (by simp [go_sem, hM3]) k42 k43 ?_ ?_
              · simp only [List.setIfInBounds_toArray, List.set_cons_zero, List.set_cons_succ]
                refine one_ 6 128 (.slice (some ⟨M2.heap.size, 0, none⟩) 1 1) M3 rfl rfl (by kernel_rfl) (by rfl) (by simp [go_sem, hM3]) k43 ?_
                simp only [List.setIfInBounds_toArray, List.set_cons_zero, List.set_cons_succ]
                refine one_ 7 129 (.slice Ap (s.out.length + 1) cp) M4 rfl rfl (by kernel_rfl) (by rfl) (by simp [go_sem, hr4]) k44 ?_
                simp only [List.setIfInBounds_toArray, List.set_cons_zero, List.set_cons_succ]
                refine st_ 8 M5 rfl rfl (by kernel_rfl) (by rfl) (by simp [go_sem, k34, z34, hM5]) k45 ?_
                exact done_ (by kernel_rfl) ⟨rfl, rfl⟩ _
              · simp only [List.setIfInBounds_toArray, List.set_cons_zero, List.set_cons_succ]
                refine one_ 0 122 (.slice Ao s.out.length co) M3 rfl rfl (by kernel_rfl) (by rfl) (by simp [go_sem, k33]) k43 ?_
                simp only [List.setIfInBounds_toArray, List.set_cons_zero, List.set_cons_succ]
                refine one_ 7 129 (.slice Ap (s.out.length + 1) cp) M4 rfl rfl (by kernel_rfl) (by rfl) (by simp [go_sem, hr4]) k44 ?_
                simp only [List.setIfInBounds_toArray, List.set_cons_zero, List.set_cons_succ]
                refine st_ 8 M5 rfl rfl (by kernel_rfl) (by rfl) (by simp [go_sem, k34, z34, hM5]) k45 ?_
                exact done_ (by kernel_rfl) ⟨rfl, rfl⟩ _), (by
          gi_wp2
          obtain ⟨D2, hD2⟩ : ∃ D2, M5.drew = D2 := ⟨_, rfl⟩
          have far5 : ∀ (x : Nat) (t : TypeId) (cs : List Value), x < b + 12 → x ≠ b + 3 → Blk D x t cs → Blk D2 x t cs := fun x t cs hx hne hb => by
            rw [← hD2, ← hM5]
            exact Blk.far ((HX4.out x hx).trans hb) (by simpa using hne) _
          have o5 : Blk D2 (b + 3) 36 [.slice Ap (s.out.length + 1) cp] := by
            rw [← hD2, ← hM5]
            exact Blk.set_ (cs := [.slice Ao s.out.length co]) ((HX4.out _ (by omega)).trans HSTD.out.ob) 0 _
          have l5 : Blk D2 (b + 1) 105 _ := far5 _ _ _ (by omega) (by omega) HSTD.out.lg
          have x5 : Blk D2 (b + 2) 56 _ := far5 _ _ _ (by omega) (by omega) HSTD.out.lx
          have RO5 : Hid (RowsAt D2 (b + 12) M4.heap.size (.slice Ap (s.out.length + 1) cp) (s.out ++ [L1])) := Lib.hid (by
            rw [← hD2, ← hM5]
            exact (HROWS.out.far (by omega) _ _).cl (.of_below (Below.refl _ _).drew))
          have KO5 : Hid (KeepsOthers W D2) := Lib.hid (by
            rw [← hD2, ← hM5]
            exact ((HKOD.out.trans HKO4'.out).trans (.setCell _ _ _)).trans (.drew _))
          have BL5 : Hid (Below w0.heap.size w0 D2) := Lib.hid (by
            rw [← hD2, ← hM5]
            exact ((HBE.out _ _ hb0 HBLD.out).setCell (p := ⟨b + 3, 0, none⟩) (by simp; omega) _).drew)
          have SZ5 : M4.heap.size ≤ D2.heap.size := by rw [← hD2, ← hM5]; simp
          have c5 : D2.cell? ⟨b + 3, 0, none⟩ = some (.slice Ap (s.out.length + 1) cp) := o5.cell 0
          have cx5 : D2.cell? ⟨b + 2, 0, none⟩ = some (.pointer (some ⟨b + 1, 0, none⟩)) := x5.cell 0
          have c54 : D2.cell? ⟨b + 1, 4, none⟩ = some (.int .i64 s.out.length) := l5.cell 4
          have z54 : D2.frozen? ⟨b + 1, 4, none⟩ = false := l5.frozen 4
          obtain ⟨E1, hE1⟩ : ∃ E1, D2.setCell ⟨b + 1, 4, none⟩ (.int .i64 ((s.out.length : Int) + 1)) = E1 := ⟨_, rfl⟩
          have l6 := l5.set_ 4 (.int .i64 ((s.out.length : Int) + 1))
          rw [hE1] at l6
          have c65 : E1.cell? ⟨b + 1, 5, none⟩ = some (.int .i64 s.used) := l6.cell 5
          have z65 : E1.frozen? ⟨b + 1, 5, none⟩ = false := l6.frozen 5
          have c6 : E1.cell? ⟨b + 3, 0, none⟩ = some (.slice Ap (s.out.length + 1) cp) := by rw [← hE1]; exact (o5.far (by simp) _).cell 0
          have cx6 : E1.cell? ⟨b + 2, 0, none⟩ = some (.pointer (some ⟨b + 1, 0, none⟩)) := by rw [← hE1]; exact (x5.far (by simp) _).cell 0
          obtain ⟨E2, hE2⟩ : ∃ E2, E1.setCell ⟨b + 1, 5, none⟩ (.int .i64 ((k : Int) + 1)) = E2 := ⟨_, rfl⟩
          have l7 := l6.set_ 5 (.int .i64 ((k : Int) + 1))
          rw [hE2] at l7
          have c7 : E2.cell? ⟨b + 3, 0, none⟩ = some (.slice Ap (s.out.length + 1) cp) := by rw [← hE2, ← hE1]; exact ((o5.far (by simp) _).far (by simp) _).cell 0
          have cx7 : E2.cell? ⟨b + 2, 0, none⟩ = some (.pointer (some ⟨b + 1, 0, none⟩)) := by rw [← hE2, ← hE1]; exact ((x5.far (by simp) _).far (by simp) _).cell 0
          have far7 : ∀ (x : Nat) (t : TypeId) (cs : List Value), x ≠ b + 1 → Blk D2 x t cs → Blk E2 x t cs := fun x t cs hne hb => by
            rw [← hE2, ← hE1]
            exact (hb.far (by simpa using hne) _).far (by simpa using hne) _
          have r7 : Blk E2 (b + 4) 23 _ := far7 _ _ _ (by omega) (far5 _ _ _ (by omega) (by omega) HSTD.out.rb)
          have q7 : Blk E2 (b + 6) 3 _ := far7 _ _ _ (by omega) (far5 _ _ _ (by omega) (by omega) HSTD.out.qb)
          have cr7 : E2.cell? ⟨b + 4, 0, none⟩ = some (.slice A' L1.length c') := r7.cell 0
          have zr7 : E2.frozen? ⟨b + 4, 0, none⟩ = false := r7.frozen 0
          obtain ⟨E3, hE3⟩ : ∃ E3, E2.setCell ⟨b + 4, 0, none⟩ (.slice none 0 0) = E3 := ⟨_, rfl⟩
          have q8 := q7.far (p := ⟨b + 4, 0, none⟩) (by simp) (.slice none 0 0)
          rw [hE3] at q8
          have cq8 : E3.cell? ⟨b + 6, 0, none⟩ = some (.int .i64 ((s.part : Int) + 1)) := by have := q8.cell 0; simpa using this
          have zq8 : E3.frozen? ⟨b + 6, 0, none⟩ = false := q8.frozen 0
          obtain ⟨E4, hE4⟩ : ∃ E4, E3.setCell ⟨b + 6, 0, none⟩ (.int .i64 0) = E4 := ⟨_, rfl⟩
          have far9 : ∀ (x : Nat) (t : TypeId) (cs : List Value), x ≠ b + 4 → x ≠ b + 6 → Blk E2 x t cs → Blk E4 x t cs := fun x t cs hn1 hn2 hb => by
            rw [← hE4, ← hE3]
            exact (hb.far (by simpa using hn1) _).far (by simpa using hn2) _
          have HFIN : Hid (St b db frm many ep E4 ⟨s.out ++ [L1], [], s.ps st, 0, k + 1⟩ (.slice Ap (s.out.length + 1) cp) none 0 M4.heap.size) := Lib.hid (by
            refine ⟨far9 _ _ _ (by omega) (by omega) (far7 _ _ _ (by omega) (far5 _ _ _ (by omega) (by omega) HSTD.out.eb)), ?_, far9 _ _ _ (by omega) (by omega) (far7 _ _ _ (by omega) x5), far9 _ _ _ (by omega) (by omega) (far7 _ _ _ (by omega) o5), ?_, far9 _ _ _ (by omega) (by omega) (far7 _ _ _ (by omega) (far5 _ _ _ (by omega) (by omega) HSTD.out.pb)), ?_, far9 _ _ _ (by omega) (by omega) (far7 _ _ _ (by omega) (far5 _ _ _ (by omega) (by omega) HSTD.out.xb)), far9 _ _ _ (by omega) (by omega) (far7 _ _ _ (by omega) (far5 _ _ _ (by omega) (by omega) HSTD.out.dx)), far9 _ _ _ (by omega) (by omega) (far7 _ _ _ (by omega) (far5 _ _ _ (by omega) (by omega) HSTD.out.fx)), ⟨?_, ?_⟩, Own.none_ _ _, ?_⟩
            · have := far9 _ _ _ (by omega) (by omega) l7
              simpa [LV.cells] using this
            · have := r7.set_ 0 (.slice none 0 0)
              rw [hE3] at this
              have := this.far (p := ⟨b + 6, 0, none⟩) (by simp) (.int .i64 0)
              rw [hE4] at this
              simpa using this
            · have := q8.set_ 0 (.int .i64 0)
              rw [hE4] at this
              simpa using this
            · have := HSTD.out.le
              omega
            · rw [← hE4, ← hE3, ← hE2, ← hE1]
              simp
              exact SZ5
            · rw [← hE4, ← hE3, ← hE2, ← hE1]
              exact (((RO5.out.far (by omega) _ _).far (by omega) _ _).far (by omega) _ _).far (by omega) _ _)
          have KO9 : Hid (KeepsOthers W E4) := Lib.hid (by
            rw [← hE4, ← hE3, ← hE2, ← hE1]
            exact (((KO5.out.trans (.setCell _ _ _)).trans (.setCell _ _ _)).trans (.setCell _ _ _)).trans (.setCell _ _ _))
          have BL9 : Hid (Below w0.heap.size w0 E4) := Lib.hid (by
            rw [← hE4, ← hE3, ← hE2, ← hE1]
            exact (((BL5.out.setCell (p := ⟨b + 1, 4, none⟩) (by simp; omega) _).setCell (p := ⟨b + 1, 5, none⟩) (by simp; omega) _).setCell (p := ⟨b + 4, 0, none⟩) (by simp; omega) _).setCell (p := ⟨b + 6, 0, none⟩) (by simp; omega) _)
          have hwk : IntKind.i64.wrap ((k : Int) + 1) = (k : Int) + 1 := IntWalk.i64_in _ (by omega)
          clear far5 o5 l5 x5 l6 l7 far7 r7 q7 q8 far9 k4D k3D k41 k31 k42 k32 k43 k33 k44 k34 z34 k45 hM5 hr2 hr4 hmk hM1 hM3 hM2 hs4
          have hS22 : D2.cell? ⟨b + 2, 0, none⟩ = some (.pointer (some ⟨b + 1, 0, none⟩)) ∧ D2.cell? ⟨b + 3, 0, none⟩ = some (.slice Ap (s.out.length + 1) cp) := ⟨cx5, c5⟩
          exact region_ex (fun w' => w'.cell? ⟨b + 2, 0, none⟩ = some (.pointer (some ⟨b + 1, 0, none⟩)) ∧ w'.cell? ⟨b + 3, 0, none⟩ = some (.slice Ap (s.out.length + 1) cp)) (by kernel_rfl) (by kernel_rfl) D2 hD2 ⟨_, _, (by
            refine take_ 0 130 (.pointer (some ⟨b + 1, 0, none⟩)) rfl rfl (by kernel_rfl) (by kernel_rfl) (by kernel_rfl) (by rfl) (fun w hw => by simp [go_sem, hw.1]) hS22 ?_
            simp only [List.setIfInBounds_toArray, List.set_cons_zero, List.set_cons_succ]
            refine take_ 1 131 (.pointer (some ⟨b + 1, 0, none⟩)) rfl rfl (by kernel_rfl) (by kernel_rfl) (by kernel_rfl) (by rfl) (fun w hw => by simp [go_sem, hw.1]) hS22 ?_
            simp only [List.setIfInBounds_toArray, List.set_cons_zero, List.set_cons_succ]
            refine take_ 2 132 (.slice Ap (s.out.length + 1) cp) rfl rfl (by kernel_rfl) (by kernel_rfl) (by kernel_rfl) (by rfl) (fun w hw => by simp [go_sem, hw.2]) hS22 ?_
            simp only [List.setIfInBounds_toArray, List.set_cons_zero, List.set_cons_succ]
            refine take_ 3 133 (.int .i64 ((s.out.length : Int) + 1)) rfl rfl (by kernel_rfl) (by kernel_rfl) (by kernel_rfl) (by rfl) (fun w hw => by simp [go_sem]) hS22 ?_
            simp only [List.setIfInBounds_toArray, List.set_cons_zero, List.set_cons_succ]
            refine take_ 4 134 (.int .i64 (k : Int)) rfl rfl (by kernel_rfl) (by kernel_rfl) (by kernel_rfl) (by rfl) (fun w hw => by simp [go_sem]) hS22 ?_
            simp only [List.setIfInBounds_toArray, List.set_cons_zero, List.set_cons_succ]
            refine take_ 5 135 (.int .i64 ((k : Int) + 1)) rfl rfl (by kernel_rfl) (by kernel_rfl) (by kernel_rfl) (by rfl) (fun w hw => by simp [go_sem, hwk]) hS22 ?_
            simp only [List.setIfInBounds_toArray, List.set_cons_zero, List.set_cons_succ]
            refine take_ 6 136 (.pointer (some ⟨b + 1, 0, none⟩)) rfl rfl (by kernel_rfl) (by kernel_rfl) (by kernel_rfl) (by rfl) (fun w hw => by simp [go_sem]) hS22 ?_
            simp only [List.setIfInBounds_toArray, List.set_cons_zero, List.set_cons_succ]
            refine take_ 7 137 (.pointer (some ⟨b + 1, 4, none⟩)) rfl rfl (by kernel_rfl) (by kernel_rfl) (by kernel_rfl) (by rfl) (fun w hw => by simp [go_sem]) hS22 ?_
            simp only [List.setIfInBounds_toArray, List.set_cons_zero, List.set_cons_succ]
            refine st_ 8 E1 rfl rfl (by kernel_rfl) (by rfl) (by simp [go_sem, c54, z54, hE1]) ⟨cx6, c6⟩ ?_
            refine take_ 9 138 (.pointer (some ⟨b + 1, 0, none⟩)) rfl rfl (by kernel_rfl) (by kernel_rfl) (by kernel_rfl) (by rfl) (fun w hw => by simp [go_sem]) ⟨cx6, c6⟩ ?_
            simp only [List.setIfInBounds_toArray, List.set_cons_zero, List.set_cons_succ]
            refine take_ 10 139 (.pointer (some ⟨b + 1, 5, none⟩)) rfl rfl (by kernel_rfl) (by kernel_rfl) (by kernel_rfl) (by rfl) (fun w hw => by simp [go_sem]) ⟨cx6, c6⟩ ?_
            simp only [List.setIfInBounds_toArray, List.set_cons_zero, List.set_cons_succ]
            refine st_ 11 E2 rfl rfl (by kernel_rfl) (by rfl) (by simp [go_sem, c65, z65, hE2]) ⟨cx7, c7⟩ ?_
            exact done_ (by kernel_rfl) ⟨rfl, rfl⟩ _), (by
            gi_wp2
            refine ⟨KO9.out, ?_⟩
            unfold OpenJ
            refine ⟨BL9.out, _, _, _, _, _, ?_, HFIN.out⟩
            show (scanTo ep f k).bind _ = _
            rw [HSC.out, Option.bind_some]
            unfold scan1
            rw [HRD.out]
            simp only
            rw [if_pos HFIT.out, if_neg (by omega), HL1.out, if_pos E8.out])⟩)⟩)⟩
end Go.Proofs.YteediemhcocgdaaDoor
