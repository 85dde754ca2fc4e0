/-
  blotterlaw13.PagerTakes: the walk.
-/
import Derived.Test.YteediemhcocgdaaDoorTakesPlain
import Derived.Test.YteediemhcocgdaaDoorAwake13
import Derived.Deep.DeepCutAuto
import Derived.Deep.CutRange
namespace Go.Proofs.YteediemhcocgdaaDoor
open Go.RowKit
open HeapP (at_)
open TakesP (TInv upd lst)

theorem and_small (x : Int) (y : Nat) (hy : y < 1000) : ∃ m : Nat, m ≤ y ∧ bits BinOp.and IntKind.i64 x (y : Int) = (m : Int) := by
  refine ⟨((BitVec.ofInt 64 x) &&& (BitVec.ofInt 64 (y : Int))).toNat, ?_, ?_⟩
  · rw [BitVec.toNat_and]
    refine Nat.le_trans Nat.and_le_right ?_
    rw [BitVec.toNat_ofInt]
    omega
  · have h : ((BitVec.ofInt 64 x) &&& (BitVec.ofInt 64 (y : Int))).toNat ≤ y := by
      rw [BitVec.toNat_and]
      refine Nat.le_trans Nat.and_le_right ?_
      rw [BitVec.toNat_ofInt]
      omega
    show IntKind.i64.wrap _ = _
    exact IntWalk.i64_in _ (by
      have h2 : (((BitVec.ofInt 64 x) &&& (BitVec.ofInt 64 (y : Int))).toNat : Int) ≤ y := by exact_mod_cast h
      constructor
      · show (-9223372036854775808 : Int) ≤ _
        omega
      · show _ ≤ (9223372036854775807 : Int)
        exact Int.le_trans h2 (by omega))

theorem turn_set (w : World) (g i : Nat) (v : Value) : Turn (fun b => b = g) w (w.setCell ⟨g, i, none⟩ v) := (Turn.refl (fun b => b = g) w).setCell (p := ⟨g, i, none⟩) (.inl rfl) v

theorem one_set {K : Nat → Prop} {w wd : World} {B p ub lb m : Nat} {V : PV} {u l : Nat → Bool} {a : Bool} (hne : lb ≠ ub) (hm : m < 28) (hu : Blk wd ub 51 (TakesP.cells u)) (hl : Blk wd lb 51 (TakesP.cells l)) (hp : Pl K wd p V) (ku : K ub) (hb : Below B w wd) (hBu : B ≤ ub) :
    Blk (wd.setCell ⟨ub, m, none⟩ (.bool a)) ub 51 (TakesP.cells (upd u m a)) ∧ Blk (wd.setCell ⟨ub, m, none⟩ (.bool a)) lb 51 (TakesP.cells l) ∧ Pl K (wd.setCell ⟨ub, m, none⟩ (.bool a)) p V ∧ Below B w (wd.setCell ⟨ub, m, none⟩ (.bool a)) := by
  refine ⟨?_, hl.far (p := ⟨ub, m, none⟩) hne _, hp.turnK (turn_set wd ub m (.bool a)) (fun b h => .inl (h ▸ ku)), hb.setCell (p := ⟨ub, m, none⟩) hBu _⟩
  rw [← TakesP.cells_set u m a hm]
  exact hu.set_ m _
theorem two_sets {K : Nat → Prop} {w wd : World} {B p ub lb m : Nat} {V : PV} {u l : Nat → Bool} {v : Bool} (hne : ub ≠ lb) (hm : m < 28) (hu : Blk wd ub 51 (TakesP.cells u)) (hl : Blk wd lb 51 (TakesP.cells l)) (hp : Pl K wd p V) (ku : K ub) (kl : K lb) (hb : Below B w wd) (hBu : B ≤ ub) (hBl : B ≤ lb) :
    Blk ((wd.setCell ⟨ub, m, none⟩ (.bool false)).setCell ⟨lb, m, none⟩ (.bool v)) ub 51 (TakesP.cells (upd u m false)) ∧ Blk ((wd.setCell ⟨ub, m, none⟩ (.bool false)).setCell ⟨lb, m, none⟩ (.bool v)) lb 51 (TakesP.cells (upd l m v)) ∧
      Pl K ((wd.setCell ⟨ub, m, none⟩ (.bool false)).setCell ⟨lb, m, none⟩ (.bool v)) p V ∧ Below B w ((wd.setCell ⟨ub, m, none⟩ (.bool false)).setCell ⟨lb, m, none⟩ (.bool v)) := by
  obtain ⟨a1, a2, a3, a4⟩ := one_set (a := false) hne.symm hm hu hl hp ku hb hBu
  obtain ⟨b1, b2, b3, b4⟩ := one_set (a := v) hne hm a2 a1 a3 kl a4 hBl
  exact ⟨b2, b1, b3, b4⟩

set_option maxHeartbeats 2000000 in
set_option maxRecDepth 100000 in
theorem takes_any (B : Nat) (A0 A1 : Option Addr) (c0 c1 : Nat) (keep drops : List Int) (w : World) (hk : IArg w B A0 keep) (hd : IArg w B A1 drops) (hB : B ≤ w.heap.size) (hg : ErrH w) (h1 : 1 < w.heap.size)
    (hkl : keep.length ≤ 140737488351232) (hdl : drops.length ≤ 140737488351232) :
    Calls Tryd.prog 7 #[.slice A0 keep.length c0, .slice A1 drops.length c1] w fun e w' => e = .returned (.bool true) ∧ Below w.heap.size w w' := by
  have HK := Lib.hid hk
  have HD := Lib.hid hd
  have HG := Lib.hid hg
  clear hk hd hg
  go_enter Tryd.func7, Tryd.ntmps7
  go_wp2_with fail
  refine (awake13_any w HG.out h1).mono ?_
  rintro e w1 ⟨rfl, hb1⟩
  have HB1 := Lib.hid hb1
  clear hb1
  go_wp2_with fail
  refine (new_any 30 w1 (by omega)).mono ?_
  rintro e w2 ⟨hb, bb, sb, nb, rfl, hn⟩
  have HN := Lib.hid hn
  clear hn
  go_wp2_with fail
  refine (hdisk_any hb bb w2 HN.out.hand).mono ?_
  rintro e w3 ⟨rfl, hw3⟩
  have hbel3 : Below w2.heap.size w2 w3 := by rw [hw3]; exact (Below.refl _ _).alloc (Nat.le_refl _) _
  have hbb3 : w3.cell? ⟨bb, 0, none⟩ = some (.int .i64 30) := (HN.out.box.below hbel3 HN.out.box.lt).cell 0
  have hbd3 : w3.cell? ⟨w2.heap.size, 0, none⟩ = some (.pointer (some ⟨bb, 0, none⟩)) := by rw [hw3]; exact (Blk.new w2 100 [.pointer (some ⟨bb, 0, none⟩)]).cell 0
  have hbel03 : Below w.heap.size w w3 := HB1.out.trans ((HN.out.below.mono HB1.out.size).trans (hbel3.mono (Nat.le_trans HB1.out.size HN.out.below.size)))
  have HB3 := Lib.hid hbel03
  clear hw3 hbel3 hbel03
  go_wp2_with fail
  refine (open_v w2.heap.size bb B 2 28 30 A0 c0 keep w3 hbd3 hbb3 (HK.out.below (HB3.out.mono hB)) (Nat.le_trans hB HB3.out.size) (by omega) (by omega) (by omega) (by omega) (by omega) (by omega) hkl).mono ?_
  rintro e w4 ⟨hb4, ⟨hok, p, rfl, hp⟩ | ⟨hno, rfl⟩⟩
  · have HP := Lib.hid hp
    have HOK := Lib.hid hok
    have HB4 := Lib.hid (HB3.out.trans (hb4.mono HB3.out.size))
    clear hp hb4 hok hbb3 hbd3
    have ha0 : Blk (w4.alloc (.cells (TakesP.cells fun _ => false).toArray 51)) w4.heap.size 51 (TakesP.cells fun _ => false) := Blk.new _ _ _
    have hal : Below w4.heap.size w4 (w4.alloc (.cells (TakesP.cells fun _ => false).toArray 51)) := (Below.refl _ _).alloc (Nat.le_refl _) _
    have hp5 := HP.out.more (K' := fun b => b < w3.heap.size ∨ b = w4.heap.size) hal (fun b hb => by
      rcases hb with h | h
      · exact .inl h
      · exact .inr ⟨by omega, by simp; omega⟩)
    have HST := Lib.hid (And.intro ha0 (And.intro hp5 (HB4.out.alloc HB4.out.size (.cells (TakesP.cells fun _ => false).toArray 51))))
    clear ha0 hal hp5
    have hlt4 : w.heap.size ≤ w4.heap.size := HB4.out.size
    go_wp2_with fail
    go_loopw [10] (fun i wr => ∃ k : Nat, k ≤ keep.length ∧ i = .int .i64 k ∧ Blk wr w4.heap.size 51 (TakesP.cells fun n => (keep.take k).contains (n : Int)) ∧ Pl (fun b => b < w3.heap.size ∨ b = w4.heap.size) wr p (PV.open_ (.pointer (some ⟨w2.heap.size, 0, none⟩)) 2 28 keep) ∧ Below w.heap.size w wr) (fun i _ => keep.length - (intOf i).toNat)
    case atStart => exact ⟨0, Nat.zero_le _, rfl, HST.out.1, HST.out.2.1, HST.out.2.2⟩
    case round =>
      obtain ⟨k, hk, rfl, hblk, hpl, hbl⟩ := hrel
      have HBK := Lib.hid hblk
      have HPL := Lib.hid hpl
      have HBL := Lib.hid hbl
      clear hblk hpl hbl
      by_cases hlt : k < keep.length
      · obtain ⟨b, off, rfl, hbB, hc⟩ := (HK.out.below (HBL.out.mono hB)) (by omega)
        have hck := hc k hlt
        obtain ⟨hx0, hx1, _⟩ := HOK.out k hlt
        obtain ⟨x, hx⟩ : ∃ x : Nat, at_ keep k = x := ⟨(at_ keep k).toNat, by omega⟩
        have HX := Lib.hid hx
        rw [hx] at hck hx0 hx1
        have hx28 : x < 28 := by omega
        have hfz := HBK.out.frozen x
        have hcx : wr.cell? ⟨w4.heap.size, x, none⟩ = some (.bool ((keep.take k).contains (x : Int))) := by rw [HBK.out.cell, TakesP.cells_get _ _ hx28]
        have hcells : (TakesP.cells fun n => (keep.take k).contains (n : Int)).set x (.bool true) = TakesP.cells fun n => (keep.take (k + 1)).contains (n : Int) := by
          rw [TakesP.cells_set _ _ _ hx28]
          congr 1
          funext n
          rw [List.take_succ_eq_append_getElem hlt, ← HeapP.at_eq keep k hlt, hx]
          unfold upd
          by_cases e : n = x
          · subst e; simp
          · simp [e, TakesP.cast_ne e]
        have HCE := Lib.hid hcells
        clear hc hx hcells
        go_wp2_with fail
        refine ⟨⟨k + 1, by omega, by go_num, ?_, HPL.out.turnK (turn_set wr w4.heap.size x (.bool true)) (fun b hb => .inl (.inr hb)), HBL.out.setCell (p := ⟨w4.heap.size, x, none⟩) hlt4 _⟩, by simp [intOf]; omega⟩
        have := HBK.out.set_ x (.bool true)
        rw [HCE.out] at this
        exact this
      · obtain rfl : k = keep.length := by omega
        rw [List.take_length] at HBK
        have hl0 : Blk (wr.alloc (.cells (TakesP.cells fun _ => false).toArray 51)) wr.heap.size 51 (TakesP.cells fun _ => false) := Blk.new _ _ _
        have hal : Below wr.heap.size wr (wr.alloc (.cells (TakesP.cells fun _ => false).toArray 51)) := (Below.refl _ _).alloc (Nat.le_refl _) _
        have hu0 := HBK.out.alloc (.cells (TakesP.cells fun _ => false).toArray 51)
        have hp6 := HPL.out.more (K' := fun b => b < w3.heap.size ∨ b = w4.heap.size ∨ b = wr.heap.size) hal (fun b hb => by
          rcases hb with h | h | h
          · exact .inl (.inl h)
          · exact .inl (.inr h)
          · exact .inr ⟨by omega, by simp; omega⟩)
        have HS2 := Lib.hid (And.intro hu0 (And.intro hl0 (And.intro hp6 (HBL.out.alloc HBL.out.size (.cells (TakesP.cells fun _ => false).toArray 51)))))
        have hne : w4.heap.size ≠ wr.heap.size := by have := HBK.out.lt; omega
        have hltr : w.heap.size ≤ wr.heap.size := HBL.out.size
        have hlt3 : w.heap.size ≤ w3.heap.size := HB3.out.size
        clear hl0 hal hu0 hp6
        obtain ⟨wo, rfl⟩ : ∃ wo : World, wo = wr := ⟨_, rfl⟩
        go_wp2_with fail
        go_loopw [12] (fun i wq => ∃ (k : Nat) (V : PV) (u l : Nat → Bool), k ≤ 60 ∧ i = .int .i64 k ∧ Blk wq w4.heap.size 51 (TakesP.cells u) ∧ Blk wq wo.heap.size 51 (TakesP.cells l) ∧ Pl (fun b => b < w3.heap.size ∨ b = w4.heap.size ∨ b = wo.heap.size) wq p V ∧ TInv V u l ∧ Below w.heap.size w wq) (fun i _ => 60 - (intOf i).toNat)
        case atStart => exact ⟨0, _, _, _, by omega, rfl, HS2.out.1, HS2.out.2.1, HS2.out.2.2.1, TakesP.inv_open _ _ _, HS2.out.2.2.2⟩
        case round =>
          obtain ⟨k, V, u, l, hk, rfl, hu, hl, hpl, hin, hbl⟩ := hrel
          have HU := Lib.hid hu
          have HL := Lib.hid hl
          have HPL2 := Lib.hid hpl
          have HIN := Lib.hid hin
          have HBL2 := Lib.hid hbl
          clear hu hl hpl hin hbl
          by_cases hlt : k < 60
          · go_upto_if 63 with (fail)
            go_cut [13, 14, 15, 16] from 56 to 123 (fun _ _ _ _ wx => ∃ (V : PV) (u l : Nat → Bool), Blk wx w4.heap.size 51 (TakesP.cells u) ∧ Blk wx wo.heap.size 51 (TakesP.cells l) ∧ Pl (fun b => b < w3.heap.size ∨ b = w4.heap.size ∨ b = wo.heap.size) wx p V ∧ TInv V u l ∧ Below w.heap.size w wx)
            case first =>
              by_cases hdr : k < drops.length
              · obtain ⟨b, off, rfl, hbB, hc⟩ := (HD.out.below (HBL2.out.mono hB)) (by omega)
                have hck := hc k hdr
                obtain ⟨m, hm, hbits⟩ := and_small (at_ drops k) 31 (by omega)
                have hbits2 : bits BinOp.and IntKind.i64 (at_ drops k) 31 = (m : Int) := hbits
                clear hc hbits
                go_wp2_with fail
                refine (frozen_v HPL2.out (x := m) (i64_of (by omega) (by omega))).mono ?_
                rintro e wf ⟨rfl, rfl⟩
                go_wp2_with fail
                refine (drop_v HPL2.out (x := m) (i64_of (by omega) (by omega))).mono ?_
                rintro e wd ⟨hkd, ⟨⟨q, hq⟩, rfl, hpd⟩ | ⟨hpg, hfr, rfl, hpd⟩ | ⟨hpg, hfr, rfl, hpd⟩⟩
                · have hfx := HPL2.out.facts.1 (m : Int) (by rw [hq]; simp)
                  have hm28 : m < 28 := by have := hfx.2.1; rw [HIN.out.many] at this; omega
                  have hum : u m = true := by rw [HIN.out.used m hm28, hq]; rfl
                  have hu1 := hkd.blk HU.out (.inr (.inl rfl))
                  have hl1 := hkd.blk HL.out (.inr (.inr rfl))
                  have hcu : wd.cell? ⟨w4.heap.size, m, none⟩ = some (.bool true) := by rw [hu1.cell, TakesP.cells_get _ _ hm28, hum]
                  have hcl : wd.cell? ⟨wo.heap.size, m, none⟩ = some (.bool (l m)) := by rw [hl1.cell, TakesP.cells_get _ _ hm28]
                  have hfu := hu1.frozen m
                  have hfl := hl1.frozen m
                  have hfrm : V.fr (m : Int) = false := hfx.2.2.1
                  have HI2 := Lib.hid (TakesP.inv_rmT HIN.out hfrm hfx.2.2.2)
                  have HU1 := Lib.hid hu1
                  have HL1 := Lib.hid hl1
                  have HPD := Lib.hid hpd
                  have HBD := Lib.hid (HBL2.out.trans (hkd.below (B := w.heap.size) (fun b hb => .inl (by omega)) HBL2.out.size))
                  clear hkd hq hpd hfx hum hu1 hl1
                  go_wp2_with fail
                  go_meet
                  obtain ⟨a1, a2, a3, a4⟩ := two_sets (v := false) hne hm28 HU1.out HL1.out HPD.out (.inr (.inl rfl)) (.inr (.inr rfl)) HBD.out hlt4 hltr
                  exact ⟨_, _, _, a1, a2, a3, HI2.out, a4⟩
                · have hfx := HPL2.out.facts.2.1 (m : Int) hfr
                  have hm28 : m < 28 := by have := hfx.2.1; rw [HIN.out.many] at this; omega
                  have hum : u m = true := by rw [HIN.out.used m hm28, hfr]; simp
                  have hu1 := hkd.blk HU.out (.inr (.inl rfl))
                  have hl1 := hkd.blk HL.out (.inr (.inr rfl))
                  have hcu : wd.cell? ⟨w4.heap.size, m, none⟩ = some (.bool true) := by rw [hu1.cell, TakesP.cells_get _ _ hm28, hum]
                  have hcl : wd.cell? ⟨wo.heap.size, m, none⟩ = some (.bool (l m)) := by rw [hl1.cell, TakesP.cells_get _ _ hm28]
                  have hfu := hu1.frozen m
                  have hfl := hl1.frozen m
                  have HI2 := Lib.hid (TakesP.inv_rmF HIN.out hpg)
                  have HU1 := Lib.hid hu1
                  have HL1 := Lib.hid hl1
                  have HPD := Lib.hid hpd
                  have HBD := Lib.hid (HBL2.out.trans (hkd.below (B := w.heap.size) (fun b hb => .inl (by omega)) HBL2.out.size))
                  clear hkd hpd hfx hum hu1 hl1 hpg
                  go_wp2_with fail
                  go_meet
                  obtain ⟨a1, a2, a3, a4⟩ := two_sets (v := true) hne hm28 HU1.out HL1.out HPD.out (.inr (.inl rfl)) (.inr (.inr rfl)) HBD.out hlt4 hltr
                  exact ⟨_, _, _, a1, a2, a3, HI2.out, a4⟩
                · have hu1 := hkd.blk HU.out (.inr (.inl rfl))
                  have hl1 := hkd.blk HL.out (.inr (.inr rfl))
                  have HU1 := Lib.hid hu1
                  have HL1 := Lib.hid hl1
                  have HPD := Lib.hid hpd
                  have HBD := Lib.hid (HBL2.out.trans (hkd.below (B := w.heap.size) (fun b hb => .inl (by omega)) HBL2.out.size))
                  by_cases hm28 : m < 28
                  · have hum : u m = false := by rw [HIN.out.used m hm28, hfr, hpg]; rfl
                    have hcu : wd.cell? ⟨w4.heap.size, m, none⟩ = some (.bool false) := by rw [hu1.cell, TakesP.cells_get _ _ hm28, hum]
                    clear hkd hpd hum hu1 hl1 hpg
                    go_wp2_with fail
                    go_meet
                    exact ⟨V, u, l, HU1.out, HL1.out, HPD.out, HIN.out, HBD.out⟩
                  · clear hkd hpd hu1 hl1 hpg
                    go_wp2_with fail
                    go_meet
                    exact ⟨V, u, l, HU1.out, HL1.out, HPD.out, HIN.out, HBD.out⟩
              · go_wp2_with fail
                go_meet
                exact ⟨V, u, l, HU.out, HL.out, HPL2.out, HIN.out, HBL2.out⟩
            case rest =>
              obtain ⟨V, u, l, hu, hl, hpl, hin, hbl⟩ := hcut
              have HU := Lib.hid hu
              have HL := Lib.hid hl
              have HPL2 := Lib.hid hpl
              have HIN := Lib.hid hin
              have HBL2 := Lib.hid hbl
              clear hu hl hpl hin hbl
              go_wp2_with fail
              go_loop [17, 18] (fun s17 s18 => ∃ (e : Nat) (z : Int), e ≤ 28 ∧ s17 = .int .i64 (lst u l (28 - e) : Nat) ∧ s18 = .int .i64 z ∧ z = (e : Int) - 1) (fun _ s18 => (intOf s18 + 1).toNat)
              case atStart => exact ⟨28, 27, by omega, rfl, rfl, rfl⟩
              case round =>
                obtain ⟨e, z, he28, rfl, rfl, hz⟩ := hrel
                rcases e with _ | e
                · obtain rfl : z = -1 := by omega
                  clear hz
                  obtain ⟨ls, hls⟩ : ∃ ls, ls = lst u l 28 := ⟨_, rfl⟩
                  rw [show lst u l (28 - 0) = ls from hls.symm]
                  have HLS := Lib.hid hls
                  clear hls
                  go_wp2_with fail
                  refine (take_v HPL2.out).mono ?_
                  rintro e wt ⟨hkt, ⟨hno, rfl, hpt⟩ | ⟨n, g, hf, hle, rfl, hpt⟩⟩
                  · obtain rfl : ls = 28 := HLS.out.trans (TakesP.least_none HIN.out hno)
                    have HX := Lib.hid (And.intro (hkt.blk HU.out (.inr (.inl rfl))) (And.intro (hkt.blk HL.out (.inr (.inr rfl))) (And.intro hpt (HBL2.out.trans (hkt.below (B := w.heap.size) (fun b hb => .inl (by omega)) HBL2.out.size)))))
                    clear hkt hno hpt
                    go_wp2_with fail
                    exact ⟨⟨k + 1, V, u, l, by omega, by go_num, HX.out.1, HX.out.2.1, HX.out.2.2.1, HIN.out, HX.out.2.2.2⟩, by simp [intOf]; omega⟩
                  · obtain ⟨hn, hl28⟩ := TakesP.least_some HIN.out hf hle
                    rw [← HLS.out] at hn hl28
                    subst hn
                    have hu1 := hkt.blk HU.out (.inr (.inl rfl))
                    have hcu : wt.cell? ⟨w4.heap.size, ls, none⟩ = some (.bool (u ls)) := by rw [hu1.cell, TakesP.cells_get _ _ hl28]
                    have hfu := hu1.frozen ls
                    have hn28 : ¬ ls = 28 := by omega
                    have HX := Lib.hid (one_set (a := true) hne.symm hl28 hu1 (hkt.blk HL.out (.inr (.inr rfl))) hpt (.inr (.inl rfl)) (HBL2.out.trans (hkt.below (B := w.heap.size) (fun b hb => .inl (by omega)) HBL2.out.size)) hlt4)
                    clear hkt hf hle hpt hu1
                    go_wp2_with fail
                    exact ⟨⟨k + 1, _, _, _, by omega, by go_num, HX.out.1, HX.out.2.1, HX.out.2.2.1, TakesP.inv_tk HIN.out, HX.out.2.2.2⟩, by simp [intOf]; omega⟩
                · obtain rfl : z = (e : Int) := by omega
                  have he : e < 28 := by omega
                  have hcu : wc.cell? ⟨w4.heap.size, e, none⟩ = some (.bool (u e)) := by rw [HU.out.cell, TakesP.cells_get _ _ he]
                  have hcl : wc.cell? ⟨wo.heap.size, e, none⟩ = some (.bool (l e)) := by rw [HL.out.cell, TakesP.cells_get _ _ he]
                  have hlst : lst u l (28 - e) = if !u e && !l e then e else lst u l (28 - (e + 1)) := by
                    rw [show 28 - e = (28 - (e + 1)) + 1 by omega]
                    conv => lhs; unfold lst
                    rw [show 27 - (28 - (e + 1)) = e by omega]
                  have HLS := Lib.hid hlst
                  clear hz hlst
                  rcases hue : u e with _ | _ <;> rcases hle : l e with _ | _
                  all_goals
                    rw [hue] at hcu
                    rw [hle] at hcl
                    go_wp2_with fail
                    go_round
                    case rel => exact ⟨e, (e : Int) - 1, by omega, by rw [HLS.out, hue, hle]; rfl, rfl, rfl⟩
                    case measure => simp [intOf]
          · obtain rfl : k = 60 := by omega
            go_wp2_with fail
            go_ret
            exact ⟨rfl, HBL2.out⟩
  · have HB4 := Lib.hid (HB3.out.trans (hb4.mono HB3.out.size))
    clear hb4 hbb3 hbd3
    go_wp2_with fail
    go_ret
    exact ⟨rfl, HB4.out⟩
end Go.Proofs.YteediemhcocgdaaDoor
