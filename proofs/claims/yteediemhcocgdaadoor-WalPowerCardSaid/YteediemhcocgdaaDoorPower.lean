/-
  The law WalPower: its walk.
-/
import Derived.Test.YteediemhcocgdaaDoorPowerAct
namespace Go.Proofs.YteediemhcocgdaaDoor
open Go.RowKit
open WalP (Stamp secs readR)

set_option maxHeartbeats 8000000 in
set_option maxRecDepth 100000 in
theorem power_any (A0 A1 A2 A5 A6 A7 : Option Addr) (c0 c1 c2 c5 c6 c7 : Nat) (old recs : List (List UInt8)) (syncs : List Bool) (acts : Int) (done : Bool) (keep : List Bool) (more : List (List UInt8)) (last : List Bool) (w : World)
    (h0 : RArg w w.heap.size A0 old) (h1 : RArg w w.heap.size A1 recs) (h2 : BIn w A2 syncs (fun g => g < w.heap.size)) (h5 : BIn w A5 keep (fun g => g < w.heap.size)) (h6 : RArg w w.heap.size A6 more) (h7 : BIn w A7 last (fun g => g < w.heap.size))
    (hn : Nib w) (hg : ErrH w) (hz : 1 < w.heap.size) (l0 : old.length ≤ 140737488351232) (l1 : recs.length ≤ 140737488351232) (l2 : syncs.length ≤ 140737488351232) (l5 : keep.length ≤ 140737488351232) (l6 : more.length ≤ 140737488351232) (l7 : last.length ≤ 140737488351232) (hact : acts ≤ 9223372036854775807) :
    Calls Tryd.prog 11 #[.slice A0 old.length c0, .slice A1 recs.length c1, .slice A2 syncs.length c2, .int .i64 acts, .bool done, .slice A5 keep.length c5, .slice A6 more.length c6, .slice A7 last.length c7] w fun e w' => e = .returned (.bool true) ∧ Below w.heap.size w w' := by
  have HR0 := Lib.hid h0
  have HR1 := Lib.hid h1
  have HB2 := Lib.hid h2
  have HB5 := Lib.hid h5
  have HR6 := Lib.hid h6
  have HB7 := Lib.hid h7
  have HNB := Lib.hid hn
  clear h0 h1 h2 h5 h6 h7 hn
  go_enter Tryd.func11, Tryd.ntmps11
  go_wp2_with fail
  refine (awake12_any w HNB.out hg hz).mono ?_
  rintro e w1 ⟨rfl, hb1⟩
  have HB1 := Lib.hid hb1
  have hs1 := hb1.size
  clear hb1 hg
  go_wp2_with fail
  refine (new_any 30 w1 (by omega)).mono ?_
  rintro e w2 ⟨hb, bb, sb, nb, rfl, hn2⟩
  have HN := Lib.hid hn2
  have HDK2 := Lib.hid (hn2.dk (by omega) (by omega))
  have HBL2 : Hid (Below w.heap.size w w2) := Lib.hid (HB1.out.trans (hn2.below.mono hs1))
  have hs2 := hn2.below.size
  have hhb1 := hn2.hbB
  have hhb2 := hn2.hand.lt
  clear hn2
  go_wp2_with fail
  refine (hdisk_any hb bb w2 HN.out.hand).mono ?_
  rintro e w3 ⟨rfl, hw3⟩
  obtain ⟨hb3, hs3, hc3, hd3⟩ := HDK2.out.hand hw3
  have HB3 : Hid (Below w.heap.size w w3) := Lib.hid (HBL2.out.trans (hb3.mono (by omega)))
  have HH3 := Lib.hid (HN.out.hand.below hb3 hhb2)
  have HDK3 := Lib.hid hd3
  have HC3 := Lib.hid hc3
  clear hw3 hb3 hc3 hd3
  go_wp2_with fail
  refine (lopen_v HDK3.out ⟨w2.heap.size, 3, 25, 5, 0, 0, false⟩ [] w2.heap.size HC3.out (HNB.out.below HB3.out (by omega)) (by omega) (LaidL.fresh (NoEp.new 5 3 25 30 (by omega))) (by show 1 ≤ 25; omega) (by show 25 ≤ 1073741824; omega) (by show ((3 + 25 : Nat) : Int) ≤ 30; omega) (by show 1 ≤ 5; omega) (by show 5 ≤ 1099511627776; omega) rfl).mono ?_
  rintro e w4 ⟨hb4, ll1, v4, B4, Br4, rfl, hl1, hblk4, hB4, hlB4, hBr4, hrows4⟩
  obtain ⟨Av4, cv4, rfl, _⟩ := hrows4.len
  have HT4 := Lib.hid (One.start (w0 := w) (K0 := fun x => ((x < w1.heap.size ∨ x = hb) ∨ x = w2.heap.size) ∨ x = ll1) HDK3.out HC3.out (.inr rfl) (LaidL.fresh (NoEp.new 5 3 25 30 (by omega))) rfl rfl rfl (by show 5 < 2 ^ 48; omega) rfl rfl rfl (HNB.out.below HB3.out (by omega)) hb4 hl1 hblk4 HB3.out (by omega)
    (fun g hg => .inl (.inl (by omega))) (.inl (.inr rfl)) HH3.out (fun x => Iff.rfl))
  clear hb4 hblk4 hB4 hlB4 hBr4 hrows4
  have hlow : (∀ x l, (DV.new 30).may x l → low 6 l) ∧ (DV.new 30).sound := ⟨(fun x l hm => by
    rcases hm with h | h
    · rw [h]; exact low_zero (by omega)
    · cases h), rfl⟩
  have HLOW := Lib.hid hlow
  clear hlow HDK3 HC3 HH3 HB3 HN HDK2 HBL2 HB1
  generalize (fun x : Nat => ((x < w1.heap.size ∨ x = hb) ∨ x = w2.heap.size) ∨ x = ll1) = K0 at HT4
  generalize w4.heap.size = Bp at HT4
  clear hs1 hs2 hhb1 hhb2 hs3 hl1
  go_wp2_with fail
  go_loopw [22] (fun s22 wr => ∃ (k : Nat) (L : LV) (V : DV) (r : List (List UInt8)), k ≤ old.length ∧ s22 = .int .i64 k ∧ One w K0 Bp bb hb ll1 V L r [] (.slice none 0 0) wr ∧ L.ep = 5 ∧ V.wait.length ≤ L.used ∧ V.n = 30 ∧ (∀ x l, V.may x l → low 6 l) ∧ V.sound) (fun s22 _ => old.length - (intOf s22).toNat)
  case atStart => exact ⟨0, _, _, _, Nat.zero_le _, rfl, HT4.out, rfl, Nat.le_refl _, rfl, HLOW.out⟩
  case round =>
    obtain ⟨k, L, V, r, hk, rfl, hT, hLep, hwt, hVn, hlw⟩ := hrel
    have HT := Lib.hid hT
    have HLE := Lib.hid hLep
    have HVN := Lib.hid hVn
    have HLW := Lib.hid hlw
    clear hT hLep hVn hlw HT4 HLOW
    by_cases hlt : k < old.length
    · have hwk : IntKind.i64.wrap ((k : Int) + 1) = (k : Int) + 1 := IntWalk.i64_in _ (by omega)
      obtain ⟨g, off, rfl, hgB, hc⟩ := HR0.out (by omega)
      obtain ⟨Ai, ci, hci0, hle, hc63, hl47, hby⟩ := hc k hlt
      have HBY := Lib.hid hby
      have HCI := Lib.hid hci0
      clear hc hby hci0
      generalize old.getD k [] = x at *
      have hci : wr.cell? ⟨g, off + k, none⟩ = some (.slice Ai x.length ci) := (HT.out.bel.cell (p := ⟨g, off + k, none⟩) hgB).trans HCI.out
      go_wp2_with fail
      refine (HT.out.append Ai ci x (HBY.out.below HT.out.bel) hle hc63 hl47 (by have := HT.out.cnt; omega)).mono ?_
      rintro e w7 (⟨htk, rfl, V', hst, hT7⟩ | ⟨htk, ⟨q, rfl⟩, hT7⟩)
      · obtain ⟨n1, n2, n3⟩ := steps_keeps _ _ hst
        obtain ⟨s1, s2, _⟩ := steps_may _ _ hst
        have hl6 : ∀ x l, V'.may x l → low 6 l := fun y l hm => by
          rcases s2 y l hm with h | ⟨j, h1, _, h3⟩
          · exact HLW.out.1 y l h
          · have h4 : low (L.ep + 1) (sect L x j) := low_sect (L := L) (b := x) (j := j) htk.1 h1 HT.out.lg.ep (by have := HT.out.cnt; omega)
            rw [h3]
            rw [HLE.out] at h4
            exact h4
        have HX := Lib.hid (And.intro hT7 (And.intro n1 (And.intro n3 (And.intro hl6 (s1 HLW.out.2)))))
        clear hT7 n1 n2 n3 hst htk s1 s2 hl6
        go_wp2_with fail
        exact ⟨⟨k + 1, _, V', _, by omega, by go_num, HX.out.1, HLE.out, by show V'.wait.length ≤ L.used + _; have := HX.out.2.2.1; omega, HX.out.2.1.trans HVN.out, HX.out.2.2.2⟩, by simp [intOf]; omega⟩
      · have HT7 := Lib.hid hT7
        clear hT7 htk
        go_wp2_with fail
        exact ⟨⟨k + 1, L, V, r, by omega, by go_num, HT7.out, HLE.out, hwt, HVN.out, HLW.out⟩, by simp [intOf]; omega⟩
    · have hrk := HT.out.cnt
      have hpos := HT.out.pos
      have hzz := HT.out.bel.size
      go_wp2_with fail
      refine (hdisk_any hb bb wr HT.out.hand).mono ?_
      rintro e w7 ⟨rfl, hw7⟩
      obtain ⟨hb7, hs7, hc7, hd7⟩ := HT.out.lg.dk.hand hw7
      have HD7 := Lib.hid hd7
      have HB7' := Lib.hid hb7
      have HC7 := Lib.hid hc7
      clear hw7 hb7 hc7 hd7
      have hne6 : NoEp 6 3 25 0 V := NoEp.of_low HLW.out.1 HLW.out.2
      have HNE := Lib.hid hne6
      clear hne6
      go_wp2_with fail
      refine (lopen_v HD7.out ⟨wr.heap.size, 3, 25, 6, 0, 0, false⟩ [] wr.heap.size HC7.out (HT.out.lg.nib.below HB7'.out HT.out.lg.w0) (by omega) (LaidL.fresh HNE.out) (by show 1 ≤ 25; omega) (by show 25 ≤ 1073741824; omega) (by show ((3 + 25 : Nat) : Int) ≤ V.n; rw [HVN.out]; omega) (by show 1 ≤ 6; omega) (by show 6 ≤ 1099511627776; omega) HT.out.lg.down).mono ?_
      rintro e w8 ⟨hb8, ll2, v8, B8, Br8, rfl, hl2, hblk8, hB8, hlB8, hBr8, hrows8⟩
      obtain ⟨Av8, cv8, rfl, _⟩ := hrows8.len
      have ho8 := (One.start (w0 := w) (K0 := fun x => (K1 K0 (.slice none 0 0) x ∨ x = wr.heap.size) ∨ x = ll2) HD7.out HC7.out (.inr rfl) (LaidL.fresh HNE.out) rfl rfl HVN.out (by show 6 < 2 ^ 48; omega) rfl HT.out.lg.armed HT.out.lg.down (HT.out.lg.nib.below HB7'.out HT.out.lg.w0) hb8 hl2 hblk8 (HT.out.bel.trans (HB7'.out.mono hzz)) (by omega)
        (fun g hg => .inl (.inl (HT.out.k0 g hg))) (.inl (.inl HT.out.kh)) (HT.out.hand.below HB7'.out HT.out.hand.lt) (fun x => Iff.rfl)).onP HVN.out
      have HT8 := Lib.hid ho8
      clear ho8 hb8 hblk8 hB8 hlB8 hBr8 hrows8
      have hVw : V.wait.length ≤ 25 := by omega
      have hVa := HT.out.lg.armed
      have hVd := HT.out.lg.down
      have HVA := Lib.hid (And.intro hVa hVd)
      clear hVa hVd
      generalize (fun x : Nat => (K1 K0 (.slice none 0 0) x ∨ x = wr.heap.size) ∨ x = ll2) = K2 at HT8
      generalize w8.heap.size = Bq at HT8
      clear hl2 hs7 HD7 HB7' HC7 hlt hrk hzz hwt hk HT HNE
      go_wp2_with fail
      refine (arm_v HT8.out.dk hb acts done HT8.out.hand hact).mono ?_
      rintro e w9 ⟨rfl, hd9, hk9⟩
      have HT9 := Lib.hid (HT8.out.kept hd9 rfl hk9)
      have HP9 := Lib.hid (Pow.start (db := wr.heap.size) (frm := 3) (many := 25) HLW.out.1 HLW.out.2 HVA.out.1 (V.arm acts done) rfl rfl rfl)
      have hd9n : (V.arm acts done).down = false := HVA.out.2
      have HDN := Lib.hid hd9n
      have hw9n : (V.arm acts done).wait.length ≤ 25 := hVw
      clear hd9 hk9 hd9n HT8
      generalize V.arm acts done = Va at *
      generalize wr.heap.size = db2 at *
      go_wp2_with fail
      go_loopw [26, 27, 28] (fun s26 s27 s28 wx => ∃ (k m0 : Nat) (L : LV) (V : DV) (r : List (List UInt8)), k ≤ recs.length ∧ s28 = .int .i64 k ∧ s27 = .int .i64 m0 ∧ PwL w K2 Bq bb hb ll2 V L r m0 s26 wx) (fun _ _ s28 _ => recs.length - (intOf s28).toNat)
      case atStart => exact ⟨0, 0, _, Va, [], Nat.zero_le _, rfl, rfl, HT9.out, by omega, .inl ⟨rfl, HDN.out, by omega, rfl, V, HP9.out⟩⟩
      case round =>
        obtain ⟨wo, rfl⟩ : ∃ wo : World, wo = w9 := ⟨_, rfl⟩
        rename_i V0 _ _ _
        obtain ⟨k, m0, L, V, r, hk, rfl, rfl, hT⟩ := hrel
        obtain ⟨Ao, co, rfl, hcoR⟩ := hT.on.put.len
        have HT := Lib.hid hT
        have hcn := hT.cnt
        clear hT HT9 HP9 HDN hw9n
        by_cases hlt : k < recs.length
        · have d1 : decide ((k : Int) < (recs.length : Int)) = true := by simp; omega
          rcases HT.out.st with ⟨hdd, hdn, hwt, hep, G0, hpw⟩ | ⟨hdd, _⟩
          · have HDD := Lib.hid hdd
            have HDN := Lib.hid hdn
            have HEP := Lib.hid hep
            have HPW := Lib.hid hpw
            clear hdd hdn hep hpw
            have hu25 : L.used ≤ 25 := by have := HPW.out.d.laid.used; have := HT.out.on.many; omega
            have hwk : IntKind.i64.wrap ((k : Int) + 1) = (k : Int) + 1 := IntWalk.i64_in _ (by omega)
            obtain ⟨g, off, rfl, hgB, hc⟩ := HR1.out (by omega)
            obtain ⟨Ai, ci, hci0, hle, hc63, hl47, hby⟩ := hc k hlt
            have HBY := Lib.hid hby
            have HCI := Lib.hid hci0
            clear hc hby hci0
            generalize recs.getD k [] = x at *
            have hci : wr.cell? ⟨g, off + k, none⟩ = some (.slice Ai x.length ci) := (HT.out.on.bel.cell (p := ⟨g, off + k, none⟩) hgB).trans HCI.out
            go_wp2_with fail
            refine (dead_any L ll2 wr HT.out.on.lg).mono ?_
            rintro e w11 ⟨rfl, rfl⟩
            rw [HDD.out]
            go_wp2_with fail
            refine (HT.out.on.append HPW.out HDD.out HDN.out Ai ci x (HBY.out.below HT.out.on.bel) hle hc63 hl47 (by omega)).mono ?_
            rintro e w12 (⟨rfl, V', L', G', hon, hpw', hdn', hdd', hep', hwt'⟩ | ⟨q, rfl, hon⟩ | ⟨q, rfl, V', L', L2, G', hon, hdd', hpd', q1, q2, q3, hwt'⟩)
            · have HON12 := Lib.hid hon
              have HP12 := Lib.hid (And.intro hpw' (And.intro hdn' (And.intro hdd' (hep'.trans HEP.out))))
              have hu25' : L'.used ≤ 25 := by have := hpw'.d.laid.used; have := hon.many; omega
              have hci12 : w12.cell? ⟨g, off + k, none⟩ = some (.slice Ai x.length ci) := (hon.bel.cell (p := ⟨g, off + k, none⟩) hgB).trans HCI.out
              clear hon hpw' hdn' hdd' hep'
              obtain ⟨Aq, cq, M13, hrun13, hT13⟩ := HON12.out.push (by omega) Ai ci x (HBY.out.below HON12.out.bel) hle hc63 36
              have HR13 := Lib.hid hrun13
              have HT13 := Lib.hid hT13
              clear hrun13 hT13
              by_cases hks : k < syncs.length
              · have d2 : decide ((k : Int) < (syncs.length : Int)) = true := by simp; omega
                obtain ⟨gs, os, rfl, hgs, hcs⟩ := HB2.out (by omega)
                have hcs1 : M13.cell? ⟨gs, os + k, none⟩ = some (.bool (syncs.getD k false)) := (HT13.out.bel.cell (p := ⟨gs, os + k, none⟩) hgs).trans (hcs k hks)
                clear hcs
                rcases hsv : syncs.getD k false with _ | _
                · rw [hsv] at hcs1
                  clear hsv
                  go_wp2_with (at_builtin; refine Lib.wpList_append_run _ rfl (.tmp 112) (.tmp 117) _ _ rfl _ _ rfl rfl _ _ HR13.out ?_)
                  exact ⟨⟨k + 1, m0, L', V', _, by omega, by go_num, rfl, HT13.out, by omega, .inl ⟨HP12.out.2.2.1, HP12.out.2.1, by omega, HP12.out.2.2.2, _, HP12.out.1⟩⟩, by simp [intOf]; omega⟩
                · rw [hsv] at hcs1
                  clear hsv
                  go_wp2_with (at_builtin; refine Lib.wpList_append_run _ rfl (.tmp 112) (.tmp 117) _ _ rfl _ _ rfl rfl _ _ HR13.out ?_)
                  refine (HT13.out.sync HP12.out.1 HP12.out.2.2.1 HP12.out.2.1 (by omega)).mono ?_
                  rintro e w14 (⟨rfl, V5, G5, hon5, hp5, hdn5, hw5⟩ | ⟨rfl, V5, L5, G5, hon5, hdd5, hp5, hw5⟩)
                  · have HX := Lib.hid (And.intro hon5 (And.intro hp5 hdn5))
                    clear hon5 hp5 hdn5
                    go_wp2_with fail
                    exact ⟨⟨k + 1, r.length + 1, L', V5, _, by omega, by go_num, by go_num, HX.out.1, by omega, .inl ⟨HP12.out.2.2.1, HX.out.2.2, by omega, HP12.out.2.2.2, _, by have := HX.out.2.1; rw [List.length_append, List.length_singleton] at this; exact this⟩⟩, by simp [intOf]; omega⟩
                  · have HX := Lib.hid (And.intro hon5 (And.intro hp5 hdd5))
                    have HFM := Lib.hid (And.intro HT13.out.frm (And.intro HT13.out.many HP12.out.2.2.2))
                    clear hon5 hp5 hdd5
                    go_wp2_with fail
                    exact ⟨⟨k + 1, m0, L5, V5, _, by omega, by go_num, rfl, HX.out.1, by omega, .inr ⟨HX.out.2.2, G5, L', HX.out.2.1, HFM.out.1, HFM.out.2.1, HFM.out.2.2⟩⟩, by simp [intOf]; omega⟩
              · have d2 : decide ((k : Int) < (syncs.length : Int)) = false := by simp; omega
                go_wp2_with (at_builtin; refine Lib.wpList_append_run _ rfl (.tmp 112) (.tmp 117) _ _ rfl _ _ rfl rfl _ _ HR13.out ?_)
                exact ⟨⟨k + 1, m0, L', V', _, by omega, by go_num, rfl, HT13.out, by omega, .inl ⟨HP12.out.2.2.1, HP12.out.2.1, by omega, HP12.out.2.2.2, _, HP12.out.1⟩⟩, by simp [intOf]; omega⟩
            · have HON12 := Lib.hid hon
              clear hon
              go_wp2_with fail
              refine (dead_any L ll2 w12 HON12.out.lg).mono ?_
              rintro e w13 ⟨rfl, rfl⟩
              rw [HDD.out]
              go_wp2_with fail
              exact ⟨⟨k + 1, m0, L, V, r, by omega, by go_num, rfl, HON12.out, by omega, .inl ⟨HDD.out, HDN.out, hwt, HEP.out, _, HPW.out⟩⟩, by simp [intOf]; omega⟩
            · have HON12 := Lib.hid hon
              have HP12 := Lib.hid (And.intro hpd' (And.intro q1 (And.intro q2 (And.intro (q3.trans HEP.out) hdd'))))
              have hci12 : w12.cell? ⟨g, off + k, none⟩ = some (.slice Ai x.length ci) := (hon.bel.cell (p := ⟨g, off + k, none⟩) hgB).trans HCI.out
              clear hon hpd' q1 q2 q3 hdd'
              go_wp2_with fail
              refine (dead_any L' ll2 w12 HON12.out.lg).mono ?_
              rintro e w13 ⟨rfl, rfl⟩
              rw [HP12.out.2.2.2.2]
              obtain ⟨Aq, cq, M13, hrun13, hT13⟩ := HON12.out.push (by omega) Ai ci x (HBY.out.below HON12.out.bel) hle hc63 36
              have HR13 := Lib.hid hrun13
              have HT13 := Lib.hid hT13
              clear hrun13 hT13
              go_wp2_with (at_builtin; refine Lib.wpList_append_run _ rfl (.tmp 112) (.tmp 117) _ _ rfl _ _ rfl rfl _ _ HR13.out ?_)
              exact ⟨⟨k + 1, m0, L', V', _, by omega, by go_num, rfl, HT13.out, by omega, .inr ⟨HP12.out.2.2.2.2, G', L2, HP12.out.1, HP12.out.2.1, HP12.out.2.2.1, HP12.out.2.2.2.1⟩⟩, by simp [intOf]; omega⟩
          · have HDD := Lib.hid hdd
            clear hdd
            go_wp2_with fail
            refine (dead_any L ll2 wr HT.out.on.lg).mono ?_
            rintro e w11 ⟨rfl, rfl⟩
            rw [HDD.out]
            obtain ⟨G, L2, hpd, q1, q2, q3⟩ := HT.out.pd
            obtain ⟨hF1, hF2⟩ := hpd.at_ keep q1 q2 6 q3
            have hlow7 := hpd.crashed keep
            rw [q3] at hlow7
            have HLW7 := Lib.hid hlow7
            have HCN := HT.out.cnt
            have HBK := Lib.hid (HB5.out.at_ HT.out.on.bel (K1 K2 (.slice Ao r.length co)) fun g hg => .inl (HT.out.on.k0 g hg))
            have HF1 := Lib.hid hF1
            have HF2 := Lib.hid hF2
            clear hpd q1 q2 q3 hF1 hF2 hlow7
            go_wp2_with fail
            refine (crash_v HT.out.on.dk hb A5 c5 keep (by have := HT.out.wt; omega) HT.out.on.hand HBK.out (by omega)).mono ?_
            rintro e w20 ⟨rfl, hd20, hk20⟩
            have HT20 := Lib.hid (HT.out.on.kept hd20 rfl hk20)
            have HVC := Lib.hid (show (V.crash keep).armed = false ∧ (V.crash keep).down = false ∧ (V.crash keep).sound ∧ (V.crash keep).n = 30 ∧ (V.crash keep).wait.length ≤ 0 from ⟨rfl, rfl, rfl, HT.out.on.n, Nat.le_refl _⟩)
            clear hd20 hk20 HBK
            generalize V.crash keep = VC at *
            generalize hfo : found 6 (fun k => VC.now ((3 + k : Nat) : Int)) 25 = F at *
            have HFO := Lib.hid hfo
            clear hfo
            have hz20 := HT20.out.bel.size
            go_wp2_with fail
            refine (hdisk_any hb bb w20 HT20.out.hand).mono ?_
            rintro e w21 ⟨rfl, hw21⟩
            obtain ⟨hb21, hs21, hc21, hd21⟩ := HT20.out.dk.hand hw21
            have HT21 := Lib.hid (HT20.out.keep hb21)
            have HD21 := Lib.hid hd21
            have HC21 := Lib.hid hc21
            clear hw21 hb21 hc21 hd21
            go_wp2_with fail
            have hop := wopen_v HD21.out w20.heap.size 3 25 6 HC21.out HT21.out.nib (by omega) (by omega) (by omega) (by rw [HVC.out.2.2.2.1]; omega) (by omega) (by omega) HVC.out.2.1
            rw [HFO.out] at hop
            have HOP := Lib.hid hop
            clear hop
            generalize F.out = fo at *
            generalize F.used = fu at *
            refine HOP.out.mono ?_
            clear HOP HFO
            rintro e w22 ⟨hb22, l22, v22, B22, Br22, rfl, hl22, hblk22, hB22, hlB22, hBr22, hrows22⟩
            obtain ⟨Av22, cv22, rfl, _⟩ := hrows22.len
            have HT22 := Lib.hid (HT21.out.keep hb22)
            have HR22 := Lib.hid hrows22.rin
            have hf1 : m0 ≤ fo.length := HF2.out
            have hf2 : fo.length ≤ r.length := HF1.out.length_le
            have HP22 : Hid (RIn w22 Ao fo) := Lib.hid (by
              have h3 := (HT22.out.put.rin HT22.out.bel.size).less fo.length
              rw [← List.prefix_iff_eq_take.1 HF1.out] at h3
              exact h3)
            clear hb22 hblk22 hB22 hlB22 hBr22 hrows22 HT20 HT21 HD21 HC21
            go_wp2_with fail
            refine (sameRows_any w22 Av22 Ao cv22 co fo fo HR22.out HP22.out (by omega) (by omega) true (by simp)).mono ?_
            rintro e w23 ⟨rfl, n23, rfl⟩
            have HT23 := Lib.hid (HT22.out.keep (w' := w22.drewN n23) (below_drewN (Below.refl _ _) n23))
            clear HT22 HR22 HP22 HF1 HF2
            have hf3 : m0 ≤ fo.length ∧ fo.length ≤ r.length := ⟨hf1, hf2⟩
            generalize w22.drewN n23 = w23 at *
            have hz23 := HT23.out.bel.size
            go_wp2_with fail
            refine (hdisk_any hb bb w23 HT23.out.hand).mono ?_
            rintro e w24 ⟨rfl, hw24⟩
            obtain ⟨hb24, hs24, hc24, hd24⟩ := HT23.out.dk.hand hw24
            clear hf1 hf2 hf3
            have HT24 := Lib.hid (HT23.out.keep hb24)
            have HD24 := Lib.hid hd24
            have HC24 := Lib.hid hc24
            have hne7 : NoEp 7 3 25 0 VC := NoEp.of_low HLW7.out HVC.out.2.2.1
            have HN7 := Lib.hid hne7
            clear hw24 hb24 hc24 hd24 hne7
            go_wp2_with fail
            refine (lopen_v HD24.out ⟨w23.heap.size, 3, 25, 7, 0, 0, false⟩ [] w23.heap.size HC24.out HT24.out.nib (by omega) (LaidL.fresh HN7.out) (by show 1 ≤ 25; omega) (by show 25 ≤ 1073741824; omega) (by show ((3 + 25 : Nat) : Int) ≤ VC.n; rw [HVC.out.2.2.2.1]; omega) (by show 1 ≤ 7; omega) (by show 7 ≤ 1099511627776; omega) HVC.out.2.1).mono ?_
            rintro e w25 ⟨hb25, l25, v25, B25, Br25, rfl, hl25, hblk25, hB25, hlB25, hBr25, hrows25⟩
            obtain ⟨Av25, cv25, rfl, _⟩ := hrows25.len
            have HO25 := Lib.hid (One.start (w0 := w) (K0 := fun x => (K1 K2 (.slice Ao r.length co) x ∨ x = w23.heap.size) ∨ x = l25) HD24.out HC24.out (.inr rfl) (LaidL.fresh HN7.out) rfl rfl HVC.out.2.2.2.1 (by show 7 < 2 ^ 48; omega) rfl HVC.out.1 HVC.out.2.1 HT24.out.nib hb25 hl25 hblk25 HT24.out.bel (by omega)
              (fun g hg => .inl (.inl (HT24.out.k0 g hg))) (.inl (.inl HT24.out.kh)) HT24.out.hand (fun x => Iff.rfl))
            have HP25 := Lib.hid (Pow.start (db := w23.heap.size) (frm := 3) (many := 25) HLW7.out HVC.out.2.2.1 HVC.out.1 VC rfl rfl rfl).d
            have HVN25 := Lib.hid HVC.out.2.2.2.1
            have hvw25 : VC.wait.length ≤ 0 := HVC.out.2.2.2.2
            generalize (fun x : Nat => (K1 K2 (.slice Ao r.length co) x ∨ x = w23.heap.size) ∨ x = l25) = K3 at HO25
            generalize w25.heap.size = Bs at HO25
            clear hb25 hblk25 hB25 hlB25 hBr25 hrows25 HT23 HT24 HD24 HC24 HN7 HLW7 HVC hz20 hz23 hs21 hs24 hl22 hl25 HT HCN
            go_wp2_with fail
            go_loopw [35, 36] (fun s35 s36 wx => ∃ (k : Nat) (L : LV) (V : DV) (r : List (List UInt8)), k ≤ more.length ∧ s36 = .int .i64 k ∧ One w K3 Bs bb hb l25 V L r r s35 wx ∧ V.wait.length ≤ L.used ∧ L.ep = 7 ∧ V.n = 30 ∧ ∃ G, PowD V L r G 0) (fun _ s36 _ => more.length - (intOf s36).toNat)
            case atStart => exact ⟨0, _, VC, [], Nat.zero_le _, rfl, HO25.out, hvw25, rfl, HVN25.out, _, HP25.out⟩
            case round =>
              obtain ⟨k3, L3, V3, r3, hk3, rfl, hT3, hwt3, hLep3, hVn3, G3, hpd3⟩ := hrel
              obtain ⟨Ap, cp, rfl, hcp⟩ := hT3.put.len
              have HT3 := Lib.hid hT3
              have HLE3 := Lib.hid hLep3
              have HVN3 := Lib.hid hVn3
              have HPD3 := Lib.hid hpd3
              have hcn3 := hT3.cnt
              clear hT3 hLep3 hVn3 hpd3 HO25 HP25 HVN25 hvw25
              by_cases hlt3 : k3 < more.length
              · have hwk : IntKind.i64.wrap ((k3 : Int) + 1) = (k3 : Int) + 1 := IntWalk.i64_in _ (by omega)
                obtain ⟨g, off, rfl, hgB, hc⟩ := HR6.out (by omega)
                obtain ⟨Ai, ci, hci0, hle, hc63, hl47, hby⟩ := hc k3 hlt3
                have HBY := Lib.hid hby
                have HCI := Lib.hid hci0
                clear hc hby hci0
                generalize more.getD k3 [] = x at *
                have hci := (HT3.out.bel.cell (p := ⟨g, off + k3, none⟩) hgB).trans HCI.out
                go_wp2_with fail
                refine (HT3.out.append Ai ci x (HBY.out.below HT3.out.bel) hle hc63 hl47 (by omega)).mono ?_
                rintro e w30 (⟨htk, rfl, V', hst, hT30⟩ | ⟨htk, ⟨q, rfl⟩, hT30⟩)
                · have hci30 : w30.cell? ⟨g, off + k3, none⟩ = some (.slice Ai x.length ci) := (hT30.bel.cell (p := ⟨g, off + k3, none⟩) hgB).trans HCI.out
                  obtain ⟨n1, n2, n3⟩ := steps_keeps _ _ hst
                  obtain ⟨s1, s2, _⟩ := steps_may _ _ hst
                  obtain ⟨G', _, hpd'⟩ := HPD3.out.append x htk HT3.out.lg.ep (by have := HT3.out.many; omega) s2
                  obtain ⟨Aq, cq, M31, hrun31, hT31⟩ := hT30.push (by omega) Ai ci x (HBY.out.below hT30.bel) hle hc63 36
                  have HR31 := Lib.hid hrun31
                  have HX := Lib.hid (And.intro hT31 (And.intro n1 (And.intro n3 hpd')))
                  clear hT30 hT31 hrun31 n1 n2 n3 hst htk s1 s2 hpd'
                  go_wp2_with (at_builtin; refine Lib.wpList_append_run _ rfl (.tmp 206) (.tmp 211) _ _ rfl _ _ rfl rfl _ _ HR31.out ?_)
                  exact ⟨⟨k3 + 1, _, V', _, by omega, by go_num, HX.out.1, by show V'.wait.length ≤ L3.used + _; have := HX.out.2.2.1; omega, HLE3.out, HX.out.2.1.trans HVN3.out, _, HX.out.2.2.2⟩, by simp [intOf]; omega⟩
                · have HT30 := Lib.hid hT30
                  clear hT30 htk
                  go_wp2_with fail
                  exact ⟨⟨k3 + 1, L3, V3, r3, by omega, by go_num, HT30.out, hwt3, HLE3.out, HVN3.out, _, HPD3.out⟩, by simp [intOf]; omega⟩
              · obtain ⟨hF1, hF2⟩ := HPD3.out.at_ last HT3.out.frm HT3.out.many 7 HLE3.out
                have HON := Lib.hid (HT3.out.onP HVN3.out)
                have HBK := Lib.hid (HB7.out.at_ HT3.out.bel (K1 K3 (.slice Ap r3.length cp)) fun g hg => .inl (HT3.out.k0 g hg))
                have HF1 := Lib.hid hF1
                clear hF1 hF2
                go_wp2_with fail
                refine (crash_v HON.out.dk hb A7 c7 last (by omega) HON.out.hand HBK.out (by omega)).mono ?_
                rintro e w40 ⟨rfl, hd40, hk40⟩
                have HT40 := Lib.hid (HON.out.kept hd40 rfl hk40)
                have HVC := Lib.hid (show (V3.crash last).down = false ∧ (V3.crash last).n = 30 from ⟨rfl, HON.out.n⟩)
                clear hd40 hk40 HBK
                generalize V3.crash last = VD at *
                generalize hfo : found 7 (fun k => VD.now ((3 + k : Nat) : Int)) 25 = F at *
                have HFO := Lib.hid hfo
                clear hfo
                have hz40 := HT40.out.bel.size
                go_wp2_with fail
                refine (hdisk_any hb bb w40 HT40.out.hand).mono ?_
                rintro e w41 ⟨rfl, hw41⟩
                obtain ⟨hb41, hs41, hc41, hd41⟩ := HT40.out.dk.hand hw41
                have HT41 := Lib.hid (HT40.out.keep hb41)
                have HD41 := Lib.hid hd41
                have HC41 := Lib.hid hc41
                clear hw41 hb41 hc41 hd41
                go_wp2_with fail
                have hop := wopen_v HD41.out w40.heap.size 3 25 7 HC41.out HT41.out.nib (by omega) (by omega) (by omega) (by rw [HVC.out.2]; omega) (by omega) (by omega) HVC.out.1
                rw [HFO.out] at hop
                have HOP := Lib.hid hop
                clear hop
                generalize F.out = fo at *
                generalize F.used = fu at *
                refine HOP.out.mono ?_
                clear HOP HFO
                rintro e w42 ⟨hb42, l42, v42, B42, Br42, rfl, hl42, hblk42, hB42, hlB42, hBr42, hrows42⟩
                obtain ⟨Av42, cv42, rfl, _⟩ := hrows42.len
                have HT42 := Lib.hid (HT41.out.keep hb42)
                have HR42 := Lib.hid hrows42.rin
                have hf2 : fo.length ≤ r3.length := HF1.out.length_le
                have HP42 : Hid (RIn w42 Ap fo) := Lib.hid (by
                  have h3 := (HT42.out.put.rin HT42.out.bel.size).less fo.length
                  rw [← List.prefix_iff_eq_take.1 HF1.out] at h3
                  exact h3)
                clear hb42 hblk42 hB42 hlB42 hBr42 hrows42 HT40 HT41 HD41 HC41
                go_wp2_with fail
                refine (sameRows_any w42 Av42 Ap cv42 cp fo fo HR42.out HP42.out (by omega) (by omega) true (by simp)).mono ?_
                rintro e w43 ⟨rfl, n43, rfl⟩
                go_wp2_with fail
                go_ret
                exact ⟨rfl, below_drewN HT42.out.bel _⟩
        · have d1 : decide ((k : Int) < (recs.length : Int)) = false := by simp; omega
          obtain ⟨G, L2, hpd, q1, q2, q3⟩ := HT.out.pd
          obtain ⟨hF1, hF2⟩ := hpd.at_ keep q1 q2 6 q3
          have hlow7 := hpd.crashed keep
          rw [q3] at hlow7
          have HLW7 := Lib.hid hlow7
          have HCN := HT.out.cnt
          have HBK := Lib.hid (HB5.out.at_ HT.out.on.bel (K1 K2 (.slice Ao r.length co)) fun g hg => .inl (HT.out.on.k0 g hg))
          have HF1 := Lib.hid hF1
          have HF2 := Lib.hid hF2
          clear hpd q1 q2 q3 hF1 hF2 hlow7
          go_wp2_with fail
          refine (crash_v HT.out.on.dk hb A5 c5 keep (by have := HT.out.wt; omega) HT.out.on.hand HBK.out (by omega)).mono ?_
          rintro e w20 ⟨rfl, hd20, hk20⟩
          have HT20 := Lib.hid (HT.out.on.kept hd20 rfl hk20)
          have HVC := Lib.hid (show (V.crash keep).armed = false ∧ (V.crash keep).down = false ∧ (V.crash keep).sound ∧ (V.crash keep).n = 30 ∧ (V.crash keep).wait.length ≤ 0 from ⟨rfl, rfl, rfl, HT.out.on.n, Nat.le_refl _⟩)
          clear hd20 hk20 HBK
          generalize V.crash keep = VC at *
          generalize hfo : found 6 (fun k => VC.now ((3 + k : Nat) : Int)) 25 = F at *
          have HFO := Lib.hid hfo
          clear hfo
          have hz20 := HT20.out.bel.size
          go_wp2_with fail
          refine (hdisk_any hb bb w20 HT20.out.hand).mono ?_
          rintro e w21 ⟨rfl, hw21⟩
          obtain ⟨hb21, hs21, hc21, hd21⟩ := HT20.out.dk.hand hw21
          have HT21 := Lib.hid (HT20.out.keep hb21)
          have HD21 := Lib.hid hd21
          have HC21 := Lib.hid hc21
          clear hw21 hb21 hc21 hd21
          go_wp2_with fail
          have hop := wopen_v HD21.out w20.heap.size 3 25 6 HC21.out HT21.out.nib (by omega) (by omega) (by omega) (by rw [HVC.out.2.2.2.1]; omega) (by omega) (by omega) HVC.out.2.1
          rw [HFO.out] at hop
          have HOP := Lib.hid hop
          clear hop
          generalize F.out = fo at *
          generalize F.used = fu at *
          refine HOP.out.mono ?_
          clear HOP HFO
          rintro e w22 ⟨hb22, l22, v22, B22, Br22, rfl, hl22, hblk22, hB22, hlB22, hBr22, hrows22⟩
          obtain ⟨Av22, cv22, rfl, _⟩ := hrows22.len
          have HT22 := Lib.hid (HT21.out.keep hb22)
          have HR22 := Lib.hid hrows22.rin
          have hf1 : m0 ≤ fo.length := HF2.out
          have hf2 : fo.length ≤ r.length := HF1.out.length_le
          have HP22 : Hid (RIn w22 Ao fo) := Lib.hid (by
            have h3 := (HT22.out.put.rin HT22.out.bel.size).less fo.length
            rw [← List.prefix_iff_eq_take.1 HF1.out] at h3
            exact h3)
          clear hb22 hblk22 hB22 hlB22 hBr22 hrows22 HT20 HT21 HD21 HC21
          go_wp2_with fail
          refine (sameRows_any w22 Av22 Ao cv22 co fo fo HR22.out HP22.out (by omega) (by omega) true (by simp)).mono ?_
          rintro e w23 ⟨rfl, n23, rfl⟩
          have HT23 := Lib.hid (HT22.out.keep (w' := w22.drewN n23) (below_drewN (Below.refl _ _) n23))
          clear HT22 HR22 HP22 HF1 HF2
          have hf3 : m0 ≤ fo.length ∧ fo.length ≤ r.length := ⟨hf1, hf2⟩
          generalize w22.drewN n23 = w23 at *
          have hz23 := HT23.out.bel.size
          go_wp2_with fail
          refine (hdisk_any hb bb w23 HT23.out.hand).mono ?_
          rintro e w24 ⟨rfl, hw24⟩
          obtain ⟨hb24, hs24, hc24, hd24⟩ := HT23.out.dk.hand hw24
          clear hf1 hf2 hf3
          have HT24 := Lib.hid (HT23.out.keep hb24)
          have HD24 := Lib.hid hd24
          have HC24 := Lib.hid hc24
          have hne7 : NoEp 7 3 25 0 VC := NoEp.of_low HLW7.out HVC.out.2.2.1
          have HN7 := Lib.hid hne7
          clear hw24 hb24 hc24 hd24 hne7
          go_wp2_with fail
          refine (lopen_v HD24.out ⟨w23.heap.size, 3, 25, 7, 0, 0, false⟩ [] w23.heap.size HC24.out HT24.out.nib (by omega) (LaidL.fresh HN7.out) (by show 1 ≤ 25; omega) (by show 25 ≤ 1073741824; omega) (by show ((3 + 25 : Nat) : Int) ≤ VC.n; rw [HVC.out.2.2.2.1]; omega) (by show 1 ≤ 7; omega) (by show 7 ≤ 1099511627776; omega) HVC.out.2.1).mono ?_
          rintro e w25 ⟨hb25, l25, v25, B25, Br25, rfl, hl25, hblk25, hB25, hlB25, hBr25, hrows25⟩
          obtain ⟨Av25, cv25, rfl, _⟩ := hrows25.len
          have HO25 := Lib.hid (One.start (w0 := w) (K0 := fun x => (K1 K2 (.slice Ao r.length co) x ∨ x = w23.heap.size) ∨ x = l25) HD24.out HC24.out (.inr rfl) (LaidL.fresh HN7.out) rfl rfl HVC.out.2.2.2.1 (by show 7 < 2 ^ 48; omega) rfl HVC.out.1 HVC.out.2.1 HT24.out.nib hb25 hl25 hblk25 HT24.out.bel (by omega)
            (fun g hg => .inl (.inl (HT24.out.k0 g hg))) (.inl (.inl HT24.out.kh)) HT24.out.hand (fun x => Iff.rfl))
          have HP25 := Lib.hid (Pow.start (db := w23.heap.size) (frm := 3) (many := 25) HLW7.out HVC.out.2.2.1 HVC.out.1 VC rfl rfl rfl).d
          have HVN25 := Lib.hid HVC.out.2.2.2.1
          have hvw25 : VC.wait.length ≤ 0 := HVC.out.2.2.2.2
          generalize (fun x : Nat => (K1 K2 (.slice Ao r.length co) x ∨ x = w23.heap.size) ∨ x = l25) = K3 at HO25
          generalize w25.heap.size = Bs at HO25
          clear hb25 hblk25 hB25 hlB25 hBr25 hrows25 HT23 HT24 HD24 HC24 HN7 HLW7 HVC hz20 hz23 hs21 hs24 hl22 hl25 HT HCN
          go_wp2_with fail
          go_loopw [35, 36] (fun s35 s36 wx => ∃ (k : Nat) (L : LV) (V : DV) (r : List (List UInt8)), k ≤ more.length ∧ s36 = .int .i64 k ∧ One w K3 Bs bb hb l25 V L r r s35 wx ∧ V.wait.length ≤ L.used ∧ L.ep = 7 ∧ V.n = 30 ∧ ∃ G, PowD V L r G 0) (fun _ s36 _ => more.length - (intOf s36).toNat)
          case atStart => exact ⟨0, _, VC, [], Nat.zero_le _, rfl, HO25.out, hvw25, rfl, HVN25.out, _, HP25.out⟩
          case round =>
            obtain ⟨k3, L3, V3, r3, hk3, rfl, hT3, hwt3, hLep3, hVn3, G3, hpd3⟩ := hrel
            obtain ⟨Ap, cp, rfl, hcp⟩ := hT3.put.len
            have HT3 := Lib.hid hT3
            have HLE3 := Lib.hid hLep3
            have HVN3 := Lib.hid hVn3
            have HPD3 := Lib.hid hpd3
            have hcn3 := hT3.cnt
            clear hT3 hLep3 hVn3 hpd3 HO25 HP25 HVN25 hvw25
            by_cases hlt3 : k3 < more.length
            · have hwk : IntKind.i64.wrap ((k3 : Int) + 1) = (k3 : Int) + 1 := IntWalk.i64_in _ (by omega)
              obtain ⟨g, off, rfl, hgB, hc⟩ := HR6.out (by omega)
              obtain ⟨Ai, ci, hci0, hle, hc63, hl47, hby⟩ := hc k3 hlt3
              have HBY := Lib.hid hby
              have HCI := Lib.hid hci0
              clear hc hby hci0
              generalize more.getD k3 [] = x at *
              have hci := (HT3.out.bel.cell (p := ⟨g, off + k3, none⟩) hgB).trans HCI.out
              go_wp2_with fail
              refine (HT3.out.append Ai ci x (HBY.out.below HT3.out.bel) hle hc63 hl47 (by omega)).mono ?_
              rintro e w30 (⟨htk, rfl, V', hst, hT30⟩ | ⟨htk, ⟨q, rfl⟩, hT30⟩)
              · have hci30 : w30.cell? ⟨g, off + k3, none⟩ = some (.slice Ai x.length ci) := (hT30.bel.cell (p := ⟨g, off + k3, none⟩) hgB).trans HCI.out
                obtain ⟨n1, n2, n3⟩ := steps_keeps _ _ hst
                obtain ⟨s1, s2, _⟩ := steps_may _ _ hst
                obtain ⟨G', _, hpd'⟩ := HPD3.out.append x htk HT3.out.lg.ep (by have := HT3.out.many; omega) s2
                obtain ⟨Aq, cq, M31, hrun31, hT31⟩ := hT30.push (by omega) Ai ci x (HBY.out.below hT30.bel) hle hc63 36
                have HR31 := Lib.hid hrun31
                have HX := Lib.hid (And.intro hT31 (And.intro n1 (And.intro n3 hpd')))
                clear hT30 hT31 hrun31 n1 n2 n3 hst htk s1 s2 hpd'
                go_wp2_with (at_builtin; refine Lib.wpList_append_run _ rfl (.tmp 206) (.tmp 211) _ _ rfl _ _ rfl rfl _ _ HR31.out ?_)
                exact ⟨⟨k3 + 1, _, V', _, by omega, by go_num, HX.out.1, by show V'.wait.length ≤ L3.used + _; have := HX.out.2.2.1; omega, HLE3.out, HX.out.2.1.trans HVN3.out, _, HX.out.2.2.2⟩, by simp [intOf]; omega⟩
              · have HT30 := Lib.hid hT30
                clear hT30 htk
                go_wp2_with fail
                exact ⟨⟨k3 + 1, L3, V3, r3, by omega, by go_num, HT30.out, hwt3, HLE3.out, HVN3.out, _, HPD3.out⟩, by simp [intOf]; omega⟩
            · obtain ⟨hF1, hF2⟩ := HPD3.out.at_ last HT3.out.frm HT3.out.many 7 HLE3.out
              have HON := Lib.hid (HT3.out.onP HVN3.out)
              have HBK := Lib.hid (HB7.out.at_ HT3.out.bel (K1 K3 (.slice Ap r3.length cp)) fun g hg => .inl (HT3.out.k0 g hg))
              have HF1 := Lib.hid hF1
              clear hF1 hF2
              go_wp2_with fail
              refine (crash_v HON.out.dk hb A7 c7 last (by omega) HON.out.hand HBK.out (by omega)).mono ?_
              rintro e w40 ⟨rfl, hd40, hk40⟩
              have HT40 := Lib.hid (HON.out.kept hd40 rfl hk40)
              have HVC := Lib.hid (show (V3.crash last).down = false ∧ (V3.crash last).n = 30 from ⟨rfl, HON.out.n⟩)
              clear hd40 hk40 HBK
              generalize V3.crash last = VD at *
              generalize hfo : found 7 (fun k => VD.now ((3 + k : Nat) : Int)) 25 = F at *
              have HFO := Lib.hid hfo
              clear hfo
              have hz40 := HT40.out.bel.size
              go_wp2_with fail
              refine (hdisk_any hb bb w40 HT40.out.hand).mono ?_
              rintro e w41 ⟨rfl, hw41⟩
              obtain ⟨hb41, hs41, hc41, hd41⟩ := HT40.out.dk.hand hw41
              have HT41 := Lib.hid (HT40.out.keep hb41)
              have HD41 := Lib.hid hd41
              have HC41 := Lib.hid hc41
              clear hw41 hb41 hc41 hd41
              go_wp2_with fail
              have hop := wopen_v HD41.out w40.heap.size 3 25 7 HC41.out HT41.out.nib (by omega) (by omega) (by omega) (by rw [HVC.out.2]; omega) (by omega) (by omega) HVC.out.1
              rw [HFO.out] at hop
              have HOP := Lib.hid hop
              clear hop
              generalize F.out = fo at *
              generalize F.used = fu at *
              refine HOP.out.mono ?_
              clear HOP HFO
              rintro e w42 ⟨hb42, l42, v42, B42, Br42, rfl, hl42, hblk42, hB42, hlB42, hBr42, hrows42⟩
              obtain ⟨Av42, cv42, rfl, _⟩ := hrows42.len
              have HT42 := Lib.hid (HT41.out.keep hb42)
              have HR42 := Lib.hid hrows42.rin
              have hf2 : fo.length ≤ r3.length := HF1.out.length_le
              have HP42 : Hid (RIn w42 Ap fo) := Lib.hid (by
                have h3 := (HT42.out.put.rin HT42.out.bel.size).less fo.length
                rw [← List.prefix_iff_eq_take.1 HF1.out] at h3
                exact h3)
              clear hb42 hblk42 hB42 hlB42 hBr42 hrows42 HT40 HT41 HD41 HC41
              go_wp2_with fail
              refine (sameRows_any w42 Av42 Ap cv42 cp fo fo HR42.out HP42.out (by omega) (by omega) true (by simp)).mono ?_
              rintro e w43 ⟨rfl, n43, rfl⟩
              go_wp2_with fail
              go_ret
              exact ⟨rfl, below_drewN HT42.out.bel _⟩
end Go.Proofs.YteediemhcocgdaaDoor
