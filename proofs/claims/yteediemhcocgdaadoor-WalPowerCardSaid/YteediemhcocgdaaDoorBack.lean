/-
  One log, and what was put into it; the law WalBack: its walk.
-/
import Derived.Test.YteediemhcocgdaaDoorAwake12
import Derived.Test.YteediemhcocgdaaDoorLogs
namespace Go.Proofs.YteediemhcocgdaaDoor
open Go.RowKit
open WalP (Stamp secs readR)

theorem Lg.iff_ {K K' : Nat → Prop} {w : World} {bb : Nat} {V : DV} {lb : Nat} {L : LV} {rs : List (List UInt8)} (h : Lg K w bb V lb L rs) (hK : ∀ b, K' b ↔ K b) : Lg K' w bb V lb L rs :=
  h.less (fun b hb => (hK b).1 hb) ((hK _).2 h.kl) ((hK _).2 h.kd) ((hK _).2 h.k0)
/-- What a log and its row lay hold of. -/
def K1 (K0 : Nat → Prop) (v : Value) : Nat → Prop := fun b => K0 b ∨ v.ownBlock = some b
/-- A log in the area of 25 sectors from 3 on, and a row beside it. -/
structure One (w0 : World) (K0 : Nat → Prop) (Bp bb hb l : Nat) (V : DV) (L : LV) (r p : List (List UInt8)) (v : Value) (w : World) : Prop where
  lg : Lg (K1 K0 v) w bb V l L r
  frm : L.frm = 3
  many : L.many = 25
  db : L.db < Bp
  dbl : L.db ≠ l
  lb : l < Bp
  g : w0.heap.size ≤ l
  pos : 0 < w0.heap.size
  k0 : ∀ g, g < w0.heap.size → K0 g
  kh : K0 hb
  hand : Blk w hb 93 [.pointer (some ⟨bb, 0, none⟩)]
  hlt : hb < Bp
  put : PutAt w Bp w0.heap.size v p
  size : Bp ≤ w.heap.size
  bel : Below w0.heap.size w0 w
theorem One.cnt {w0 : World} {K0 : Nat → Prop} {Bp bb hb l : Nat} {V : DV} {L : LV} {r p : List (List UInt8)} {v : Value} {w : World} (h : One w0 K0 Bp bb hb l V L r p v w) : r.length ≤ 25 ∧ L.used ≤ 25 ∧ L.cnt = r.length := by
  have := h.lg.laid.cnt; have := h.lg.laid.cu; have := h.lg.laid.used; have := h.many
  omega
theorem One.drewN {w0 : World} {K0 : Nat → Prop} {Bp bb hb l : Nat} {V : DV} {L : LV} {r p : List (List UInt8)} {v : Value} {w : World} (h : One w0 K0 Bp bb hb l V L r p v w) (n : Nat) : One w0 K0 Bp bb hb l V L r p v (w.drewN n) :=
  ⟨h.lg.keep ⟨rfl, rfl, rfl, Nat.le_refl _, fun _ _ => rfl⟩, h.frm, h.many, h.db, h.dbl, h.lb, h.g, h.pos, h.k0, h.kh, h.hand, h.hlt, h.put.below ⟨rfl, rfl, rfl, Nat.le_refl _, fun _ _ => rfl⟩ h.bel.size, h.size, below_drewN h.bel n⟩
/-- Append to it. -/
def OneR (w0 : World) (K0 : Nat → Prop) (Bp bb hb l : Nat) (V : DV) (L : LV) (r p : List (List UInt8)) (v : Value) (b : List UInt8) (e : Ending) (w' : World) : Prop :=
  (takes L b ∧ e = .returned .nilIface ∧ ∃ V', Steps L b V (secs b.length) V' ∧ One w0 K0 Bp bb hb l V' (L.add (secs b.length)) (r ++ [b]) p v w') ∨ (¬ takes L b ∧ (∃ n, e = .returned (.iface 24 (.int .i64 n))) ∧ One w0 K0 Bp bb hb l V L r p v w')
theorem One.append {w0 : World} {K0 : Nat → Prop} {Bp bb hb l : Nat} {V : DV} {L : LV} {r p : List (List UInt8)} {v : Value} {w : World} (h : One w0 K0 Bp bb hb l V L r p v w)
    (A : Option Addr) (c : Nat) (b : List UInt8) (hby : Byt w w0.heap.size A b) (hbc : b.length ≤ c) (hc63 : c ≤ 9223372036854775807) (hlen : b.length ≤ 140737488351232) (hw : V.wait.length ≤ 1000) :
    Calls Tryd.prog 38 #[.pointer (some ⟨l, 0, none⟩), .slice A b.length c] w (OneR w0 K0 Bp bb hb l V L r p v b) := by
  have hg := h.g
  have hpos := h.pos
  have hlb := h.lb
  refine (app_v h.lg w0.heap.size A c b hby h.bel.size hbc hc63 (by omega) (by omega) (fun hl g hg => .inl (h.k0 g (hby.blk_lt hl g hg))) h.dbl).mono ?_
  rintro e w' ⟨ht, hh⟩
  have hbel : Below w0.heap.size w w' := turn_below ht h.bel.size fun b hb => ⟨.inl (h.k0 b hb), by omega⟩
  have hp : PutAt w' Bp w0.heap.size v p := h.put.turn' ht hbel (fun g hg => .inr hg) hlb
  have hh' : Blk w' hb 93 [.pointer (some ⟨bb, 0, none⟩)] := turn_blk ht h.hand (.inl h.kh) fun e => blk_type h.hand h.lg.lg (by decide) e
  rcases hh with ⟨htk, rfl, V', hst, hlg⟩ | ⟨htk, rfl, hlg⟩
  · exact .inl ⟨htk, rfl, V', hst, hlg, h.frm, h.many, h.db, h.dbl, h.lb, h.g, h.pos, h.k0, h.kh, hh', h.hlt, hp, Nat.le_trans h.size ht.size, h.bel.trans hbel⟩
  · exact .inr ⟨htk, ⟨_, rfl⟩, hlg, h.frm, h.many, h.db, h.dbl, h.lb, h.g, h.pos, h.k0, h.kh, hh', h.hlt, hp, Nat.le_trans h.size ht.size, h.bel.trans hbel⟩
/-- .. and into the row. -/
theorem One.push {w0 : World} {K0 : Nat → Prop} {Bp bb hb l : Nat} {V : DV} {L : LV} {r p : List (List UInt8)} {v : Value} {w : World} (h : One w0 K0 Bp bb hb l V L r p v w) (hn : p.length ≤ 100)
    (A : Option Addr) (c : Nat) (b : List UInt8) (hby : Byt w w0.heap.size A b) (hbc : b.length ≤ c) (hc63 : c ≤ 9223372036854775807) (ty : TypeId) :
    ∃ Ao co M, (Builtin.append_ #[36, 36] ty #[v, .slice (some ⟨w.heap.size, 0, none⟩) 1 1]).run Tryd.prog (w.alloc (.cells #[.slice A b.length c] 23)) = .ok (.slice Ao (p.length + 1) co) M ∧
      One w0 K0 Bp bb hb l V L r (p ++ [b]) (.slice Ao (p.length + 1) co) M := by
  have hs := h.size
  have hB : w0.heap.size ≤ Bp := by have := h.g; have := h.lb; omega
  have hpos := h.pos
  obtain ⟨Ao, co, M, hrun, hg, hput, hown⟩ := h.put.push (by omega) A c b hbc hc63 hby h.size hB ty
  have hal : Below w.heap.size w (w.alloc (.cells #[.slice A b.length c] 23)) := (Below.refl _ _).alloc (Nat.le_refl _) _
  have hsz : (w.alloc (.cells #[.slice A b.length c] 23)).heap.size = w.heap.size + 1 := by simp
  have hMs := hg.size
  have hg1 := h.put.blk
  have hbM : Below Bp w M := ⟨hg.os.trans hal.os, hg.tape.trans hal.tape, hg.output.trans hal.output, by omega, fun x hx => (hg.block x (by omega) fun e => by have := (hg1 x e.symm).1; omega).trans (hal.block x (by omega))⟩
  have hlg : Lg (K1 K0 (.slice Ao (p.length + 1) co)) M bb V l L r := by
    refine (Lg.push (K' := K1 K0 (.slice Ao (p.length + 1) co)) (Bp := Bp) (row := v.ownBlock) (h.lg.keep hal) hg (fun r e => ⟨.inr e, (hg1 r e).1⟩) h.lb h.db (by omega) (fun x hx => ?_) fun x hx hk => ?_)
    · rcases hx with hx | hx
      · exact .inl (.inl hx)
      · rcases hown with e | e
        · exact .inl (.inr (e ▸ hx))
        · rw [e] at hx
          cases hx
          exact .inr ⟨by rw [hsz]; exact Nat.le_refl _, by have := hput.blk _ e; exact this.2⟩
    · rcases hk with hk | hk
      · exact .inl hk
      · have := (hg1 x hk).1
        omega
  exact ⟨Ao, co, M, hrun, hlg, h.frm, h.many, h.db, h.dbl, h.lb, h.g, h.pos, h.k0, h.kh, (hbM.block hb h.hlt).trans h.hand, h.hlt, hput, by omega, h.bel.trans (hbM.mono hB)⟩
/-- A log newly opened: one, with no row yet. -/
theorem One.start {w0 w w' : World} {K K0 : Nat → Prop} {bb hb lg : Nat} {V : DV} {L : LV} {rs : List (List UInt8)} (h : Dk K w bb V) (hdb : w.cell? ⟨L.db, 0, none⟩ = some (.pointer (some ⟨bb, 0, none⟩))) (kd : K L.db) (hl : LaidL L V rs) (hf : L.frm = 3) (hm : L.many = 25) (hn : V.n = 30) (hep : L.ep < 2 ^ 48)
    (hd : L.dead = false) (ha : V.armed = false) (hdn : V.down = false) (hnb : Nib w) (hbl : Below w.heap.size w w') (hlg : w.heap.size ≤ lg) (hblk : Blk w' lg 105 L.cells)
    (hw : Below w0.heap.size w0 w) (h0 : 0 < w0.heap.size) (k0 : ∀ g, g < w0.heap.size → K g) (kh : K hb) (hh : Blk w hb 93 [.pointer (some ⟨bb, 0, none⟩)]) (hK : ∀ b, K0 b ↔ (K b ∨ b = lg)) :
    One w0 K0 w'.heap.size bb hb lg V L rs [] (.slice none 0 0) w' := by
  have hs := hw.size
  have hs2 := hbl.size
  have hlt : L.db < w.heap.size := cell_lt hdb
  have hlt2 := hblk.lt
  have hlt3 := hh.lt
  have := Lg.opened h hdb kd (k0 0 h0) hl (by omega) (by rw [hf, hm, hn]; decide) hep hd ha hdn hnb (by omega) hbl hlg hblk
  refine ⟨this.iff_ fun b => ⟨fun h => h.elim (hK b).1 (fun h => by cases h), fun h => .inl ((hK b).2 h)⟩, hf, hm, by omega, by omega, hlt2, by omega, h0, fun g hg => (hK g).2 (.inl (k0 g hg)), (hK hb).2 (.inl kh), hh.below hbl hlt3, by omega, PutAt.nil _ _ _, Nat.le_refl _, hw.trans (hbl.mono hs)⟩

set_option maxHeartbeats 4000000 in
set_option maxRecDepth 100000 in
theorem back12_any (A1 A2 : Option Addr) (c1 c2 : Nat) (a b : List (List UInt8)) (ep : Int) (w : World) (ha : RArg w w.heap.size A1 a) (hb : RArg w w.heap.size A2 b) (hn : Nib w) (hg : ErrH w) (h1 : 1 < w.heap.size) (la : a.length ≤ 140737488351232) (lb : b.length ≤ 140737488351232) (hep : -9223372036854775808 ≤ ep ∧ ep ≤ 9223372036854775807) :
    Calls Tryd.prog 8 #[.slice A1 a.length c1, .slice A2 b.length c2, .int .i64 ep] w fun e w' => e = .returned (.bool true) ∧ Below w.heap.size w w' := by
  have HRA := Lib.hid ha
  have HRB := Lib.hid hb
  have HNB := Lib.hid hn
  clear ha hb hn
  go_enter Tryd.func8, Tryd.ntmps8
  go_wp2_with fail
  refine (awake12_any w HNB.out hg h1).mono ?_
  rintro e w1 ⟨rfl, hb1⟩
  have HB1 := Lib.hid hb1
  have hs1 := hb1.size
  clear hb1 hg
  go_wp2_with fail
  refine (new_any 30 w1 (by omega)).mono ?_
  rintro e w2 ⟨hb, bb, sb, nb, rfl, hn2⟩
  have HN := Lib.hid hn2
  have HDK2 := Lib.hid (hn2.dk (by omega) (by omega))
  have HB2 : Hid (Below w.heap.size w w2) := Lib.hid (HB1.out.trans (hn2.below.mono hs1))
  have hs2 := hn2.below.size
  have hhb1 := hn2.hbB
  have hhb2 := hn2.hand.lt
  clear hn2
  go_wp2_with fail
  refine (hdisk_any hb bb w2 HN.out.hand).mono ?_
  rintro e w3 ⟨rfl, hw3⟩
  obtain ⟨hb3, hs3, hc3, hd3⟩ := HDK2.out.hand hw3
  have HB3 : Hid (Below w.heap.size w w3) := Lib.hid (HB2.out.trans (hb3.mono (by omega)))
  have HH3 := Lib.hid (HN.out.hand.below hb3 hhb2)
  have HDK3 := Lib.hid hd3
  have HC3 := Lib.hid hc3
  clear hw3 hb3 hc3 hd3
  by_cases hbad : ep < 1 ∨ 1099511627776 < ep
  · have HBAD := Lib.hid hbad
    go_wp2_with fail
    refine (wopen_bad HDK3.out w2.heap.size 3 25 ep HC3.out (by omega) (by show ((3 + 25 : Nat) : Int) ≤ 30; omega) hbad).mono ?_
    rintro e w4 ⟨rfl, hb4⟩
    have HB4 : Hid (Below w.heap.size w w4) := Lib.hid (HB3.out.trans (hb4.mono (by omega)))
    clear hb4 hbad
    rcases HBAD.out with h | h
    · have d1 : decide (ep < 1) = true := by simpa using h
      go_wp2_with fail
      go_ret
      exact ⟨rfl, HB4.out⟩
    · have d1 : decide (ep < 1) = false := by simp; omega
      have d2 : decide (1099511627776 < ep) = true := by simpa using h
      go_wp2_with fail
      go_ret
      exact ⟨rfl, HB4.out⟩
  · obtain ⟨n, rfl⟩ := Int.eq_ofNat_of_zero_le (show 0 ≤ ep by omega)
    have hn1 : 1 ≤ n := by omega
    have hn2 : n ≤ 1099511627776 := by omega
    clear hbad hep
    go_wp2_with fail
    refine (lopen_v HDK3.out ⟨w2.heap.size, 3, 25, n, 0, 0, false⟩ [] w2.heap.size HC3.out (HNB.out.below HB3.out (by omega)) (by omega) (LaidL.fresh (NoEp.new n 3 25 30 hn1)) (by show 1 ≤ 25; omega) (by show 25 ≤ 1073741824; omega) (by show ((3 + 25 : Nat) : Int) ≤ 30; omega) hn1 hn2 rfl).mono ?_
    rintro e w4 ⟨hb4, l1, v4, B4, Br4, rfl, hl1, hblk4, hB4, hlB4, hBr4, hrows4⟩
    obtain ⟨Av4, cv4, rfl, _⟩ := hrows4.len
    have HT4 := Lib.hid (One.start (w0 := w) (K0 := fun x => ((x < w1.heap.size ∨ x = hb) ∨ x = w2.heap.size) ∨ x = l1) HDK3.out HC3.out (.inr rfl) (LaidL.fresh (NoEp.new n 3 25 30 hn1)) rfl rfl rfl (by show n < 2 ^ 48; omega) rfl rfl rfl (HNB.out.below HB3.out (by omega)) hb4 hl1 hblk4 HB3.out (by omega)
      (fun g hg => .inl (.inl (by omega))) (.inl (.inr rfl)) HH3.out (fun x => Iff.rfl))
    have HB4 : Hid (Below w.heap.size w w4) := Lib.hid (HB3.out.trans (hb4.mono (by omega)))
    clear hb4 hblk4 hB4 hlB4 hBr4 hrows4
    by_cases hmx : n = 1099511627776
    · subst hmx
      go_wp2_with fail
      go_ret
      exact ⟨rfl, HB4.out⟩
    · have d3 : ((n : Int) == 1099511627776) = false := by simp; omega
      have hn3 : n + 1 ≤ 1099511627776 := by omega
      clear hmx
      have hne : NoEp (n + 1) 3 25 0 (DV.new 30) := NoEp.new _ _ _ _ (by omega)
      have HNE := Lib.hid hne
      clear hne HB4 HDK3 HC3 HH3 HB3 HN HDK2 HB2 HB1
      generalize (fun x : Nat => ((x < w1.heap.size ∨ x = hb) ∨ x = w2.heap.size) ∨ x = l1) = K0 at HT4
      generalize w4.heap.size = Bp at HT4
      clear hs1 hs2 hhb1 hhb2 hs3 hl1
      go_wp2_with fail
      go_loopw [12] (fun s12 wr => ∃ (k : Nat) (L : LV) (V : DV) (r : List (List UInt8)), k ≤ a.length ∧ s12 = .int .i64 k ∧ One w K0 Bp bb hb l1 V L r [] (.slice none 0 0) wr ∧ NoEp (n + 1) 3 25 0 V ∧ L.ep < n + 1 ∧ V.wait.length ≤ L.used ∧ V.n = 30) (fun s12 _ => a.length - (intOf s12).toNat)
      case atStart => exact ⟨0, _, _, _, Nat.zero_le _, rfl, HT4.out, HNE.out, Nat.lt_succ_self n, Nat.le_refl _, rfl⟩
      case round =>
        obtain ⟨k, L, V, r, hk, rfl, hT, hne, hlep, hwt, hVn⟩ := hrel
        have HT := Lib.hid hT
        have HNE := Lib.hid hne
        have HVN := Lib.hid hVn
        clear hT hne hVn
        by_cases hlt : k < a.length
        · have hwk : IntKind.i64.wrap ((k : Int) + 1) = (k : Int) + 1 := IntWalk.i64_in _ (by omega)
          obtain ⟨g, off, rfl, hgB, hc⟩ := HRA.out (by omega)
          obtain ⟨Ai, ci, hci0, hle, hc63, hl47, hby⟩ := hc k hlt
          have HBY := Lib.hid hby
          have HCI := Lib.hid hci0
          clear hc hby hci0
          generalize a.getD k [] = x at *
          have hci : wr.cell? ⟨g, off + k, none⟩ = some (.slice Ai x.length ci) := (HT.out.bel.cell (p := ⟨g, off + k, none⟩) hgB).trans HCI.out
          go_wp2_with fail
          refine (HT.out.append Ai ci x (HBY.out.below HT.out.bel) hle hc63 hl47 (by have := HT.out.cnt; omega)).mono ?_
          rintro e w7 (⟨htk, rfl, V', hst, hT7⟩ | ⟨htk, ⟨q, rfl⟩, hT7⟩)
          · have hne' := HNE.out.steps (by omega) htk.1 HT.out.lg.ep (by have := HT.out.cnt; omega) HT.out.lg.armed hst
            obtain ⟨n1, n2, n3⟩ := steps_keeps _ _ hst
            have HX := Lib.hid (And.intro hT7 (And.intro hne' (And.intro n1 n3)))
            clear hT7 hne' n1 n2 n3 hst htk
            go_wp2_with fail
            exact ⟨⟨k + 1, _, V', _, by omega, by go_num, HX.out.1, HX.out.2.1, hlep, by show V'.wait.length ≤ L.used + _; have := HX.out.2.2.2; omega, HX.out.2.2.1.trans HVN.out⟩, by simp [intOf]; omega⟩
          · have HT7 := Lib.hid hT7
            clear hT7 htk
            go_wp2_with fail
            exact ⟨⟨k + 1, L, V, r, by omega, by go_num, HT7.out, HNE.out, hlep, hwt, HVN.out⟩, by simp [intOf]; omega⟩
        · have hrk := HT.out.cnt
          have hpos := HT.out.pos
          have hz := HT.out.bel.size
          go_wp2_with fail
          refine (hdisk_any hb bb wr HT.out.hand).mono ?_
          rintro e w7 ⟨rfl, hw7⟩
          obtain ⟨hb7, hs7, hc7, hd7⟩ := HT.out.lg.dk.hand hw7
          have HD7 := Lib.hid hd7
          have HB7 := Lib.hid hb7
          have HC7 := Lib.hid hc7
          clear hw7 hb7 hc7 hd7
          obtain ⟨m, hm⟩ : ∃ m : Nat, m = n + 1 := ⟨_, rfl⟩
          have hwm : IntKind.i64.wrap ((n : Int) + 1) = (m : Int) := by rw [IntWalk.i64_in _ (by omega)]; omega
          rw [← hm] at HNE
          have hm1 : 1 ≤ m := by omega
          have hm2 : m ≤ 1099511627776 := by omega
          have HM := Lib.hid hm
          clear hm hwm
          go_wp2_with fail
          rw [show ((n : Int) + 1) = (m : Int) by have := HM.out; omega]
          refine (lopen_v HD7.out ⟨wr.heap.size, 3, 25, m, 0, 0, false⟩ [] wr.heap.size HC7.out (HT.out.lg.nib.below HB7.out HT.out.lg.w0) (by omega) (LaidL.fresh HNE.out) (by show 1 ≤ 25; omega) (by show 25 ≤ 1073741824; omega) (by show ((3 + 25 : Nat) : Int) ≤ V.n; rw [HVN.out]; omega) hm1 hm2 HT.out.lg.down).mono ?_
          rintro e w8 ⟨hb8, l2, v8, B8, Br8, rfl, hl2, hblk8, hB8, hlB8, hBr8, hrows8⟩
          obtain ⟨Av8, cv8, rfl, _⟩ := hrows8.len
          have HT8 := Lib.hid (One.start (w0 := w) (K0 := fun x => (K1 K0 (.slice none 0 0) x ∨ x = wr.heap.size) ∨ x = l2) HD7.out HC7.out (.inr rfl) (LaidL.fresh HNE.out) rfl rfl HVN.out (by show m < 2 ^ 48; omega) rfl HT.out.lg.armed HT.out.lg.down (HT.out.lg.nib.below HB7.out HT.out.lg.w0) hb8 hl2 hblk8 (HT.out.bel.trans (HB7.out.mono hz)) (by omega)
            (fun g hg => .inl (.inl (HT.out.k0 g hg))) (.inl (.inl HT.out.kh)) (HT.out.hand.below HB7.out HT.out.hand.lt) (fun x => Iff.rfl))
          clear hb8 hblk8 hB8 hlB8 hBr8 hrows8
          have hVw : V.wait.length ≤ 25 := by omega
          generalize (fun x : Nat => (K1 K0 (.slice none 0 0) x ∨ x = wr.heap.size) ∨ x = l2) = K2 at HT8
          generalize w8.heap.size = Bq at HT8
          generalize w7.heap.size = h7 at hs7
          clear hl2 hs7 HD7 HB7 HC7 hlt hrk hz hwt hlep hk HT HT4 HNE
          go_wp2_with fail
          go_loopw [16, 17] (fun s16 s17 wx => ∃ (k : Nat) (L : LV) (V : DV) (r : List (List UInt8)), k ≤ b.length ∧ s17 = .int .i64 k ∧ One w K2 Bq bb hb l2 V L r r s16 wx ∧ V.wait.length ≤ 25 + L.used ∧ L.ep = m ∧ V.n = 30) (fun _ s17 _ => b.length - (intOf s17).toNat)
          case atStart => exact ⟨0, _, _, _, Nat.zero_le _, rfl, HT8.out, by omega, rfl, HVN.out⟩
          case round =>
            obtain ⟨k, L, V, r, hk, rfl, hT, hwt, hLep, hVn⟩ := hrel
            obtain ⟨Ao, co, rfl, _⟩ := hT.put.len
            have HT := Lib.hid hT
            have HLE := Lib.hid hLep
            have HVN := Lib.hid hVn
            have hcn := hT.cnt
            clear hT hLep hVn HT8
            by_cases hlt : k < b.length
            · have hwk : IntKind.i64.wrap ((k : Int) + 1) = (k : Int) + 1 := IntWalk.i64_in _ (by omega)
              obtain ⟨g, off, rfl, hgB, hc⟩ := HRB.out (by omega)
              obtain ⟨Ai, ci, hci0, hle, hc63, hl47, hby⟩ := hc k hlt
              have HBY := Lib.hid hby
              have HCI := Lib.hid hci0
              clear hc hby hci0
              generalize b.getD k [] = x at *
              have HLM := Lib.hid HT.out.many
              obtain ⟨R, hR⟩ : ∃ R : Nat, R = 25 - L.used := ⟨_, rfl⟩
              have HRR := Lib.hid hR
              clear hR
              go_wp2_with fail
              refine (room_any L l2 _ HT.out.lg.lg (by rw [HLM.out]; omega) (by omega)).mono ?_
              rintro e w9 ⟨he, n9, rfl⟩
              have he' : e = .returned (.int .i64 R) := by rw [he, HLM.out]; refine congrArg _ (congrArg _ ?_); have := HRR.out; omega
              subst he'
              clear he
              have HT9 := Lib.hid (HT.out.drewN n9)
              generalize wr.drewN n9 = w9 at *
              have hci : w9.cell? ⟨g, off + k, none⟩ = some (.slice Ai x.length ci) := (HT9.out.bel.cell (p := ⟨g, off + k, none⟩) hgB).trans HCI.out
              go_wp2_with fail
              refine (HT9.out.append Ai ci x (HBY.out.below HT9.out.bel) hle hc63 hl47 (by omega)).mono ?_
              rintro e w10 (⟨htk, rfl, V', hst, hT10⟩ | ⟨htk, ⟨q, rfl⟩, hT10⟩)
              · have hci10 : w10.cell? ⟨g, off + k, none⟩ = some (.slice Ai x.length ci) := (hT10.bel.cell (p := ⟨g, off + k, none⟩) hgB).trans HCI.out
                obtain ⟨n1, n2, n3⟩ := steps_keeps _ _ hst
                obtain ⟨Aq, cq, M11, hrun11, hT11⟩ := hT10.push (by omega) Ai ci x (HBY.out.below hT10.bel) hle hc63 36
                have HR11 := Lib.hid hrun11
                have HX := Lib.hid (And.intro hT11 (And.intro n1 n3))
                clear hT10 hT11 hrun11 n1 n2 n3 hst htk
                go_wp2_with (at_builtin; refine Lib.wpList_append_run _ rfl (.tmp 114) (.tmp 119) _ _ rfl _ _ rfl rfl _ _ HR11.out ?_)
                exact ⟨⟨k + 1, _, V', _, by omega, by go_num, HX.out.1, by show V'.wait.length ≤ 25 + (L.used + _); have := HX.out.2.2; omega, HLE.out, HX.out.2.1.trans HVN.out⟩, by simp [intOf]; omega⟩
              · have hci10 : w10.cell? ⟨g, off + k, none⟩ = some (.slice Ai x.length ci) := (hT10.bel.cell (p := ⟨g, off + k, none⟩) hgB).trans HCI.out
                have hno : secs x.length = 0 ∨ (R < secs x.length ∧ 1 ≤ secs x.length) := by
                  by_cases h1 : x.length ≤ 262144
                  · have := secs_spec h1
                    refine .inr ⟨?_, this.1⟩
                    have h2 : ¬ L.used + secs x.length ≤ L.many := fun h => htk ⟨h1, h⟩
                    rw [HLM.out] at h2
                    have := HRR.out
                    omega
                  · exact .inl (by unfold secs; rw [if_pos (by omega)])
                have HT10 := Lib.hid hT10
                clear hT10 htk
                go_wp2_with fail
                refine (sectors_any_ x.length w10 (by omega)).mono ?_
                rintro e w11 ⟨rfl, rfl⟩
                have hsM : secs x.length ≤ 533 := by unfold secs; split <;> omega
                generalize secs x.length = nd at *
                rcases hno with h0 | ⟨hgt, hp1⟩
                · subst h0
                  go_wp2_with fail
                  refine (room_any L l2 _ HT10.out.lg.lg (by rw [HLM.out]; omega) (by omega)).mono ?_
                  rintro e w12 ⟨he, n12, rfl⟩
                  have he' : e = .returned (.int .i64 R) := by rw [he, HLM.out]; refine congrArg _ (congrArg _ ?_); have := HRR.out; omega
                  subst he'
                  clear he
                  have HT12 := Lib.hid (HT10.out.drewN n12)
                  generalize w10.drewN n12 = w12 at *
                  go_wp2_with fail
                  exact ⟨⟨k + 1, L, V, r, by omega, by go_num, HT12.out, hwt, HLE.out, HVN.out⟩, by simp [intOf]; omega⟩
                · have hp2 : ¬ (nd : Int) ≤ (R : Int) := by omega
                  have hp3 : (0 : Int) < (nd : Int) := by omega
                  go_wp2_with fail
                  refine (room_any L l2 _ HT10.out.lg.lg (by rw [HLM.out]; omega) (by omega)).mono ?_
                  rintro e w12 ⟨he, n12, rfl⟩
                  have he' : e = .returned (.int .i64 R) := by rw [he, HLM.out]; refine congrArg _ (congrArg _ ?_); have := HRR.out; omega
                  subst he'
                  clear he
                  have HT12 := Lib.hid (HT10.out.drewN n12)
                  generalize w10.drewN n12 = w12 at *
                  go_wp2_with fail
                  exact ⟨⟨k + 1, L, V, r, by omega, by go_num, HT12.out, hwt, HLE.out, HVN.out⟩, by simp [intOf]; omega⟩
            · obtain rfl : k = b.length := by omega
              have hle := HT.out.bel.size
              have hpos' := HT.out.pos
              go_wp2_with fail
              refine (hdisk_any hb bb wr HT.out.hand).mono ?_
              rintro e w9 ⟨rfl, hw9⟩
              obtain ⟨db3, f3, m3, e3, n3, u3, dd3⟩ := L
              obtain rfl : f3 = 3 := HT.out.frm
              obtain rfl : m3 = 25 := HT.out.many
              obtain rfl : e3 = m := HLE.out
              obtain ⟨hb9, hs9, hc9, hd9⟩ := HT.out.lg.dk.hand hw9
              have HD9 := Lib.hid hd9
              have HB9 := Lib.hid hb9
              have HC9 := Lib.hid hc9
              clear hw9 hb9 hc9 hd9
              go_wp2_with fail
              rw [show ((n : Int) + 1) = (e3 : Int) by have := HM.out; omega]
              refine (lopen_v HD9.out ⟨db3, 3, 25, e3, n3, u3, dd3⟩ r wr.heap.size HC9.out (HT.out.lg.nib.below HB9.out HT.out.lg.w0) (by omega) HT.out.lg.laid (by show 1 ≤ 25; omega) (by show 25 ≤ 1073741824; omega) HT.out.lg.fits hm1 hm2 HT.out.lg.down).mono ?_
              rintro e w10 ⟨hb10, l10, v10, B10, Br10, rfl, hl10, hblk10, hB10, hlB10, hBr10, hrows10⟩
              obtain ⟨Av10, cv10, rfl, _⟩ := hrows10.len
              have HB10 : Hid (Below wr.heap.size wr w10) := Lib.hid (HB9.out.trans (hb10.mono (by omega)))
              have HR10 := Lib.hid hrows10.rin
              have HP10 := Lib.hid ((HT.out.put.rin hle).keep HB10.out)
              have HLG10 := Lib.hid (HT.out.lg.keep HB10.out)
              clear hb10 hblk10 hB10 hlB10 hBr10 hrows10
              go_wp2_with fail
              refine (sameRows_any w10 Av10 Ao cv10 co r r HR10.out HP10.out (by omega) (by omega) true (by simp)).mono ?_
              rintro e w11 ⟨rfl, n11, rfl⟩
              have HLG11 := Lib.hid (HLG10.out.keep (w' := w10.drewN n11) (below_drewN (Below.refl _ _) n11))
              go_wp2_with fail
              refine (count_any _ l2 _ HLG11.out.lg).mono ?_
              rintro e w12 ⟨he12, rfl⟩
              have he' : e = .returned (.int .i64 r.length) := by rw [he12]; refine congrArg _ (congrArg _ ?_); show ((n3 : Nat) : Int) = _; have h := hcn.2.2; rw [← h]
              subst he'
              clear he12
              go_wp2_with fail
              go_ret
              exact ⟨rfl, below_drewN (HT.out.bel.trans (HB10.out.mono hle)) _⟩
end Go.Proofs.YteediemhcocgdaaDoor
