/-
  The law WalApart: its walk.
-/
import Derived.Test.YteediemhcocgdaaDoorAwake12
import Derived.Test.YteediemhcocgdaaDoorLogs
namespace Go.Proofs.YteediemhcocgdaaDoor
open Go.RowKit
open WalP (Stamp secs readR)

/-- What the two logs lay hold of. -/
def KK (K0 : Nat → Prop) (v1 v2 : Value) : Nat → Prop := fun b => K0 b ∨ v1.ownBlock = some b ∨ v2.ownBlock = some b
/-- Two logs on one disk, and what was put into each. -/
structure Two (w0 : World) (K0 : Nat → Prop) (Bp bb hb l1 l2 f1 f2 : Nat) (r1 p1 r2 p2 : List (List UInt8)) (v1 v2 : Value) (w : World) : Prop where
  ex : ∃ V L1 L2, Lg (KK K0 v1 v2) w bb V l1 L1 r1 ∧ Lg (KK K0 v1 v2) w bb V l2 L2 r2 ∧ L1.frm = f1 ∧ L2.frm = f2 ∧ L1.many = 20 ∧ L2.many = 20 ∧ L1.ep = 3 ∧ L2.ep = 3 ∧ L1.db < Bp ∧ L2.db < Bp ∧ L1.db ≠ l1 ∧ L1.db ≠ l2 ∧ L2.db ≠ l1 ∧ L2.db ≠ l2 ∧ V.wait.length ≤ L1.used + L2.used
  ap : f1 + 20 ≤ f2 ∨ f2 + 20 ≤ f1
  lb1 : l1 < Bp
  lb2 : l2 < Bp
  ne12 : l1 ≠ l2
  g1 : w0.heap.size ≤ l1
  g2 : w0.heap.size ≤ l2
  pos : 0 < w0.heap.size
  k0 : ∀ g, g < w0.heap.size → K0 g
  kh : K0 hb
  hand : Blk w hb 93 [.pointer (some ⟨bb, 0, none⟩)]
  hlt : hb < Bp
  put1 : PutAt w Bp w0.heap.size v1 p1
  put2 : PutAt w Bp w0.heap.size v2 p2
  ne : ∀ g, v1.ownBlock = some g → v2.ownBlock ≠ some g
  size : Bp ≤ w.heap.size
  bel : Below w0.heap.size w0 w

theorem Lg.congr {K K' : Nat → Prop} {w : World} {bb : Nat} {V : DV} {lb : Nat} {L : LV} {rs : List (List UInt8)} (h : Lg K w bb V lb L rs) (hK : ∀ b, K' b ↔ K b) : Lg K' w bb V lb L rs :=
  h.less (fun b hb => (hK b).1 hb) ((hK _).2 h.kl) ((hK _).2 h.kd) ((hK _).2 h.k0)
theorem Two.swap {w0 : World} {K0 : Nat → Prop} {Bp bb hb l1 l2 f1 f2 : Nat} {r1 p1 r2 p2 : List (List UInt8)} {v1 v2 : Value} {w : World} (h : Two w0 K0 Bp bb hb l1 l2 f1 f2 r1 p1 r2 p2 v1 v2 w) : Two w0 K0 Bp bb hb l2 l1 f2 f1 r2 p2 r1 p1 v2 v1 w := by
  obtain ⟨V, L1, L2, a, b, c1, c2, c3, c4, c5, c6, c7, c8, c9, c10, c11, c12, c13⟩ := h.ex
  have hK : ∀ b, KK K0 v2 v1 b ↔ KK K0 v1 v2 b := fun b => ⟨fun h => h.elim .inl fun h => h.elim (fun h => .inr (.inr h)) fun h => .inr (.inl h), fun h => h.elim .inl fun h => h.elim (fun h => .inr (.inr h)) fun h => .inr (.inl h)⟩
  exact ⟨⟨V, L2, L1, b.congr hK, a.congr hK, c2, c1, c4, c3, c6, c5, c8, c7, c12, c11, c10, c9, by omega⟩, h.ap.symm, h.lb2, h.lb1, h.ne12.symm, h.g2, h.g1, h.pos, h.k0, h.kh, h.hand, h.hlt, h.put2, h.put1, fun g hg e => h.ne g e hg, h.size, h.bel⟩
theorem Two.cnt {w0 : World} {K0 : Nat → Prop} {Bp bb hb l1 l2 f1 f2 : Nat} {r1 p1 r2 p2 : List (List UInt8)} {v1 v2 : Value} {w : World} (h : Two w0 K0 Bp bb hb l1 l2 f1 f2 r1 p1 r2 p2 v1 v2 w) : r1.length ≤ 20 ∧ r2.length ≤ 20 := by
  obtain ⟨V, L1, L2, a, b, c1, c2, c3, c4, _⟩ := h.ex
  have := a.laid.cnt; have := a.laid.cu; have := a.laid.used
  have := b.laid.cnt; have := b.laid.cu; have := b.laid.used
  omega
/-- Append to the first of them. -/
def TwoR (w0 : World) (K0 : Nat → Prop) (Bp bb hb l1 l2 f1 f2 : Nat) (r1 p1 r2 p2 : List (List UInt8)) (v1 v2 : Value) (b : List UInt8) (e : Ending) (w' : World) : Prop :=
  (e = .returned .nilIface ∧ Two w0 K0 Bp bb hb l1 l2 f1 f2 (r1 ++ [b]) p1 r2 p2 v1 v2 w') ∨ (∃ n, e = .returned (.iface 24 (.int .i64 n)) ∧ Two w0 K0 Bp bb hb l1 l2 f1 f2 r1 p1 r2 p2 v1 v2 w')
theorem Two.append {w0 : World} {K0 : Nat → Prop} {Bp bb hb l1 l2 f1 f2 : Nat} {r1 p1 r2 p2 : List (List UInt8)} {v1 v2 : Value} {w : World} (h : Two w0 K0 Bp bb hb l1 l2 f1 f2 r1 p1 r2 p2 v1 v2 w)
    (A : Option Addr) (c : Nat) (b : List UInt8) (hby : Byt w w0.heap.size A b) (hbc : b.length ≤ c) (hc63 : c ≤ 9223372036854775807) (hlen : b.length ≤ 140737488351232) :
    Calls Tryd.prog 38 #[.pointer (some ⟨l1, 0, none⟩), .slice A b.length c] w (TwoR w0 K0 Bp bb hb l1 l2 f1 f2 r1 p1 r2 p2 v1 v2 b) := by
  obtain ⟨V, L1, L2, ha, hb2, c1, c2, c3, c4, c5, c6, c7, c8, c9, c10, c11, c12, c13⟩ := h.ex
  have hu1 := ha.laid.used
  have hu2 := hb2.laid.used
  have hg1 := h.g1
  have hg2 := h.g2
  have hpos := h.pos
  have hlb1 := h.lb1
  have hap := h.ap
  refine (app_v ha w0.heap.size A c b hby h.bel.size hbc hc63 (by omega) (by omega) (fun hl g hg => .inl (h.k0 g (hby.blk_lt hl g hg))) c9).mono ?_
  rintro e w' ⟨ht, hh⟩
  have hbel : Below w0.heap.size w w' := turn_below ht h.bel.size fun b hb => ⟨.inl (h.k0 b hb), by omega⟩
  have hk : ∀ v : Value, (∀ g, v.ownBlock = some g → KK K0 v1 v2 g) → ∀ ps, PutAt w Bp w0.heap.size v ps → PutAt w' Bp w0.heap.size v ps := fun v hv ps hp => hp.turn' ht hbel hv h.lb1
  have hh' : Blk w' hb 93 [.pointer (some ⟨bb, 0, none⟩)] := turn_blk ht h.hand (.inl h.kh) fun e => blk_type h.hand ha.lg (by decide) e
  rcases hh with ⟨htk, rfl, V', hst, hlg⟩ | ⟨htk, rfl, hlg⟩
  · have hw := (steps_keeps _ _ hst).2.2
    refine .inl ⟨rfl, ⟨V', L1.add (secs b.length), L2, hlg, hb2.other ht hlg.dk h.ne12.symm c11 (by omega) hst htk.2 (by omega), c1, c2, c3, c4, c5, c6, c7, c8, c9, c10, c11, c12, ?_⟩, h.ap, h.lb1, h.lb2, h.ne12, h.g1, h.g2, h.pos, h.k0, h.kh, hh', h.hlt,
      hk v1 (fun g hg => .inr (.inl hg)) p1 h.put1, hk v2 (fun g hg => .inr (.inr hg)) p2 h.put2, h.ne, Nat.le_trans h.size ht.size, h.bel.trans hbel⟩
    show V'.wait.length ≤ L1.used + secs b.length + L2.used
    omega
  · exact .inr ⟨_, rfl, ⟨V, L1, L2, hlg, hb2.other0 ht hlg.dk h.ne12.symm c11 (by omega), c1, c2, c3, c4, c5, c6, c7, c8, c9, c10, c11, c12, c13⟩, h.ap, h.lb1, h.lb2, h.ne12, h.g1, h.g2, h.pos, h.k0, h.kh, hh', h.hlt,
      hk v1 (fun g hg => .inr (.inl hg)) p1 h.put1, hk v2 (fun g hg => .inr (.inr hg)) p2 h.put2, h.ne, Nat.le_trans h.size ht.size, h.bel.trans hbel⟩
/-- .. and into the row. -/
theorem Two.push {w0 : World} {K0 : Nat → Prop} {Bp bb hb l1 l2 f1 f2 : Nat} {r1 p1 r2 p2 : List (List UInt8)} {v1 v2 : Value} {w : World} (h : Two w0 K0 Bp bb hb l1 l2 f1 f2 r1 p1 r2 p2 v1 v2 w) (hn : p1.length ≤ 100)
    (A : Option Addr) (c : Nat) (b : List UInt8) (hby : Byt w w0.heap.size A b) (hbc : b.length ≤ c) (hc63 : c ≤ 9223372036854775807) (ty : TypeId) :
    ∃ Ao co M, (Builtin.append_ #[36, 36] ty #[v1, .slice (some ⟨w.heap.size, 0, none⟩) 1 1]).run Tryd.prog (w.alloc (.cells #[.slice A b.length c] 23)) = .ok (.slice Ao (p1.length + 1) co) M ∧
      Two w0 K0 Bp bb hb l1 l2 f1 f2 r1 (p1 ++ [b]) r2 p2 (.slice Ao (p1.length + 1) co) v2 M := by
  obtain ⟨V, L1, L2, ha, hb2, c1, c2, c3, c4, c5, c6, c7, c8, c9, c10, c11, c12, c13⟩ := h.ex
  have hs := h.size
  have hB : w0.heap.size ≤ Bp := by have := h.g1; have := h.lb1; omega
  have hpos := h.pos
  obtain ⟨Ao, co, M, hrun, hg, hput, hown⟩ := h.put1.push (by omega) A c b hbc hc63 hby h.size hB ty
  have hal : Below w.heap.size w (w.alloc (.cells #[.slice A b.length c] 23)) := (Below.refl _ _).alloc (Nat.le_refl _) _
  have hsz : (w.alloc (.cells #[.slice A b.length c] 23)).heap.size = w.heap.size + 1 := by simp
  have hMs := hg.size
  have hg1 := h.put1.blk
  have hbM : Below Bp w M := ⟨hg.os.trans hal.os, hg.tape.trans hal.tape, hg.output.trans hal.output, by omega, fun x hx => (hg.block x (by omega) fun e => by have := (hg1 x e.symm).1; omega).trans (hal.block x (by omega))⟩
  have hK : ∀ x, KK K0 (.slice Ao (p1.length + 1) co) v2 x → KK K0 v1 v2 x ∨ (w.heap.size ≤ x ∧ x < M.heap.size) := fun x hx => by
    rcases hx with hx | hx | hx
    · exact .inl (.inl hx)
    · rcases hown with e | e
      · exact .inl (.inr (.inl (e ▸ hx)))
      · rw [e] at hx
        cases hx
        exact .inr ⟨by omega, by have := hput.blk _ e; exact this.2⟩
    · exact .inl (.inr (.inr hx))
  have hlgs : ∀ {lb L rs}, Lg (KK K0 v1 v2) w bb V lb L rs → lb < Bp → L.db < Bp → Lg (KK K0 (.slice Ao (p1.length + 1) co) v2) M bb V lb L rs := fun {lb L rs} hl h1 h2 => by
    refine (Lg.push (K' := KK K0 (.slice Ao (p1.length + 1) co) v2) (Bp := Bp) (row := v1.ownBlock) (hl.keep hal) hg (fun r e => ⟨.inr (.inl e), (hg1 r e).1⟩) h1 h2 (by omega) (fun x hx => ?_) fun x hx hk => ?_)
    · rcases hx with hx | hx | hx
      · exact .inl (.inl hx)
      · rcases hown with e | e
        · exact .inl (.inr (.inl (e ▸ hx)))
        · rw [e] at hx
          cases hx
          exact .inr ⟨by rw [hsz]; exact Nat.le_refl _, by have := hput.blk _ e; exact this.2⟩
      · exact .inl (.inr (.inr hx))
    · rcases hk with hk | hk | hk
      · exact .inl hk
      · have := (hg1 x hk).1
        omega
      · exact .inr (.inr hk)
  refine ⟨Ao, co, M, hrun, ⟨V, L1, L2, hlgs ha h.lb1 c7, hlgs hb2 h.lb2 c8, c1, c2, c3, c4, c5, c6, c7, c8, c9, c10, c11, c12, c13⟩, h.ap, h.lb1, h.lb2, h.ne12, h.g1, h.g2, h.pos, h.k0, h.kh, (hbM.block hb h.hlt).trans h.hand, h.hlt, hput, ?_, ?_, by omega, h.bel.trans (hbM.mono hB)⟩
  · refine h.put2.turn (hbM.mono hB) fun g e => (hg.block g (by have := (h.put2.blk g e).2; omega) fun e2 => h.ne g e2.symm e).trans (hal.block g (h.put2.blk g e).2)
  · intro g e e2
    rcases hown with e3 | e3
    · rw [e3] at e
      exact h.ne g e e2
    · rw [e3] at e
      cases e
      have := (h.put2.blk _ e2).2
      omega

set_option maxHeartbeats 4000000 in
set_option maxRecDepth 100000 in
theorem apart_any (A1 A2 : Option Addr) (c1 c2 : Nat) (a b : List (List UInt8)) (w : World) (ha : RArg w w.heap.size A1 a) (hb : RArg w w.heap.size A2 b) (hn : Nib w) (hg : ErrH w) (h1 : 1 < w.heap.size) (la : a.length ≤ 140737488351232) (lb : b.length ≤ 140737488351232) :
    Calls Tryd.prog 9 #[.slice A1 a.length c1, .slice A2 b.length c2] w fun e w' => e = .returned (.bool true) ∧ Below w.heap.size w w' := by
  have HRA := Lib.hid ha
  have HRB := Lib.hid hb
  have HNB := Lib.hid hn
  clear ha hb hn
  go_enter Tryd.func9, Tryd.ntmps9
  go_wp2_with fail
  refine (awake12_any w HNB.out hg h1).mono ?_
  rintro e w1 ⟨rfl, hb1⟩
  have HB1 := Lib.hid hb1
  have hs1 := hb1.size
  clear hb1 hg
  go_wp2_with fail
  refine (new_any 40 w1 (by omega)).mono ?_
  rintro e w2 ⟨hb, bb, sb, nb, rfl, hn2⟩
  have HN := Lib.hid hn2
  have HDK2 := Lib.hid (hn2.dk (by omega) (by omega))
  have HB2 : Hid (Below w.heap.size w w2) := Lib.hid (HB1.out.trans (hn2.below.mono hs1))
  have hs2 := hn2.below.size
  have hhb1 := hn2.hbB
  have hhb2 := hn2.hand.lt
  clear hn2
  go_wp2_with fail
  refine (hdisk_any hb bb w2 HN.out.hand).mono ?_
  rintro e w3 ⟨rfl, hw3⟩
  obtain ⟨hb3, hs3, hc3, hd3⟩ := HDK2.out.hand hw3
  have HB3 : Hid (Below w.heap.size w w3) := Lib.hid (HB2.out.trans (hb3.mono (by omega)))
  have HH3 := Lib.hid (HN.out.hand.below hb3 hhb2)
  have HDK3 := Lib.hid hd3
  have HC3 := Lib.hid hc3
  clear hw3 hb3 hc3 hd3
  go_wp2_with fail
  refine (lopen_v HDK3.out ⟨w2.heap.size, 0, 20, 3, 0, 0, false⟩ [] w2.heap.size HC3.out (HNB.out.below HB3.out (by omega)) (by omega) (LaidL.fresh (NoEp.new _ _ _ _ (by omega))) (by show 1 ≤ 20; omega) (by show 20 ≤ 1073741824; omega) (by show ((0 + 20 : Nat) : Int) ≤ 40; omega) (by show 1 ≤ 3; omega) (by show 3 ≤ 1099511627776; omega) rfl).mono ?_
  rintro e w4 ⟨hb4, l1, v4, B4, Br4, rfl, hl1, hblk4, hB4, hlB4, hBr4, hrows4⟩
  obtain ⟨Av4, cv4, rfl, _⟩ := hrows4.len
  have HL4 := Lib.hid (Lg.opened (rs := []) HDK3.out HC3.out (.inr rfl) (.inl (.inl (by show 0 < w1.heap.size; omega))) (LaidL.fresh (NoEp.new 3 0 20 40 (by omega))) (by show 20 ≤ 1073741824; omega) (by show ((0 + 20 : Nat) : Int) ≤ 40; omega) (by show 3 < 2 ^ 48; decide) rfl rfl rfl (HNB.out.below HB3.out (by omega)) (by omega) hb4 hl1 hblk4)
  have HB4 : Hid (Below w.heap.size w w4) := Lib.hid (HB3.out.trans (hb4.mono (by omega)))
  have HH4 := Lib.hid (HH3.out.below hb4 (by omega))
  have hs4 := hb4.size
  have hlt4 := hblk4.lt
  clear hb4 hblk4 hB4 hlB4 hBr4 hrows4
  go_wp2_with fail
  refine (hdisk_any hb bb w4 HH4.out).mono ?_
  rintro e w5 ⟨rfl, hw5⟩
  obtain ⟨hb5, hs5, hc5, hd5⟩ := HL4.out.dk.hand hw5
  have HL5 := Lib.hid (HL4.out.more (K' := fun x => (((((x < w1.heap.size ∨ x = hb) ∨ x = w2.heap.size) ∨ x = l1) ∨ x = w4.heap.size))) hb5 (fun x hx => by
    rcases hx with hx | hx
    · exact .inl hx
    · exact .inr ⟨by omega, by omega⟩) (fun x hx => .inl hx))
  have HB5 : Hid (Below w.heap.size w w5) := Lib.hid (HB4.out.trans (hb5.mono (by omega)))
  have HH5 := Lib.hid (HH4.out.below hb5 (by omega))
  have HDK5 := Lib.hid hd5
  have HC5 := Lib.hid hc5
  clear hw5 hb5 hc5 hd5
  go_wp2_with fail
  refine (lopen_v HDK5.out ⟨w4.heap.size, 20, 20, 3, 0, 0, false⟩ [] w4.heap.size HC5.out (HNB.out.below HB5.out (by omega)) (by omega) (LaidL.fresh (NoEp.new _ _ _ _ (by omega))) (by show 1 ≤ 20; omega) (by show 20 ≤ 1073741824; omega) (by show ((20 + 20 : Nat) : Int) ≤ 40; omega) (by show 1 ≤ 3; omega) (by show 3 ≤ 1099511627776; omega) rfl).mono ?_
  rintro e w6 ⟨hb6, l2, v6, B6, Br6, rfl, hl2, hblk6, hB6, hlB6, hBr6, hrows6⟩
  obtain ⟨Av6, cv6, rfl, _⟩ := hrows6.len
  have hlt6 := hblk6.lt
  have HL6 := Lib.hid (Lg.opened (rs := []) HDK5.out HC5.out (.inr rfl) (.inl (.inl (.inl (.inl (by show 0 < w1.heap.size; omega))))) (LaidL.fresh (NoEp.new 3 20 20 40 (by omega))) (by show 20 ≤ 1073741824; omega) (by show ((20 + 20 : Nat) : Int) ≤ 40; omega) (by show 3 < 2 ^ 48; decide) rfl rfl rfl (HNB.out.below HB5.out (by omega)) (by omega) hb6 hl2 hblk6)
  have HM6 := Lib.hid (HL5.out.more (K' := fun x => ((((((x < w1.heap.size ∨ x = hb) ∨ x = w2.heap.size) ∨ x = l1) ∨ x = w4.heap.size) ∨ x = l2))) hb6 (fun x hx => by
    rcases hx with hx | hx
    · exact .inl hx
    · exact .inr ⟨by omega, by omega⟩) (fun x hx => .inl hx))
  have HB6 : Hid (Below w.heap.size w w6) := Lib.hid (HB5.out.trans (hb6.mono (by omega)))
  have HH6 := Lib.hid (HH5.out.below hb6 (by omega))
  have hs6 := hb6.size
  clear hb6 hblk6 hB6 hlB6 hBr6 hrows6
  have hT : Two w (fun x => ((((((x < w1.heap.size ∨ x = hb) ∨ x = w2.heap.size) ∨ x = l1) ∨ x = w4.heap.size) ∨ x = l2))) w6.heap.size bb hb l1 l2 0 20 [] [] [] [] (.slice none 0 0) (.slice none 0 0) w6 :=
    ⟨⟨_, _, _, HM6.out.congr (fun x => ⟨fun h => h.elim id fun h => h.elim (fun h => by cases h) (fun h => by cases h), .inl⟩), HL6.out.congr (fun x => ⟨fun h => h.elim id fun h => h.elim (fun h => by cases h) (fun h => by cases h), .inl⟩), rfl, rfl, rfl, rfl, rfl, rfl, by show w2.heap.size < _; omega, by show w4.heap.size < _; omega, by show w2.heap.size ≠ _; omega, by show w2.heap.size ≠ _; omega, by show w4.heap.size ≠ _; omega, by show w4.heap.size ≠ _; omega, Nat.zero_le _⟩,
      .inl (by omega), by omega, by omega, by omega, by omega, by omega, by omega, fun g hg => by omega, .inl (.inl (.inl (.inl (.inr rfl)))), HH6.out, by omega, PutAt.nil _ _ _, PutAt.nil _ _ _, fun g hg => (by cases hg), Nat.le_refl _, HB6.out⟩
  have HT0 := Lib.hid hT
  clear hT HM6 HL6 HH6 HB6 HL5 HDK5 HC5 HB5 HH5 HL4 HB4 HH4 HDK3 HC3 HB3 HH3 HN HDK2 HB2 HB1
  generalize (fun x : Nat => ((((((x < w1.heap.size ∨ x = hb) ∨ x = w2.heap.size) ∨ x = l1) ∨ x = w4.heap.size) ∨ x = l2))) = K0 at HT0
  generalize w6.heap.size = Bp at HT0
  clear hs1 hs2 hhb1 hhb2 hs3 hs4 hlt4 hs5 hs6 hlt6 hl1 hl2
  have hmx : (if a.length < b.length then (b.length : Int) else (a.length : Int)) = ((max a.length b.length : Nat) : Int) := by split <;> omega
  have hMb : max a.length b.length ≤ 140737488351232 := by omega
  generalize hMe : max a.length b.length = M at hmx hMb
  have hM1 : a.length ≤ M := by omega
  have hM2 : b.length ≤ M := by omega
  have HME := Lib.hid hMe
  clear hMe
  go_wp2_with fail
  go_loopw [13, 14, 15] (fun s13 s14 s15 wr => ∃ (k : Nat) (r1 r2 : List (List UInt8)), k ≤ M ∧ s15 = .int .i64 k ∧ Two w K0 Bp bb hb l1 l2 0 20 r1 r1 r2 r2 s13 s14 wr) (fun _ _ s15 _ => M - (intOf s15).toNat)
  case atStart => exact ⟨0, [], [], Nat.zero_le _, rfl, HT0.out⟩
  case round =>
    obtain ⟨k, r1, r2, hk, rfl, hT⟩ := hrel
    obtain ⟨Ao, co, rfl, _⟩ := hT.put1.len
    obtain ⟨Ap, cp, rfl, _⟩ := hT.put2.len
    have HT := Lib.hid hT
    clear hT
    by_cases hlt : k < M
    · have hwk : IntKind.i64.wrap ((k : Int) + 1) = (k : Int) + 1 := IntWalk.i64_in _ (by omega)
      by_cases hka : k < a.length
      · have d1 : decide ((k : Int) < (a.length : Int)) = true := by simp; omega
        obtain ⟨g, off, rfl, hgB, hc⟩ := HRA.out (by omega)
        obtain ⟨Ai, ci, hci0, hle, hc63, hl47, hby⟩ := hc k hka
        have HBY := Lib.hid hby
        have HCI := Lib.hid hci0
        clear hc hby hci0
        generalize a.getD k [] = x at *
        have hci : wr.cell? ⟨g, off + k, none⟩ = some (.slice Ai x.length ci) := (HT.out.bel.cell (p := ⟨g, off + k, none⟩) hgB).trans HCI.out
        go_wp2_with fail
        refine (HT.out.append Ai ci x (HBY.out.below HT.out.bel) hle hc63 hl47).mono ?_
        rintro e w7 (⟨rfl, hT7⟩ | ⟨q, rfl, hT7⟩)
        · have hci7 : w7.cell? ⟨g, off + k, none⟩ = some (.slice Ai x.length ci) := (hT7.bel.cell (p := ⟨g, off + k, none⟩) hgB).trans HCI.out
          obtain ⟨Aq, cq, M7, hrun7, hT8⟩ := hT7.push (by have := HT.out.cnt; omega) Ai ci x (HBY.out.below hT7.bel) hle hc63 36
          have HR7 := Lib.hid hrun7
          have HT8 := Lib.hid hT8
          clear hT7 hrun7 hT8
          by_cases hkb : k < b.length
          · have d2 : decide ((k : Int) < (b.length : Int)) = true := by simp; omega
            obtain ⟨g2, off2, rfl, hgB2, hc2⟩ := HRB.out (by omega)
            obtain ⟨Aj, cj, hcj0, hle2, hc632, hl472, hby2⟩ := hc2 k hkb
            have HBY2 := Lib.hid hby2
            have HCJ := Lib.hid hcj0
            clear hc2 hby2 hcj0
            generalize b.getD k [] = y at *
            have hcj : M7.cell? ⟨g2, off2 + k, none⟩ = some (.slice Aj y.length cj) := (HT8.out.bel.cell (p := ⟨g2, off2 + k, none⟩) hgB2).trans HCJ.out
            go_wp2_with (at_builtin; refine Lib.wpList_append_run _ rfl (.tmp 78) (.tmp 83) _ _ rfl _ _ rfl rfl _ _ HR7.out ?_)
            refine (HT8.out.swap.append Aj cj y (HBY2.out.below HT8.out.bel) hle2 hc632 hl472).mono ?_
            rintro e w9 (⟨rfl, hT9⟩ | ⟨q2, rfl, hT9⟩)
            · have hcj9 : w9.cell? ⟨g2, off2 + k, none⟩ = some (.slice Aj y.length cj) := (hT9.bel.cell (p := ⟨g2, off2 + k, none⟩) hgB2).trans HCJ.out
              obtain ⟨Ar, cr, M9, hrun9, hT10⟩ := hT9.push (by have := HT.out.cnt; omega) Aj cj y (HBY2.out.below hT9.bel) hle2 hc632 36
              have HR9 := Lib.hid hrun9
              have HT10 := Lib.hid hT10
              clear hT9 hrun9 hT10
              go_wp2_with (at_builtin; refine Lib.wpList_append_run _ rfl (.tmp 98) (.tmp 103) _ _ rfl _ _ rfl rfl _ _ HR9.out ?_)
              exact ⟨⟨k + 1, _, _, by omega, by go_num, by have := HT10.out.swap; exact this⟩, by simp [intOf]; omega⟩
            · have HT9 := Lib.hid hT9
              clear hT9
              go_wp2_with fail
              exact ⟨⟨k + 1, _, _, by omega, by go_num, HT9.out.swap⟩, by simp [intOf]; omega⟩
          · go_wp2_with (at_builtin; refine Lib.wpList_append_run _ rfl (.tmp 78) (.tmp 83) _ _ rfl _ _ rfl rfl _ _ HR7.out ?_)
            exact ⟨⟨k + 1, _, _, by omega, by go_num, HT8.out⟩, by simp [intOf]; omega⟩
        · have HT8 := Lib.hid hT7
          clear hT7
          by_cases hkb : k < b.length
          · have d2 : decide ((k : Int) < (b.length : Int)) = true := by simp; omega
            obtain ⟨g2, off2, rfl, hgB2, hc2⟩ := HRB.out (by omega)
            obtain ⟨Aj, cj, hcj0, hle2, hc632, hl472, hby2⟩ := hc2 k hkb
            have HBY2 := Lib.hid hby2
            have HCJ := Lib.hid hcj0
            clear hc2 hby2 hcj0
            generalize b.getD k [] = y at *
            have hcj : w7.cell? ⟨g2, off2 + k, none⟩ = some (.slice Aj y.length cj) := (HT8.out.bel.cell (p := ⟨g2, off2 + k, none⟩) hgB2).trans HCJ.out
            go_wp2_with fail
            refine (HT8.out.swap.append Aj cj y (HBY2.out.below HT8.out.bel) hle2 hc632 hl472).mono ?_
            rintro e w9 (⟨rfl, hT9⟩ | ⟨q2, rfl, hT9⟩)
            · have hcj9 : w9.cell? ⟨g2, off2 + k, none⟩ = some (.slice Aj y.length cj) := (hT9.bel.cell (p := ⟨g2, off2 + k, none⟩) hgB2).trans HCJ.out
              obtain ⟨Ar, cr, M9, hrun9, hT10⟩ := hT9.push (by have := HT.out.cnt; omega) Aj cj y (HBY2.out.below hT9.bel) hle2 hc632 36
              have HR9 := Lib.hid hrun9
              have HT10 := Lib.hid hT10
              clear hT9 hrun9 hT10
              go_wp2_with (at_builtin; refine Lib.wpList_append_run _ rfl (.tmp 98) (.tmp 103) _ _ rfl _ _ rfl rfl _ _ HR9.out ?_)
              exact ⟨⟨k + 1, _, _, by omega, by go_num, by have := HT10.out.swap; exact this⟩, by simp [intOf]; omega⟩
            · have HT9 := Lib.hid hT9
              clear hT9
              go_wp2_with fail
              exact ⟨⟨k + 1, _, _, by omega, by go_num, HT9.out.swap⟩, by simp [intOf]; omega⟩
          · go_wp2_with fail
            exact ⟨⟨k + 1, _, _, by omega, by go_num, HT8.out⟩, by simp [intOf]; omega⟩
      · have d1 : decide ((k : Int) < (a.length : Int)) = false := by simp; omega
        have HT8 := HT
        by_cases hkb : k < b.length
        · have d2 : decide ((k : Int) < (b.length : Int)) = true := by simp; omega
          obtain ⟨g2, off2, rfl, hgB2, hc2⟩ := HRB.out (by omega)
          obtain ⟨Aj, cj, hcj0, hle2, hc632, hl472, hby2⟩ := hc2 k hkb
          have HBY2 := Lib.hid hby2
          have HCJ := Lib.hid hcj0
          clear hc2 hby2 hcj0
          generalize b.getD k [] = y at *
          have hcj : wr.cell? ⟨g2, off2 + k, none⟩ = some (.slice Aj y.length cj) := (HT8.out.bel.cell (p := ⟨g2, off2 + k, none⟩) hgB2).trans HCJ.out
          go_wp2_with fail
          refine (HT8.out.swap.append Aj cj y (HBY2.out.below HT8.out.bel) hle2 hc632 hl472).mono ?_
          rintro e w9 (⟨rfl, hT9⟩ | ⟨q2, rfl, hT9⟩)
          · have hcj9 : w9.cell? ⟨g2, off2 + k, none⟩ = some (.slice Aj y.length cj) := (hT9.bel.cell (p := ⟨g2, off2 + k, none⟩) hgB2).trans HCJ.out
            obtain ⟨Ar, cr, M9, hrun9, hT10⟩ := hT9.push (by have := HT.out.cnt; omega) Aj cj y (HBY2.out.below hT9.bel) hle2 hc632 36
            have HR9 := Lib.hid hrun9
            have HT10 := Lib.hid hT10
            clear hT9 hrun9 hT10
            go_wp2_with (at_builtin; refine Lib.wpList_append_run _ rfl (.tmp 98) (.tmp 103) _ _ rfl _ _ rfl rfl _ _ HR9.out ?_)
            exact ⟨⟨k + 1, _, _, by omega, by go_num, by have := HT10.out.swap; exact this⟩, by simp [intOf]; omega⟩
          · have HT9 := Lib.hid hT9
            clear hT9
            go_wp2_with fail
            exact ⟨⟨k + 1, _, _, by omega, by go_num, HT9.out.swap⟩, by simp [intOf]; omega⟩
        · exfalso; have := HME.out; omega
    · obtain rfl : k = M := by omega
      have hr1 := HT.out.cnt
      go_wp2_with fail
      refine (hdisk_any hb bb wr HT.out.hand).mono ?_
      rintro e w7 ⟨rfl, hw7⟩
      obtain ⟨V, L1, L2, hA, hB, q1, q2, q3, q4, q5, q6, _⟩ := HT.out.ex
      obtain ⟨db1, f1, m1, e1, n1, u1, dd1⟩ := L1
      obtain ⟨db2, f2, m2, e2, n2, u2, dd2⟩ := L2
      obtain rfl : f1 = 0 := q1
      obtain rfl : f2 = 20 := q2
      obtain rfl : m1 = 20 := q3
      obtain rfl : m2 = 20 := q4
      obtain rfl : e1 = 3 := q5
      obtain rfl : e2 = 3 := q6
      obtain ⟨hb7, hs7, hc7, hd7⟩ := hA.dk.hand hw7
      have HA := Lib.hid hA
      have HB := Lib.hid hB
      have HD7 := Lib.hid hd7
      have HB7 := Lib.hid hb7
      have HC7 := Lib.hid hc7
      clear hw7 hb7 hc7 hd7 hA hB
      have h0 := HA.out.w0
      go_wp2_with fail
      refine (lopen_v HD7.out ⟨db1, 0, 20, 3, n1, u1, dd1⟩ r1 wr.heap.size HC7.out (HA.out.nib.below HB7.out h0) (by omega) HA.out.laid (by show 1 ≤ 20; omega) (by show 20 ≤ 1073741824; omega) HA.out.fits (by show 1 ≤ 3; omega) (by show 3 ≤ 1099511627776; omega) HA.out.down).mono ?_
      rintro e w8 ⟨hb8, l8, v8, B8, Br8, rfl, hl8, hblk8, hB8, hlB8, hBr8, hrows8⟩
      obtain ⟨Av8, cv8, rfl, _⟩ := hrows8.len
      have HB8 : Hid (Below wr.heap.size wr w8) := Lib.hid (HB7.out.trans (hb8.mono (by omega)))
      have HD8 := Lib.hid (HA.out.dk.keep HB8.out)
      have HR8 := Lib.hid hrows8.rin
      have hs8 := hb8.size
      clear hb8 hblk8 hB8 hlB8 hBr8 hrows8
      go_wp2_with fail
      refine (hdisk_any hb bb w8 (HT.out.hand.below HB8.out HT.out.hand.lt)).mono ?_
      rintro e w9 ⟨rfl, hw9⟩
      obtain ⟨hb9, hs9, hc9, hd9⟩ := HD8.out.hand hw9
      have HB9 : Hid (Below wr.heap.size wr w9) := Lib.hid (HB8.out.trans (hb9.mono (by omega)))
      have HR9 := Lib.hid (HR8.out.keep hb9)
      have HD9 := Lib.hid hd9
      have HC9 := Lib.hid hc9
      clear hw9 hb9 hc9 hd9
      go_wp2_with fail
      refine (lopen_v HD9.out ⟨db2, 20, 20, 3, n2, u2, dd2⟩ r2 w8.heap.size HC9.out (HA.out.nib.below HB9.out h0) (by omega) HB.out.laid (by show 1 ≤ 20; omega) (by show 20 ≤ 1073741824; omega) HB.out.fits (by show 1 ≤ 3; omega) (by show 3 ≤ 1099511627776; omega) HB.out.down).mono ?_
      rintro e w10 ⟨hb10, l10, v10, B10, Br10, rfl, hl10, hblk10, hB10, hlB10, hBr10, hrows10⟩
      obtain ⟨Av10, cv10, rfl, _⟩ := hrows10.len
      have HB10 : Hid (Below wr.heap.size wr w10) := Lib.hid (HB9.out.trans (hb10.mono (by omega)))
      have HR10 := Lib.hid (HR9.out.keep hb10)
      have HQ10 := Lib.hid hrows10.rin
      clear hb10 hblk10 hB10 hlB10 hBr10 hrows10
      have hle := HT.out.bel.size
      have HP1 := Lib.hid ((HT.out.put1.rin hle).keep HB10.out)
      have HP2 := Lib.hid ((HT.out.put2.rin hle).keep HB10.out)
      go_wp2_with fail
      refine (sameRows_any w10 Av8 Ao cv8 co r1 r1 HR10.out HP1.out (by omega) (by omega) true (by simp)).mono ?_
      rintro e w11 ⟨rfl, n11, rfl⟩
      have hk11 : Below w10.heap.size w10 (w10.drewN n11) := below_drewN (Below.refl _ _) n11
      go_wp2_with fail
      refine (sameRows_any (w10.drewN n11) Av10 Ap cv10 cp r2 r2 (HQ10.out.keep hk11) (HP2.out.keep hk11) (by omega) (by omega) true (by simp)).mono ?_
      rintro e w12 ⟨rfl, n12, rfl⟩
      go_wp2_with fail
      go_ret
      refine ⟨rfl, ?_⟩
      exact below_drewN (HT.out.bel.trans (HB10.out.mono hle)) _
end Go.Proofs.YteediemhcocgdaaDoor
