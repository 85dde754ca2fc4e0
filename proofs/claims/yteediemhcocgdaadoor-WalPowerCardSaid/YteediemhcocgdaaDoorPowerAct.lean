/-
  wal's Log: Sync. A log whose disk may lose its power, and its row.
-/
import Derived.Test.YteediemhcocgdaaDoorPowerPlain
import Derived.Test.YteediemhcocgdaaDoorDiskCrash
import Derived.Test.YteediemhcocgdaaDoorBack
namespace Go.Proofs.YteediemhcocgdaaDoor
open Go.RowKit
open WalP (Stamp secs readR)

set_option maxHeartbeats 1000000 in
set_option maxRecDepth 100000 in
theorem lactS_v {K : Nat → Prop} {w : World} {bb : Nat} (L : LV) (lb : Nat) (r : Bool × DV) (c0 : Value) (hlb : Blk w lb 105 L.cells) (klb : K lb)
    (hdo : Calls Tryd.prog 51 #[c0] w (ActR K bb r w)) :
    Calls Tryd.prog 64 #[.pointer (some ⟨lb, 0, none⟩), .func (.func 51) #[c0] #[]] w (LActR K bb lb L r w) := by
  have HL := Lib.hid hlb
  have HD := Lib.hid hdo
  clear hlb hdo
  go_enter Tryd.func64, Tryd.ntmps64
  go_wp2_with fail
  refine HD.out.mono ?_
  rintro e w1 ⟨rfl, hd1, hk1⟩
  have HL1 := Lib.hid (hk1.blk HL.out klb)
  have HX1 := Lib.hid hd1
  have HK1 := Lib.hid hk1
  clear hd1 hk1
  rcases hr : r.1 with _ | _
  · have hv : errV false = .nilIface := rfl
    rw [hv]
    go_wp2_with fail
    refine (is_nil w1).mono ?_
    rintro e w2 ⟨rfl, rfl⟩
    go_wp2_with fail
    go_ret
    refine ⟨by rw [hr]; rfl, HX1.out, ?_, Turn.mono HK1.out fun b hb => .inl hb⟩
    rw [hr]
    have : L.die false = L := by unfold LV.die; simp
    rw [this]
    exact HL1.out
  · have hv : errV true = .iface 24 (.int .i64 5) := rfl
    rw [hv]
    go_wp2_with fail
    refine (is_down w1).mono ?_
    rintro e w2 ⟨rfl, rfl⟩
    have c6 : w1.cell? ⟨lb, 6, none⟩ = some (.bool L.dead) := HL1.out.cell 6
    have f6 := HL1.out.frozen 6
    go_wp2_with fail
    go_ret
    refine ⟨by rw [hr]; rfl, HX1.out.turnK (turn_at w1 lb 6 (.bool true)) (fun b hb => .inl (hb ▸ klb)), ?_, ?_⟩
    · rw [hr]
      have := HL1.out.set_ 6 (.bool true)
      have e2 : (L.die true).cells = L.cells.set 6 (.bool true) := by unfold LV.die LV.cells; simp
      rw [e2]
      exact this
    · exact (Turn.mono HK1.out fun b hb => Or.inl hb).trans (turn_at w1 lb 6 (.bool true)) fun b hb => .inl (.inr hb)


set_option maxRecDepth 100000 in
theorem lsync_v {K : Nat → Prop} {w : World} {bb : Nat} {V : DV} (h : Dk K w bb V) (L : LV) (lb : Nat) (hlb : Blk w lb 105 L.cells) (klb : K lb) (hdb : w.cell? ⟨L.db, 0, none⟩ = some (.pointer (some ⟨bb, 0, none⟩))) (kdb : K L.db) (hd : L.dead = false) (hdn : V.down = false) (hl : V.wait.length ≤ 1000000000) :
    Calls Tryd.prog 45 #[.pointer (some ⟨lb, 0, none⟩)] w (LActR K bb lb L (V.act DV.sync) w) := by
  have d6 : w.cell? ⟨lb, 6, none⟩ = some (.bool false) := by have := hlb.cell 6; rw [← hd]; exact this
  have d0 : w.cell? ⟨lb, 0, none⟩ = some (.pointer (some ⟨L.db, 0, none⟩)) := hlb.cell 0
  have HS := Lib.hid (lactS_v L lb (V.act DV.sync) (.pointer (some ⟨L.db, 0, none⟩)) hlb klb (dsync_v h L.db hdn hl hdb kdb))
  clear h hlb
  go_enter Tryd.func45, Tryd.ntmps45
  go_wp2_with fail
  refine HS.out.mono ?_
  rintro e w1 ⟨rfl, h1, h2, h3⟩
  have HX := Lib.hid (And.intro h1 (And.intro h2 h3))
  clear h1 h2 h3
  rcases hr : (V.act DV.sync).1 with _ | _
  all_goals
    go_wp2_with fail
    go_ret
    exact ⟨by rw [hr]; rfl, HX.out.1, by have := HX.out.2.1; rw [hr] at this ⊢; exact this, HX.out.2.2⟩

/-- A log in the area of 25 sectors from 3 on, whatever its disk does, and a row beside it. -/
structure OnP (w0 : World) (K0 : Nat → Prop) (Bp bb hb l : Nat) (V : DV) (L : LV) (p : List (List UInt8)) (v : Value) (w : World) : Prop where
  dk : Dk (K1 K0 v) w bb V
  lg : Blk w l 105 L.cells
  dbc : w.cell? ⟨L.db, 0, none⟩ = some (.pointer (some ⟨bb, 0, none⟩))
  nib : Nib w
  n : V.n = 30
  frm : L.frm = 3
  many : L.many = 25
  ep : L.ep < 2 ^ 48
  db : L.db < Bp
  dbl : L.db ≠ l
  lb : l < Bp
  g : w0.heap.size ≤ l
  pos : 0 < w0.heap.size
  k0 : ∀ g, g < w0.heap.size → K0 g
  kl : K0 l
  kd : K0 L.db
  kh : K0 hb
  hand : Blk w hb 93 [.pointer (some ⟨bb, 0, none⟩)]
  hlt : hb < Bp
  put : PutAt w Bp w0.heap.size v p
  size : Bp ≤ w.heap.size
  bel : Below w0.heap.size w0 w
theorem One.onP {w0 : World} {K0 : Nat → Prop} {Bp bb hb l : Nat} {V : DV} {L : LV} {r p : List (List UInt8)} {v : Value} {w : World} (h : One w0 K0 Bp bb hb l V L r p v w) (hn : V.n = 30) : OnP w0 K0 Bp bb hb l V L p v w := by
  have hk : ∀ x, x < Bp → K1 K0 v x → K0 x := fun x hx hk => hk.elim id fun e => by have := (h.put.blk x e).1; omega
  exact ⟨h.lg.dk, h.lg.lg, h.lg.db, h.lg.nib, hn, h.frm, h.many, h.lg.ep, h.db, h.dbl, h.lb, h.g, h.pos, h.k0, hk _ h.lb h.lg.kl, hk _ h.db h.lg.kd, h.kh, h.hand, h.hlt, h.put, h.size, h.bel⟩
/-- Something is done with the disk. -/
theorem OnP.step {w0 : World} {K0 : Nat → Prop} {Bp bb hb l : Nat} {V V' : DV} {L L' : LV} {p : List (List UInt8)} {v : Value} {w w' : World} (h : OnP w0 K0 Bp bb hb l V L p v w) (hd : Dk (K1 K0 v) w' bb V') (hn : V'.n = V.n) (ht : Turn (fun x => ¬ K1 K0 v x ∨ x = l) w w')
    (hl : Blk w' l 105 L'.cells) (e1 : L'.db = L.db) (e2 : L'.frm = L.frm) (e3 : L'.many = L.many) (e4 : L'.ep = L.ep) : OnP w0 K0 Bp bb hb l V' L' p v w' := by
  have hbel : Below w0.heap.size w w' := turn_below ht h.bel.size fun b hb => ⟨.inl (h.k0 b hb), by have := h.g; omega⟩
  have hb : ∀ x, x < w.heap.size → K0 x → x ≠ l → w'.heap[x]? = w.heap[x]? := fun x hx hk hn => ht.block x hx fun h => h.elim (fun h => h (.inl hk)) hn
  have hz : 0 < w.heap.size := Nat.lt_of_lt_of_le h.pos h.bel.size
  have h0l : 0 ≠ l := by have := h.g; have := h.pos; omega
  exact ⟨hd, hl, by rw [e1]; exact (World.cell?_of_block (hb L.db (cell_lt h.dbc) h.kd h.dbl)).trans h.dbc, fun i hi => (World.cell?_of_block (hb 0 hz (h.k0 0 h.pos) h0l)).trans (h.nib i hi), hn.trans h.n, e2.trans h.frm, e3.trans h.many, by rw [e4]; exact h.ep, by rw [e1]; exact h.db, by rw [e1]; exact h.dbl, h.lb, h.g, h.pos, h.k0, h.kl, by rw [e1]; exact h.kd, h.kh,
    turn_blk ht h.hand (.inl h.kh) fun e => blk_type h.hand h.lg (by decide) e, h.hlt, h.put.turn' ht hbel (fun g hg => .inr hg) h.lb, Nat.le_trans h.size ht.size, h.bel.trans hbel⟩
theorem OnP.kept {w0 : World} {K0 : Nat → Prop} {Bp bb hb l : Nat} {V V' : DV} {L : LV} {p : List (List UInt8)} {v : Value} {w w' : World} (h : OnP w0 K0 Bp bb hb l V L p v w) (hd : Dk (K1 K0 v) w' bb V') (hn : V'.n = V.n) (hk : Kept (K1 K0 v) w w') : OnP w0 K0 Bp bb hb l V' L p v w' :=
  h.step hd hn (Turn.mono hk fun _ hb => .inl hb) (hk.blk h.lg (.inl h.kl)) rfl rfl rfl rfl
theorem OnP.keep {w0 : World} {K0 : Nat → Prop} {Bp bb hb l : Nat} {V : DV} {L : LV} {p : List (List UInt8)} {v : Value} {w w' : World} (h : OnP w0 K0 Bp bb hb l V L p v w) (hbl : Below w.heap.size w w') : OnP w0 K0 Bp bb hb l V L p v w' :=
  h.kept (h.dk.keep hbl) rfl (Kept.of_below hbl h.dk.lt)
/-- Append to a log that lives. -/
def OnPR (w0 : World) (K0 : Nat → Prop) (Bp bb hb l : Nat) (V : DV) (L : LV) (r p : List (List UInt8)) (m0 : Nat) (v : Value) (b : List UInt8) (e : Ending) (w' : World) : Prop :=
  (e = .returned .nilIface ∧ ∃ V' L' G', OnP w0 K0 Bp bb hb l V' L' p v w' ∧ Pow V' L' (r ++ [b]) G' m0 ∧ V'.down = false ∧ L'.dead = false ∧ L'.ep = L.ep ∧ V'.wait.length + L.used ≤ V.wait.length + L'.used) ∨
  (∃ n, e = .returned (.iface 24 (.int .i64 n)) ∧ OnP w0 K0 Bp bb hb l V L p v w') ∨
  (∃ n, e = .returned (.iface 24 (.int .i64 n)) ∧ ∃ V' L' L2 G', OnP w0 K0 Bp bb hb l V' L' p v w' ∧ L'.dead = true ∧ PowD V' L2 (r ++ [b]) G' m0 ∧ L2.frm = 3 ∧ L2.many = 25 ∧ L2.ep = L.ep ∧ V'.wait.length ≤ V.wait.length + 600)
theorem OnP.append {w0 : World} {K0 : Nat → Prop} {Bp bb hb l : Nat} {V G : DV} {L : LV} {r p : List (List UInt8)} {m0 : Nat} {v : Value} {w : World} (h : OnP w0 K0 Bp bb hb l V L p v w) (hp : Pow V L r G m0) (hdd : L.dead = false) (hdn : V.down = false)
    (A : Option Addr) (c : Nat) (b : List UInt8) (hby : Byt w w0.heap.size A b) (hbc : b.length ≤ c) (hc63 : c ≤ 9223372036854775807) (hlen : b.length ≤ 140737488351232) (hw : V.wait.length ≤ 1000) :
    Calls Tryd.prog 38 #[.pointer (some ⟨l, 0, none⟩), .slice A b.length c] w (OnPR w0 K0 Bp bb hb l V L r p m0 v b) := by
  have hm := h.many
  have hf := h.frm
  have hu := hp.d.laid.used
  have hcu := hp.d.laid.cu
  have hnn := h.n
  have hpos := h.pos
  have hz := h.bel.size
  by_cases h1 : b.length ≤ 262144
  · by_cases h2 : L.used + secs b.length ≤ L.many
    · refine (append_v h.dk L l w0.heap.size A c b h.lg h.dbc hby h.bel.size hbc hc63 h.nib (by omega) h1 h2 (by rw [hf, hm, hnn]; decide) h.ep (by omega) hdd hdn (by omega) (.inl h.kl) (.inl h.kd) (fun hl g hg => .inl (h.k0 g (hby.blk_lt hl g hg))) (.inl (h.k0 0 hpos))).mono ?_
      rintro e w' ⟨ht, ⟨rfl, V', hs, hdk, hlg⟩ | ⟨k, V1, hk, hs, hbad, rfl, hdk, hlg⟩⟩
      · obtain ⟨n1, n2, n3⟩ := steps_keeps _ _ hs
        obtain ⟨G', hp'⟩ := hp.append b ⟨h1, h2⟩ h.ep (by omega) hs
        exact .inl ⟨rfl, V', L.add (secs b.length), G', h.step hdk n1 ht hlg rfl rfl rfl rfl, hp', n2.trans hdn, hdd, rfl, by show _ ≤ _ + (L.used + _); omega⟩
      · obtain ⟨n1, n2, n3⟩ := steps_keeps _ _ hs
        obtain ⟨G', hp'⟩ := hp.broke b ⟨h1, h2⟩ h.ep (by omega) hk hs
        obtain ⟨b1, b2, b3, b4, b5⟩ := act_put _ (rfl : V1.act (fun X => X.put ((L.frm + L.used + k : Nat) : Int) (sect L b k)) = _)
        have hsM : secs b.length ≤ 533 := by unfold secs; split <;> omega
        have b4' : (wr1 L b k V1).2.wait.length ≤ V1.wait.length + 1 := b4
        exact .inr (.inr ⟨5, rfl, _, L.die true, L.add (secs b.length), G', h.step hdk (b1.trans n1) ht hlg rfl rfl rfl rfl, by simp [LV.die], hp', hf, hm, rfl, by omega⟩)
    · refine (append_full L l A c b.length w h.lg hdd h1 (by omega) (by omega) (by omega)).mono ?_
      rintro e w' ⟨rfl, hbel⟩
      exact .inr (.inl ⟨_, rfl, h.keep hbel⟩)
  · refine (append_long L l A c b.length w h.lg hdd (by omega) (by omega)).mono ?_
    rintro e w' ⟨rfl, hbel⟩
    exact .inr (.inl ⟨_, rfl, h.keep hbel⟩)
/-- .. and into the row. -/
theorem OnP.push {w0 : World} {K0 : Nat → Prop} {Bp bb hb l : Nat} {V : DV} {L : LV} {p : List (List UInt8)} {v : Value} {w : World} (h : OnP w0 K0 Bp bb hb l V L p v w) (hn : p.length ≤ 100)
    (A : Option Addr) (c : Nat) (b : List UInt8) (hby : Byt w w0.heap.size A b) (hbc : b.length ≤ c) (hc63 : c ≤ 9223372036854775807) (ty : TypeId) :
    ∃ Ao co M, (Builtin.append_ #[36, 36] ty #[v, .slice (some ⟨w.heap.size, 0, none⟩) 1 1]).run Tryd.prog (w.alloc (.cells #[.slice A b.length c] 23)) = .ok (.slice Ao (p.length + 1) co) M ∧
      OnP w0 K0 Bp bb hb l V L (p ++ [b]) (.slice Ao (p.length + 1) co) M := by
  have hs := h.size
  have hB : w0.heap.size ≤ Bp := by have := h.g; have := h.lb; omega
  have hpos := h.pos
  obtain ⟨Ao, co, M, hrun, hg, hput, hown⟩ := h.put.push (by omega) A c b hbc hc63 hby h.size hB ty
  have hal : Below w.heap.size w (w.alloc (.cells #[.slice A b.length c] 23)) := (Below.refl _ _).alloc (Nat.le_refl _) _
  have hsz : (w.alloc (.cells #[.slice A b.length c] 23)).heap.size = w.heap.size + 1 := by simp
  have hMs := hg.size
  have hg1 := h.put.blk
  have hbM : Below Bp w M := ⟨hg.os.trans hal.os, hg.tape.trans hal.tape, hg.output.trans hal.output, by omega, fun x hx => (hg.block x (by omega) fun e => by have := (hg1 x e.symm).1; omega).trans (hal.block x (by omega))⟩
  have hdk : Dk (K1 K0 (.slice Ao (p.length + 1) co)) M bb V := by
    refine Dk.push (h.dk.keep hal) hg (fun r e => .inr e) fun x hx => ?_
    rcases hx with hx | hx
    · exact .inl (.inl hx)
    · rcases hown with e | e
      · exact .inl (.inr (e ▸ hx))
      · rw [e] at hx
        cases hx
        exact .inr ⟨by rw [hsz]; exact Nat.le_refl _, by have := hput.blk _ e; exact this.2⟩
  exact ⟨Ao, co, M, hrun, hdk, (hbM.block l h.lb).trans h.lg, (hbM.cell (p := ⟨L.db, 0, none⟩) h.db).trans h.dbc, fun i hi => (hbM.cell (p := ⟨0, i, none⟩) (by show 0 < Bp; omega)).trans (h.nib i hi), h.n, h.frm, h.many, h.ep, h.db, h.dbl, h.lb, h.g, h.pos, h.k0, h.kl, h.kd, h.kh, (hbM.block hb h.hlt).trans h.hand, h.hlt, hput, by omega, h.bel.trans (hbM.mono hB)⟩
/-- Sync of a log that lives. -/
def OnPS (w0 : World) (K0 : Nat → Prop) (Bp bb hb l : Nat) (V : DV) (L : LV) (r p : List (List UInt8)) (m0 : Nat) (v : Value) (e : Ending) (w' : World) : Prop :=
  (e = .returned .nilIface ∧ ∃ V' G', OnP w0 K0 Bp bb hb l V' L p v w' ∧ Pow V' L r G' r.length ∧ V'.down = false ∧ V'.wait.length ≤ V.wait.length) ∨
  (e = .returned (.iface 24 (.int .i64 5)) ∧ ∃ V' L' G', OnP w0 K0 Bp bb hb l V' L' p v w' ∧ L'.dead = true ∧ PowD V' L r G' m0 ∧ V'.wait.length ≤ V.wait.length)
theorem OnP.sync {w0 : World} {K0 : Nat → Prop} {Bp bb hb l : Nat} {V G : DV} {L : LV} {r p : List (List UInt8)} {m0 : Nat} {v : Value} {w : World} (h : OnP w0 K0 Bp bb hb l V L p v w) (hp : Pow V L r G m0) (hdd : L.dead = false) (hdn : V.down = false) (hw : V.wait.length ≤ 1000) :
    Calls Tryd.prog 45 #[.pointer (some ⟨l, 0, none⟩)] w (OnPS w0 K0 Bp bb hb l V L r p m0 v) := by
  refine (lsync_v h.dk L l h.lg (.inl h.kl) h.dbc (.inl h.kd) hdd hdn (by omega)).mono ?_
  rintro e w' ⟨rfl, hdk, hlg, ht⟩
  obtain ⟨a1, a2, a3, a4, a5⟩ := act_sync _ (rfl : V.act DV.sync = _) hp.sound
  rcases hr : (V.act DV.sync).1 with _ | _
  · obtain ⟨b1, b2, b3⟩ := a5 hr
    rw [hr] at hlg
    have e2 : L.die false = L := by unfold LV.die; simp
    rw [e2] at hlg
    have hpp := hp.synced (V' := (V.act DV.sync).2) (by rw [← hr])
    exact .inl ⟨rfl, _, G, h.step hdk a1 ht hlg rfl rfl rfl rfl, hpp, b1.trans hdn, a4⟩
  · rw [hr] at hlg
    exact .inr ⟨rfl, _, L.die true, G, h.step hdk a1 ht hlg rfl rfl rfl rfl, by simp [LV.die], hp.unsynced, a4⟩

/-- A log of epoch 6 in WalPower's loop. -/
structure PwL (w0 : World) (K0 : Nat → Prop) (Bp bb hb l : Nat) (V : DV) (L : LV) (r : List (List UInt8)) (m0 : Nat) (v : Value) (w : World) : Prop where
  on : OnP w0 K0 Bp bb hb l V L r v w
  wt : V.wait.length ≤ 800
  st : (L.dead = false ∧ V.down = false ∧ V.wait.length ≤ 25 + L.used ∧ L.ep = 6 ∧ ∃ G, Pow V L r G m0) ∨ (L.dead = true ∧ ∃ G L2, PowD V L2 r G m0 ∧ L2.frm = 3 ∧ L2.many = 25 ∧ L2.ep = 6)
theorem PwL.pd {w0 : World} {K0 : Nat → Prop} {Bp bb hb l : Nat} {V : DV} {L : LV} {r : List (List UInt8)} {m0 : Nat} {v : Value} {w : World} (h : PwL w0 K0 Bp bb hb l V L r m0 v w) : ∃ G L2, PowD V L2 r G m0 ∧ L2.frm = 3 ∧ L2.many = 25 ∧ L2.ep = 6 := by
  rcases h.st with ⟨_, _, _, he, G, hp⟩ | ⟨_, h⟩
  · exact ⟨G, L, hp.d, h.on.frm, h.on.many, he⟩
  · exact h
theorem PwL.cnt {w0 : World} {K0 : Nat → Prop} {Bp bb hb l : Nat} {V : DV} {L : LV} {r : List (List UInt8)} {m0 : Nat} {v : Value} {w : World} (h : PwL w0 K0 Bp bb hb l V L r m0 v w) : r.length ≤ 25 := by
  obtain ⟨G, L2, hp, _, hm, _⟩ := h.pd
  have := hp.laid.cnt; have := hp.laid.cu; have := hp.laid.used
  omega
theorem BIn.at_ {w0 w : World} {A : Option Addr} {l : List Bool} (h : BIn w0 A l (fun g => g < w0.heap.size)) (hb : Below w0.heap.size w0 w) (K : Nat → Prop) (hK : ∀ g, g < w0.heap.size → K g) : BIn w A l K := fun hl => by
  obtain ⟨g, off, hA, hg, hc⟩ := h hl
  exact ⟨g, off, hA, hK g hg, fun i hi => (hb.cell (p := ⟨g, off + i, none⟩) hg).trans (hc i hi)⟩
/-- What Open finds behind a loss of power. -/
theorem PowD.at_ {V G : DV} {L : LV} {rs : List (List UInt8)} {m0 : Nat} (h : PowD V L rs G m0) (keep : List Bool) (hf : L.frm = 3) (hm : L.many = 25) (ep : Nat) (he : L.ep = ep) :
    (Go.Proofs.YteediemhcocgdaaDoor.found ep (fun k => (V.crash keep).now ((3 + k : Nat) : Int)) 25).out <+: rs ∧ m0 ≤ (Go.Proofs.YteediemhcocgdaaDoor.found ep (fun k => (V.crash keep).now ((3 + k : Nat) : Int)) 25).out.length := by
  have := h.found keep
  rw [hf, hm, he] at this
  exact this
end Go.Proofs.YteediemhcocgdaaDoor
