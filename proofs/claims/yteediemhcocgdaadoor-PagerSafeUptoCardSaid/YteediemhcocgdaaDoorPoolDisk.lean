/-
  A pool on a disk: its pages flushed.
-/
import Derived.Test.YteediemhcocgdaaDoorPoolV
import Derived.Test.YteediemhcocgdaaDoorDiskSync
import Derived.Test.YteediemhcocgdaaDoorKeys
import Derived.Test.YteediemhcocgdaaDoorLay
import Derived.Test.YteediemhcocgdaaDoorDiskRead
import Derived.Deep.RegionHeld3
namespace Go.Proofs.YteediemhcocgdaaDoor
open Go.RowKit

set_option maxHeartbeats 1000000 in
set_option maxRecDepth 100000 in
theorem dwrite_down {K : Nat → Prop} {w : World} {bb : Nat} {V : DV} (h : Dk K w bb V) (x : Int) (v : Value) (db : Nat) (hdn : V.down = true) (hdb : w.cell? ⟨db, 0, none⟩ = some (.pointer (some ⟨bb, 0, none⟩))) :
    Calls Tryd.prog 66 #[.pointer (some ⟨db, 0, none⟩), .int .i64 x, v] w fun e w' => e = .returned (.iface 24 (.int .i64 5)) ∧ Below w.heap.size w w' := by
  have e7 := h.cells.2.2.2.1
  rw [hdn] at e7
  have hdbl := cell_lt hdb
  have hbl := cell_lt e7
  clear h
  go_enter Tryd.func66, Tryd.ntmps66
  go_wp2_with fail
  go_ret
  exact ⟨rfl, by
    first
      | exact ((Below.refl _ _).alloc (Nat.le_refl _) _).alloc (by simp) _
      | exact below_drewN (((Below.refl _ _).alloc (Nat.le_refl _) _).alloc (by simp) _) _⟩

/-- A pool with view V at p, on a disk with view VD whose box is bb; none of the blocks K is theirs. -/
structure PD (K : Nat → Prop) (w : World) (p : Nat) (V : PV) (bb : Nat) (VD : DV) : Prop where
  ex : ∃ (S : PoolS) (T : DiskS), S.view = V ∧ T.view = VD ∧ PoolAt w p S ∧ PoolOK S ∧ DiskAt w bb T ∧ DiskOK T ∧ (∀ b, S.fp p b → ¬ K b ∧ ¬ T.fp bb b) ∧ (∀ b, T.fp bb b → ¬ K b)
  lt : ∀ b, K b → b < w.heap.size
theorem PD.pool {K : Nat → Prop} {w : World} {p bb : Nat} {V : PV} {VD : DV} (h : PD K w p V bb VD) : ∃ T : DiskS, T.view = VD ∧ DiskAt w bb T ∧ DiskOK T ∧ (∀ b, T.fp bb b → ¬ K b) ∧ Pl (fun b => K b ∨ T.fp bb b) w p V := by
  obtain ⟨⟨S, T, hv, ht, ha, hok, hd, hdok, h1, h2⟩, hl⟩ := h
  exact ⟨T, ht, hd, hdok, h2, ⟨S, hv, ha, hok, fun b hb hk => hk.elim (h1 b hb).1 (h1 b hb).2⟩, fun b hb => hb.elim (hl b) hd.lt⟩
theorem PD.of_pool {K : Nat → Prop} {w w' : World} {p bb : Nat} {V : PV} {T : DiskS} (hd : DiskAt w bb T) (hok : DiskOK T) (hf : ∀ b, T.fp bb b → ¬ K b) (hk : Kept (fun b => K b ∨ T.fp bb b) w w') (hp : Pl (fun b => K b ∨ T.fp bb b) w' p V) : PD K w' p V bb T.view := by
  obtain ⟨⟨S, hv, ha, hpok, h1⟩, hl⟩ := hp
  exact ⟨⟨S, T, hv, rfl, ha, hpok, hd.keep fun b hb => hk.block b (hd.lt hb) fun hn => hn (.inr hb), hok, fun b hb => ⟨fun hk => h1 b hb (.inl hk), fun hk => h1 b hb (.inr hk)⟩, hf⟩, fun b hb => hl b (.inl hb)⟩
theorem PD.disk {K : Nat → Prop} {w : World} {p bb : Nat} {V : PV} {VD : DV} (h : PD K w p V bb VD) : ∃ S : PoolS, S.view = V ∧ PoolAt w p S ∧ PoolOK S ∧ (∀ b, S.fp p b → ¬ K b) ∧ Dk (fun b => K b ∨ S.fp p b) w bb VD := by
  obtain ⟨⟨S, T, hv, ht, ha, hok, hd, hdok, h1, h2⟩, hl⟩ := h
  exact ⟨S, hv, ha, hok, fun b hb => (h1 b hb).1, ⟨T, ht, hd, hdok, fun b hb hk => hk.elim (h2 b hb) fun hs => (h1 b hs).2 hb⟩, fun b hb => hb.elim (hl b) ha.lt⟩
theorem PD.of_disk {K : Nat → Prop} {w w' : World} {p bb : Nat} {S : PoolS} {VD : DV} (ha : PoolAt w p S) (hok : PoolOK S) (hf : ∀ b, S.fp p b → ¬ K b) (hk : Kept (fun b => K b ∨ S.fp p b) w w') (hd : Dk (fun b => K b ∨ S.fp p b) w' bb VD) : PD K w' p S.view bb VD := by
  obtain ⟨⟨T, ht, hda, hdok, h1⟩, hl⟩ := hd
  exact ⟨⟨S, T, rfl, ht, ha.keep fun b hb => hk.block b (ha.lt hb) fun hn => hn (.inr hb), hok, hda, hdok, fun b hb => ⟨hf b hb, fun ht => h1 b ht (.inr hb)⟩, fun b hb hk => h1 b hb (.inl hk)⟩, fun b hb => hl b (.inl hb)⟩
theorem PD.keep {K : Nat → Prop} {w w' : World} {p bb : Nat} {V : PV} {VD : DV} (h : PD K w p V bb VD) (hk : Below w.heap.size w w') : PD K w' p V bb VD := by
  obtain ⟨⟨S, T, hv, ht, ha, hok, hd, hdok, h1, h2⟩, hl⟩ := h
  exact ⟨⟨S, T, hv, ht, ha.keep fun b hb => hk.block b (ha.lt hb), hok, hd.below hk, hdok, h1, h2⟩, fun b hb => Nat.lt_of_lt_of_le (hl b hb) hk.size⟩

/-- What Flush does with the disk. -/
def flushD (frm : Int) : List (Int × List UInt8) → DV → Bool × DV
  | [], V => (false, V)
  | e :: r, V => if V.down = true then (true, V) else if (V.act fun X => X.put (frm + e.1) (layB e.1.toNat e.2)).1 = true then V.act fun X => X.put (frm + e.1) (layB e.1.toNat e.2) else flushD frm r (V.act fun X => X.put (frm + e.1) (layB e.1.toNat e.2)).2
theorem flushD_down {frm : Int} {x : Int} {l : List UInt8} {r : List (Int × List UInt8)} {V : DV} (h : V.down = true) : flushD frm ((x, l) :: r) V = (true, V) := by
  unfold flushD
  rw [if_pos h]
theorem flushD_bad {frm : Int} {x : Int} {l : List UInt8} {r : List (Int × List UInt8)} {V : DV} (h : V.down = false) (h2 : (V.act fun X => X.put (frm + x) (layB x.toNat l)).1 = true) : flushD frm ((x, l) :: r) V = (true, (V.act fun X => X.put (frm + x) (layB x.toNat l)).2) := by
  unfold flushD
  rw [if_neg (by rw [h]; simp), if_pos h2, ← h2]
theorem flushD_good {frm : Int} {x : Int} {l : List UInt8} {r : List (Int × List UInt8)} {V : DV} (h : V.down = false) (h2 : (V.act fun X => X.put (frm + x) (layB x.toNat l)).1 = false) : flushD frm ((x, l) :: r) V = flushD frm r (V.act fun X => X.put (frm + x) (layB x.toNat l)).2 := by
  unfold flushD
  rw [if_neg (by rw [h]; simp), if_neg (by rw [h2]; simp)]
  split <;> rfl
theorem act_put_n {V : DV} {x : Int} {l : List UInt8} : (V.act fun X => X.put x l).2.n = V.n ∧ (V.act fun X => X.put x l).2.wait.length ≤ V.wait.length + 1 := by
  rcases ha : V.armed with _ | _
  · rw [act_free ha]; exact ⟨rfl, by simp [DV.put]⟩
  · by_cases h0 : V.acts = 0
    · rw [act_down ha h0]
      rcases hd : V.done with _ | _
      · exact ⟨rfl, Nat.le_succ _⟩
      · exact ⟨rfl, by simp [DV.put]⟩
    · rw [act_less ha h0]; exact ⟨rfl, by simp [DV.put]⟩
/-- A page's bytes. -/
def PV.bytes (V : PV) (x : Int) : List UInt8 := match V.pg x with | some q => q.2 | none => []
/-- The pages that are taken, the least first. -/
def TakenK (V : PV) (ks : List Int) : Prop := ks.Pairwise (· < ·) ∧ ∀ x, x ∈ ks ↔ V.pg x ≠ none
theorem PD.more {K K' : Nat → Prop} {w w' : World} {p bb : Nat} {V : PV} {VD : DV} (h : PD K w p V bb VD) (hk : Below w.heap.size w w') (hK : ∀ b, K' b → K b ∨ (w.heap.size ≤ b ∧ b < w'.heap.size)) : PD K' w' p V bb VD := by
  obtain ⟨⟨S, T, hv, ht, ha, hok, hd, hdok, h1, h2⟩, hl⟩ := h
  refine ⟨⟨S, T, hv, ht, ha.keep fun b hb => hk.block b (ha.lt hb), hok, hd.below hk, hdok, fun b hb => ⟨fun hk2 => ?_, (h1 b hb).2⟩, fun b hb hk2 => ?_⟩, fun b hb => ?_⟩
  · rcases hK b hk2 with h3 | ⟨h3, _⟩
    · exact (h1 b hb).1 h3
    · have := ha.lt hb; omega
  · rcases hK b hk2 with h3 | ⟨h3, _⟩
    · exact h2 b hb h3
    · have := hd.lt hb; omega
  · rcases hK b hb with h3 | ⟨_, h3⟩
    · exact Nat.lt_of_lt_of_le (hl b h3) hk.size
    · exact h3
theorem PD.less {K K' : Nat → Prop} {w : World} {p bb : Nat} {V : PV} {VD : DV} (h : PD K w p V bb VD) (hK : ∀ b, K' b → K b) : PD K' w p V bb VD := by
  obtain ⟨⟨S, T, hv, ht, ha, hok, hd, hdok, h1, h2⟩, hl⟩ := h
  exact ⟨⟨S, T, hv, ht, ha, hok, hd, hdok, fun b hb => ⟨fun hk => (h1 b hb).1 (hK b hk), (h1 b hb).2⟩, fun b hb hk => h2 b hb (hK b hk)⟩, fun b hb => hl b (hK b hb)⟩
theorem PD.bounds {K : Nat → Prop} {w : World} {p bb : Nat} {V : PV} {VD : DV} (h : PD K w p V bb VD) : V.many ≤ 1048576 ∧ VD.n ≤ 1099511627776 ∧ 0 ≤ VD.n ∧ (∀ x q, V.pg x = some q → 0 ≤ x ∧ x < V.many ∧ q.2.length = 500) ∧ V.tn ≤ 1048576 := by
  obtain ⟨⟨S, T, rfl, rfl, ha, hok, hd, hdok, h1, h2⟩, hl⟩ := h
  refine ⟨hok.manyM, hdok.nM, hdok.n0, fun x q hx => ?_, hok.tnLe⟩
  have hx' : S.pg x = some q := hx
  have hb := hok.pgB x (by rw [hx']; simp)
  have := hok.nextM
  exact ⟨hb.1, by show x < S.many; omega, (ha.page x q.1 q.2 hx').2⟩
/-- What Flush leaves. -/
def FlushR (K : Nat → Prop) (p : Nat) (V : PV) (bb : Nat) (VD : DV) (w : World) (e : Ending) (w' : World) : Prop :=
  ∃ ks, TakenK V ks ∧ e = .returned (errV (flushD V.frm (ks.map fun x => (x, V.bytes x)) VD).1) ∧ PD K w' p V bb (flushD V.frm (ks.map fun x => (x, V.bytes x)) VD).2 ∧ Kept K w w'

set_option maxHeartbeats 4000000 in
set_option maxRecDepth 100000 in
theorem flush_v {K : Nat → Prop} {w : World} {p bb : Nat} {V : PV} {VD : DV} (h : PD K w p V bb VD) (db : Nat) (hd : V.d = .pointer (some ⟨db, 0, none⟩)) (hdb : w.cell? ⟨db, 0, none⟩ = some (.pointer (some ⟨bb, 0, none⟩))) (kdb : K db) (k0 : K 0) (hn : Nib w) (h0 : 0 < w.heap.size)
    (hf0 : 0 ≤ V.frm) (hfM : V.frm + V.many ≤ VD.n) (hwl : VD.wait.length ≤ 100000000) :
    Calls Tryd.prog 49 #[.pointer (some ⟨p, 0, none⟩)] w (FlushR K p V bb VD w) := by
  obtain ⟨hmM, hnM, hn0, hpg, htn⟩ := h.bounds
  obtain ⟨S, hv, ha, hok, hf, hdk⟩ := h.disk
  have c5 := ha.cell.2.2.2.2.2.1
  have hsz : S.tn ≤ 1000000000 := by have := hok.tnLe; omega
  have HS := Lib.hid (sortedT_any w S.tb S.tn (pageF S.pg) ha.tm hsz)
  have H := Lib.hid h
  have HN := Lib.hid hn
  have HV := Lib.hid hv
  have HPG := Lib.hid hpg
  have HD := Lib.hid hd
  clear h hn hdk ha hok hf hpg hd hv
  go_enter Tryd.func49, Tryd.ntmps49
  go_wp2_with fail
  refine (keysT_any (some S.tb) w).mono ?_
  rintro e w1 ⟨rfl, rfl⟩
  go_wp2_with fail
  refine HS.out.mono ?_
  rintro e w1 ⟨A, c, ks, rfl, hks, hkc, hcell, hb1⟩
  have htk : TakenK V ks := ⟨hks.1, fun x => by
    rw [hks.2]
    have e : V.pg = S.pg := by rw [← HV.out]; rfl
    rw [e]
    constructor
    · rintro ⟨_, h2⟩ h3
      unfold pageF at h2
      rw [h3] at h2
      cases h2
    · intro h2
      have h3 : V.pg x ≠ none := by rw [e]; exact h2
      cases hx : V.pg x with
      | none => exact absurd hx h3
      | some q =>
        have hb := HPG.out x q hx
        refine ⟨i64_of (by omega) (by omega), ?_⟩
        unfold pageF
        rw [e] at hx
        rw [hx]; rfl⟩
  have hlen : ks.length ≤ 1048576 := pigeon 1048576 ks (hks.1.imp fun h => by omega) fun x hx => by
    cases hq : V.pg x with
    | none => exact absurd hq ((htk.2 x).1 hx)
    | some q => have := HPG.out x q hq; omega
  have HTK := Lib.hid htk
  have HCELL := Lib.hid hcell
  have HB1 := Lib.hid hb1
  have hs1 := hb1.size
  have H1 := Lib.hid (H.out.more (K' := fun b => K b ∨ (w.heap.size ≤ b ∧ b < w1.heap.size)) hb1 fun b hb => hb)
  have hKlt : ∀ b, K b → b < w.heap.size := H.out.lt
  have HKL := Lib.hid hKlt
  clear hks htk hcell hb1 hKlt HS c5 HV
  go_wp2_with fail
  go_loopw [13] (fun s13 wr => ∃ (k : Nat) (VDk : DV), k ≤ ks.length ∧ s13 = .int .i64 k ∧ PD (fun b => K b ∨ (w.heap.size ≤ b ∧ b < w1.heap.size)) wr p V bb VDk ∧ Kept (fun b => K b ∨ (w.heap.size ≤ b ∧ b < w1.heap.size)) w1 wr ∧ VDk.n = VD.n ∧ VDk.wait.length ≤ 100000000 + k ∧
    flushD V.frm ((ks.drop k).map fun x => (x, V.bytes x)) VDk = flushD V.frm (ks.map fun x => (x, V.bytes x)) VD) (fun s13 _ => ks.length - (intOf s13).toNat)
  case atStart => exact ⟨0, VD, Nat.zero_le _, rfl, H1.out, Kept.refl _ _, rfl, by omega, rfl⟩
  case round =>
    obtain ⟨k, VDk, hk, rfl, hpd, hkp, hnk, hwk, hfl⟩ := hrel
    have HFL := Lib.hid hfl
    have HKP := Lib.hid hkp
    have HNK := Lib.hid hnk
    have HPD := Lib.hid hpd
    clear hfl hkp hnk hpd
    have hkw : Kept K w wr := (Kept.of_below HB1.out HKL.out).trans (HKP.out.mono fun b hb => .inl hb)
    have HKW := Lib.hid hkw
    clear hkw
    by_cases hlt : k < ks.length
    · obtain ⟨gs, rfl, hgs, hcs⟩ := HCELL.out (by omega)
      have hgs1 : gs < w1.heap.size := cell_lt (hcs 0 (by omega))
      have hcx : wr.cell? ⟨gs, k, none⟩ = some (.int .i64 (ks.getD k 0)) := (World.cell?_of_block (HKP.out.block gs hgs1 fun hn => hn (.inr ⟨hgs, hgs1⟩))).trans (hcs k hlt)
      have hmem : ks.getD k 0 ∈ ks := by rw [List.getD_eq_getElem?_getD, List.getElem?_eq_getElem hlt]; exact List.getElem_mem hlt
      have hdrop : ks.drop k = ks.getD k 0 :: ks.drop (k + 1) := by rw [List.drop_eq_getElem_cons hlt, List.getD_eq_getElem?_getD, List.getElem?_eq_getElem hlt]; rfl
      have hwkk : IntKind.i64.wrap ((k : Int) + 1) = (k : Int) + 1 := IntWalk.i64_in _ (by omega)
      obtain ⟨q, hq⟩ : ∃ q, V.pg (ks.getD k 0) = some q := by
        cases hq : V.pg (ks.getD k 0) with
        | none => exact absurd hq ((HTK.out.2 _).1 hmem)
        | some q => exact ⟨q, rfl⟩
      obtain ⟨hx0, hxM, hql⟩ := HPG.out _ q hq
      have hbytes : V.bytes (ks.getD k 0) = q.2 := by unfold PV.bytes; rw [hq]
      have HDR := Lib.hid hdrop
      have HBY := Lib.hid hbytes
      clear hcs hmem hdrop hbytes
      obtain ⟨n, hn⟩ := Int.eq_ofNat_of_zero_le hx0
      generalize ks.getD k 0 = x at *
      subst hn
      have HX := Lib.hid hq
      have HQL := Lib.hid hql
      obtain ⟨S2, hv2, ha2, hok2, hf2, hdk2⟩ := HPD.out.disk
      obtain ⟨g, l⟩ := q
      have hq2 : S2.pg (n : Int) = some (g, l) := by
        have e : V.pg = S2.pg := by rw [← hv2]; rfl
        rw [← e]; exact hq
      have hSf : ∀ W : World, (∀ b, S2.fp p b → W.heap[b]? = wr.heap[b]?) → W.cell? ⟨p, 0, none⟩ = some (.pointer (some ⟨db, 0, none⟩)) ∧ W.cell? ⟨p, 1, none⟩ = some (.int .i64 V.frm) ∧ W.cell? ⟨p, 5, none⟩ = some (.map (some S2.tb)) ∧
          (Instr.lookup 88 (.map (some S2.tb)) (.int .i64 (n : Int)) false).run Tryd.prog W = .ok (.slice (some ⟨g, 0, none⟩) 500 500) W := fun W hW => by
        have haW := ha2.keep hW
        obtain ⟨a0, a1, a2, a3, a4, a5, a6, a7⟩ := haW.cell
        have e0 : S2.d = V.d := by rw [← hv2]; rfl
        have e1 : S2.frm = V.frm := by rw [← hv2]; rfl
        refine ⟨by rw [a0, e0, HD.out], by rw [a1, e1], a5, ?_⟩
        rw [haW.tm.look Tryd.underlying88 (z := .slice none 0 0) (by kernel_rfl) (i64_of (by omega) (by omega))]
        unfold pageF
        rw [hq2]
        rfl
      have HSF := Lib.hid hSf
      have hpage : Byt wr wr.heap.size (some ⟨g, 0, none⟩) l := ((byt_blk (ha2.page _ g l hq2).1).more (Nat.succ_le_of_lt (ha2.page _ g l hq2).1.lt))
      have hll : l.length = 500 := hql
      have hnib : Nib wr := fun i hi => (World.cell?_of_block (HKW.out.block 0 h0 fun hn => hn k0)).trans (HN.out i hi)
      have h0r : 0 < wr.heap.size := Nat.lt_of_lt_of_le h0 HKW.out.size
      have hlay : ∀ W : World, Below wr.heap.size wr W → Calls Tryd.prog 71 #[.int .i64 (n : Int), .slice (some ⟨g, 0, none⟩) 500 500] W fun e w' => ∃ A', e = .returned (.slice A' 512 512) ∧ Byt w' w'.heap.size A' (layB n l) ∧ Below W.heap.size W w' := fun W hW => by
        have h3 := lay_any n wr.heap.size (some ⟨g, 0, none⟩) 500 l W (by omega) (hpage.below hW) hW.size (hnib.below hW h0r) (Nat.lt_of_lt_of_le h0r hW.size) (by omega)
        rw [hll] at h3
        refine h3.mono ?_
        rintro e w2 ⟨A2, rfl, hfr, hbl⟩
        exact ⟨A2, by rw [layB_length n l hll], hfr.byt, hbl⟩
      have HLAY := Lib.hid hlay
      have HDK := Lib.hid hdk2
      have HA2 := Lib.hid (And.intro ha2 (And.intro hok2 (And.intro hf2 hv2)))
      have hwf : IntKind.i64.wrap (V.frm + (n : Int)) = V.frm + n := IntWalk.i64_in _ (by omega)
      have hdbr : wr.cell? ⟨db, 0, none⟩ = some (.pointer (some ⟨bb, 0, none⟩)) := (World.cell?_of_block (HKW.out.block db (cell_lt hdb) fun hn => hn kdb)).trans hdb
      have HDB := Lib.hid hdbr
      have hKK : ∀ b, S2.fp p b → b < wr.heap.size := fun b hb => ha2.lt hb
      have HKK := Lib.hid hKK
      clear hSf hpage hlay hdk2 ha2 hok2 hf2 hv2 hdbr hKK hq hq2 hnib
      rcases hdn : VDk.down with _ | _
      · have HDN := Lib.hid hdn
        clear hdn
        go_wp2_with fail
        go_region_held3 (fun W => W.cell? ⟨p, 0, none⟩ = some (.pointer (some ⟨db, 0, none⟩)) ∧ W.cell? ⟨p, 1, none⟩ = some (.int .i64 V.frm) ∧ W.cell? ⟨p, 5, none⟩ = some (.map (some S2.tb)) ∧ (Instr.lookup 88 (.map (some S2.tb)) (.int .i64 (n : Int)) false).run Tryd.prog W = .ok (.slice (some ⟨g, 0, none⟩) 500 500) W)
          (first | exact HSF.out _ (fun _ _ => rfl) | exact HSF.out _ (fun b hb => HB3.out.block b (HKK.out b hb)) | exact HSF.out _ (fun b hb => (HK4.out.block b (HKK.out b hb) fun hn => hn (.inr hb))))
          (first
            | (go_at_call 71; refine (HLAY.out _ (by exact ⟨rfl, rfl, rfl, Nat.le_refl _, fun _ _ => rfl⟩)).mono ?_; rintro e w3 ⟨A3, rfl, hby3, hb3⟩; have HBY3 := Lib.hid hby3; have HB3 : Hid (Below wr.heap.size wr w3) := Lib.hid ⟨hb3.os, hb3.tape, hb3.output, hb3.size, hb3.block⟩; clear hby3 hb3)
            | (go_at_call 66; refine (dwrite_v (HDK.out.keep HB3.out) (V.frm + n) db w3.heap.size A3 512 (layB n l) HBY3.out (Nat.le_refl _) (layB_length n l HQL.out) (by omega) (by rw [HNK.out]; omega) HDN.out (by omega) ((HB3.out.cell (p := ⟨db, 0, none⟩) (cell_lt HDB.out)).trans HDB.out) (.inl (.inl kdb))).mono ?_; rintro e w4 ⟨rfl, hd4, hk4⟩; have HD4 := Lib.hid hd4; have HK4 : Hid (Kept (fun b => (K b ∨ (w.heap.size ≤ b ∧ b < w1.heap.size)) ∨ S2.fp p b) wr w4) := Lib.hid ((Kept.of_below HB3.out HDK.out.lt).trans hk4); clear hd4 hk4))
        obtain ⟨hA1, hA2, hA3, hA4⟩ := HA2.out
        have hpd4 : PD (fun b => K b ∨ (w.heap.size ≤ b ∧ b < w1.heap.size)) w4 p V bb (VDk.act fun V' => V'.put (V.frm + n) (layB n l)).2 := by
          rw [← hA4]
          exact PD.of_disk hA1 hA2 hA3 HK4.out (by rw [hA4]; exact HD4.out)
        have HPD4 := Lib.hid hpd4
        have HAN := Lib.hid (act_put_n (V := VDk) (x := V.frm + n) (l := layB n l))
        clear hA1 hA2 hA3 hA4 hpd4 HD4 HA2 HLAY HSF
        rcases hr : (VDk.act fun V' => V'.put (V.frm + n) (layB n l)).1 with _ | _
        · have HR := Lib.hid hr
          clear hr
          have hev : errV false = .nilIface := rfl
          rw [hev]
          go_wp2_with fail
          refine ⟨⟨k + 1, _, by omega, by go_num, HPD4.out, HKP.out.trans (HK4.out.mono fun b hb => .inl hb), HAN.out.1.trans HNK.out, by have := HAN.out.2; omega, ?_⟩, by simp [intOf]; omega⟩
          have h3 := HFL.out
          rw [HDR.out, List.map_cons, HBY.out, flushD_good HDN.out HR.out] at h3
          exact h3
        · have HR := Lib.hid hr
          clear hr
          have hev : errV true = .iface 24 (.int .i64 5) := rfl
          rw [hev]
          go_wp2_with fail
          go_ret
          have h3 := HFL.out
          rw [HDR.out, List.map_cons, HBY.out, flushD_bad HDN.out HR.out] at h3
          refine ⟨ks, HTK.out, by rw [← h3]; rfl, ?_, HKW.out.trans (HK4.out.mono fun b hb => .inl (.inl hb))⟩
          rw [← h3]
          exact HPD4.out.less fun b hb => .inl hb
      · have HDN := Lib.hid hdn
        clear hdn
        go_wp2_with fail
        go_region_held3 (fun W => W.cell? ⟨p, 0, none⟩ = some (.pointer (some ⟨db, 0, none⟩)) ∧ W.cell? ⟨p, 1, none⟩ = some (.int .i64 V.frm) ∧ W.cell? ⟨p, 5, none⟩ = some (.map (some S2.tb)) ∧ (Instr.lookup 88 (.map (some S2.tb)) (.int .i64 (n : Int)) false).run Tryd.prog W = .ok (.slice (some ⟨g, 0, none⟩) 500 500) W)
          (first | exact HSF.out _ (fun _ _ => rfl) | exact HSF.out _ (fun b hb => HB3.out.block b (HKK.out b hb)) | exact HSF.out _ (fun b hb => HB4.out.block b (HKK.out b hb)))
          (first
            | (go_at_call 71; refine (HLAY.out _ (by exact ⟨rfl, rfl, rfl, Nat.le_refl _, fun _ _ => rfl⟩)).mono ?_; rintro e w3 ⟨A3, rfl, hby3, hb3⟩; have HB3 : Hid (Below wr.heap.size wr w3) := Lib.hid ⟨hb3.os, hb3.tape, hb3.output, hb3.size, hb3.block⟩; clear hby3 hb3)
            | (go_at_call 66; refine (dwrite_down (HDK.out.keep HB3.out) (V.frm + n) _ db HDN.out ((HB3.out.cell (p := ⟨db, 0, none⟩) (cell_lt HDB.out)).trans HDB.out)).mono ?_; rintro e w4 ⟨rfl, hb4⟩; have HB4 : Hid (Below wr.heap.size wr w4) := Lib.hid (HB3.out.trans (hb4.mono HB3.out.size)); clear hb4))
        clear HA2 HLAY HSF
        go_wp2_with fail
        go_ret
        have h3 := HFL.out
        rw [HDR.out, List.map_cons, flushD_down HDN.out] at h3
        refine ⟨ks, HTK.out, by rw [← h3]; rfl, ?_, HKW.out.trans (Kept.of_below HB4.out fun b hb => Nat.lt_of_lt_of_le (HKL.out b hb) HKW.out.size)⟩
        rw [← h3]
        exact (HPD.out.keep HB4.out).less fun b hb => .inl hb
    · obtain rfl : k = ks.length := by omega
      go_wp2_with fail
      go_ret
      have h3 := HFL.out
      rw [List.drop_length] at h3
      refine ⟨ks, HTK.out, by rw [← h3]; rfl, ?_, HKW.out⟩
      rw [← h3]
      exact HPD.out.less fun b hb => .inl hb
end Go.Proofs.YteediemhcocgdaaDoor
