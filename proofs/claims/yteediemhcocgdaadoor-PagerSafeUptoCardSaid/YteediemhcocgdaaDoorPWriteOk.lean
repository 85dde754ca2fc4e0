/-
  pager's Pool: Write where it is carried out.
-/
import Derived.Test.YteediemhcocgdaaDoorPWrite
namespace Go.Proofs.YteediemhcocgdaaDoor
open Go.RowKit

/-- The page behind a write. -/
def wrote (m : List UInt8) : List UInt8 := m ++ zeros (500 - m.length)
theorem wrote_length (m : List UInt8) (h : m.length ≤ 500) : (wrote m).length = 500 := by
  unfold wrote zeros
  rw [List.length_append, List.length_replicate]
  omega
theorem wrote_cells (m : List UInt8) (cs : List Value) (h : m.length ≤ 500) (hc : cs.length = 500) : (m.map cu8 ++ cs.drop m.length).take m.length ++ List.replicate (500 - m.length) (Value.int .u8 0) ++ (m.map cu8 ++ cs.drop m.length).drop (m.length + (500 - m.length)) = (wrote m).map cu8 := by
  have h1 : (m.map cu8 ++ cs.drop m.length).take m.length = m.map cu8 := by
    rw [List.take_append_of_le_length (by simp), List.take_of_length_le (by simp)]
  have h2 : (m.map cu8 ++ cs.drop m.length).drop (m.length + (500 - m.length)) = [] := by
    apply List.drop_eq_nil_of_le
    simp
    omega
  rw [h1, h2, List.append_nil]
  unfold wrote zeros
  rw [List.map_append, List.map_replicate]
  rfl

set_option maxRecDepth 100000 in
theorem pwrite_mid (p : Nat) (S : PoolS) (x : Int) (g : Nat) (l : List UInt8) (B : Nat) (A : Option Addr) (c : Nat) (m : List UInt8) (w : World) (h : PoolAt w p S) (hx : I64 x) (hp : S.pg x = some (g, l)) (hb : Byt w B A m) (h0 : 0 < m.length) (h5 : m.length < 500) :
    Calls Tryd.prog 47 #[.pointer (some ⟨p, 0, none⟩), .int .i64 x, .slice A m.length c] w fun e w' => e = .returned (.int .i64 0) ∧ Blk w' g 5 ((wrote m).map cu8) ∧ Turn (fun b => b = g) w w' := by
  obtain ⟨c0, c1, c2, c3, c4, c5, c6, c7⟩ := h.cell
  have hlt := h.lookT hx 0
  rw [show w.drewN 0 = w from rfl] at hlt
  have hpp : pageF S.pg x = some (.slice (some ⟨g, 0, none⟩) 500 500) := by unfold pageF; rw [hp]; rfl
  rw [hpp] at hlt
  obtain ⟨hblk, hlen⟩ := h.page x g l hp
  obtain ⟨b2, off2, rfl, hb2, hc⟩ := hb h0
  have hsrc : ∀ j v, (m.map cu8)[j]? = some v → w.cell? ((⟨b2, off2, none⟩ : Addr).add j) = some v := by
    intro j v hj
    rw [List.getElem?_map] at hj
    obtain ⟨y, hy, rfl⟩ := Option.map_eq_some_iff.1 hj
    have hjl : j < m.length := (List.getElem?_eq_some_iff.1 hy).1
    have := hc j hjl
    rw [List.getD_eq_getElem?_getD, hy] at this
    rw [show ((⟨b2, off2, none⟩ : Addr).add j) = ⟨b2, off2 + j, none⟩ by unfold Addr.add; split <;> simp_all]
    exact this
  have hmin : (m.map cu8).length = Nat.min m.length 500 := by rw [List.length_map]; exact (Nat.min_eq_left (by omega)).symm
  have HB := Lib.hid hblk
  have hsz : (Tryd.prog.info? 5).map (·.size) = some 1 := by kernel_rfl
  clear h hp hpp hblk hc
  go_enter Tryd.func47, Tryd.ntmps47
  have hfit : 0 + (m.map cu8).length ≤ (l.map cu8).toArray.size := by simp; omega
  have hone : ∀ v ∈ m.map cu8, v.oneCell' = true := by simp [cu8, Value.oneCell']
  have hfit2 : m.length + (500 - m.length) ≤ (m.map cu8 ++ (l.map cu8).drop m.length).length := by rw [List.length_append, List.length_map, List.length_drop, List.length_map]; omega
  have hwc := wrote_cells m (l.map cu8) (by omega) (by rw [List.length_map]; exact hlen)
  have HWC := Lib.hid hwc
  have HF2 := Lib.hid hfit2
  have HLE := Lib.hid hlen
  clear hlen hfit2 hwc
  go_wp2_with (refine wpList_copy_own rfl (.tmp 28) (.tmp 29) 23 23 rfl 5 Tryd.underlying23 hsz g 0 500 500 ⟨b2, off2, none⟩ m.length c rfl rfl (l.map cu8).toArray 5 HB.out (m.map cu8) hmin hsrc hfit hone ?_; rw [List.length_map]; obtain ⟨w1, hw1⟩ : ∃ w1, w1 = w.setRow g ((l.map cu8).toArray.toList.take 0 ++ (m.map cu8 ++ (l.map cu8).toArray.toList.drop (0 + m.length))).toArray := ⟨_, rfl⟩; rw [← hw1]; have hblk1 : Blk w1 g 5 (m.map cu8 ++ (l.map cu8).drop m.length) := (by rw [hw1]; have hs := setRow_heap w g (l.map cu8).toArray (m.map cu8 ++ (l.map cu8).drop m.length).toArray 5 (0, 0) HB.out; simpa [Blk] using hs); have hT1 : Turn (fun b => b = g) w w1 := (by rw [hw1]; exact ⟨rfl, rfl, rfl, by simp [World.setRow], fun b hb hn => setRow_other w g b _ hn⟩); have hcl := run_clear_bytes w1 g m.length (500 - m.length) (500 - m.length) _ 0 hblk1 HF2.out; rw [HWC.out] at hcl; have hbl2 : Blk (w1.setRow g ((wrote m).map cu8).toArray) g 5 ((wrote m).map cu8) := setRow_heap w1 g _ ((wrote m).map cu8).toArray 5 (0, 0) hblk1; have HB2 := Lib.hid hbl2; have hT2 : Turn (fun b => b = g) w (w1.setRow g ((wrote m).map cu8).toArray) := hT1.trans (fq := fun b => b = g) ⟨rfl, rfl, rfl, by simp [World.setRow], fun b hb hn => setRow_other w1 g b _ hn⟩ (fun b hb => .inl hb); have HT2 := Lib.hid hT2; clear hw1 hblk1 hT1 hbl2 hT2)
  go_ret
  exact ⟨rfl, HB2.out, HT2.out⟩

set_option maxRecDepth 100000 in
theorem pwrite_full (p : Nat) (S : PoolS) (x : Int) (g : Nat) (l : List UInt8) (B : Nat) (A : Option Addr) (c : Nat) (m : List UInt8) (w : World) (h : PoolAt w p S) (hx : I64 x) (hp : S.pg x = some (g, l)) (hb : Byt w B A m) (h5 : m.length = 500) :
    Calls Tryd.prog 47 #[.pointer (some ⟨p, 0, none⟩), .int .i64 x, .slice A 500 c] w fun e w' => e = .returned (.int .i64 0) ∧ Blk w' g 5 ((wrote m).map cu8) ∧ Turn (fun b => b = g) w w' := by
  obtain ⟨c0, c1, c2, c3, c4, c5, c6, c7⟩ := h.cell
  have hlt := h.lookT hx 0
  rw [show w.drewN 0 = w from rfl] at hlt
  have hpp : pageF S.pg x = some (.slice (some ⟨g, 0, none⟩) 500 500) := by unfold pageF; rw [hp]; rfl
  rw [hpp] at hlt
  obtain ⟨hblk, hlen⟩ := h.page x g l hp
  obtain ⟨b2, off2, rfl, hb2, hc⟩ := hb (by omega)
  have hsrc : ∀ j v, (m.map cu8)[j]? = some v → w.cell? ((⟨b2, off2, none⟩ : Addr).add j) = some v := by
    intro j v hj
    rw [List.getElem?_map] at hj
    obtain ⟨y, hy, rfl⟩ := Option.map_eq_some_iff.1 hj
    have hjl : j < m.length := (List.getElem?_eq_some_iff.1 hy).1
    have := hc j hjl
    rw [List.getD_eq_getElem?_getD, hy] at this
    rw [show ((⟨b2, off2, none⟩ : Addr).add j) = ⟨b2, off2 + j, none⟩ by unfold Addr.add; split <;> simp_all]
    exact this
  have hmin : (m.map cu8).length = Nat.min 500 500 := by rw [List.length_map]; exact h5
  have HB := Lib.hid hblk
  have hsz : (Tryd.prog.info? 5).map (·.size) = some 1 := by kernel_rfl
  clear h hp hpp hblk hc
  have hfit : 0 + (m.map cu8).length ≤ (l.map cu8).toArray.size := by simp; omega
  have hone : ∀ v ∈ m.map cu8, v.oneCell' = true := by simp [cu8, Value.oneCell']
  have hfit2 : 0 + 0 ≤ (m.map cu8 ++ (l.map cu8).drop m.length).length := by omega
  have hwc : m.map cu8 ++ (l.map cu8).drop m.length = (wrote m).map cu8 := by
    have := wrote_cells m (l.map cu8) (by omega) (by rw [List.length_map]; exact hlen)
    rw [show 500 - m.length = 0 by omega] at this
    simpa using this
  have HWC := Lib.hid hwc
  have HF2 := Lib.hid hfit2
  have HLE := Lib.hid hlen
  have H5 := Lib.hid h5
  clear hlen hfit2 hwc h5
  have hgo : goInt (m.map cu8).length = .int .i64 500 := by rw [List.length_map, H5.out]; rfl
  have HGO := Lib.hid hgo
  clear hgo
  go_enter Tryd.func47, Tryd.ntmps47
  go_wp2_with (refine wpList_copy_own rfl (.tmp 28) (.tmp 29) 23 23 rfl 5 Tryd.underlying23 hsz g 0 500 500 ⟨b2, off2, none⟩ 500 c rfl rfl (l.map cu8).toArray 5 HB.out (m.map cu8) hmin hsrc hfit hone ?_; rw [HGO.out]; rw [List.length_map]; obtain ⟨w1, hw1⟩ : ∃ w1, w1 = w.setRow g ((l.map cu8).toArray.toList.take 0 ++ (m.map cu8 ++ (l.map cu8).toArray.toList.drop (0 + m.length))).toArray := ⟨_, rfl⟩; rw [← hw1]; have hblk1 : Blk w1 g 5 ((wrote m).map cu8) := (by rw [hw1, ← HWC.out]; have hs := setRow_heap w g (l.map cu8).toArray (m.map cu8 ++ (l.map cu8).drop m.length).toArray 5 (0, 0) HB.out; simpa [Blk] using hs); have hT1 : Turn (fun b => b = g) w w1 := (by rw [hw1]; exact ⟨rfl, rfl, rfl, by simp [World.setRow], fun b hb hn => setRow_other w g b _ hn⟩); have hcl : (Builtin.clear_ #[23] 0 #[.slice (some ⟨g, 0, none⟩) 0 0]).run Tryd.prog w1 = .ok (.tuple #[]) w1 := (by simp [Builtin.clear_, run_underlying Tryd.underlying23, Result.andThen]); have HB2 := Lib.hid hblk1; have HT2 := Lib.hid hT1; clear hw1 hblk1 hT1)
  go_ret
  exact ⟨rfl, HB2.out, HT2.out⟩

set_option maxRecDepth 100000 in
theorem pwrite_empty (p : Nat) (S : PoolS) (x : Int) (g : Nat) (l : List UInt8) (A : Option Addr) (c : Nat) (w : World) (h : PoolAt w p S) (hx : I64 x) (hp : S.pg x = some (g, l)) :
    Calls Tryd.prog 47 #[.pointer (some ⟨p, 0, none⟩), .int .i64 x, .slice A 0 c] w fun e w' => e = .returned (.int .i64 0) ∧ Blk w' g 5 ((wrote []).map cu8) ∧ Turn (fun b => b = g) w w' := by
  obtain ⟨c0, c1, c2, c3, c4, c5, c6, c7⟩ := h.cell
  have hlt := h.lookT hx 0
  rw [show w.drewN 0 = w from rfl] at hlt
  have hpp : pageF S.pg x = some (.slice (some ⟨g, 0, none⟩) 500 500) := by unfold pageF; rw [hp]; rfl
  rw [hpp] at hlt
  obtain ⟨hblk, hlen⟩ := h.page x g l hp
  have hcp : (Builtin.copy_ #[23, 23] 3 #[.slice (some ⟨g, 0, none⟩) 500 500, .slice A 0 c]).run Tryd.prog w = .ok (.int .i64 0) w := run_copy_none w 23 23 3 5 _ _ _ _ _ _ Tryd.underlying23 (by kernel_rfl) rfl
  have hcl := run_clear_bytes w g 0 500 500 _ 0 hblk (by rw [List.length_map, hlen]; exact Nat.le_refl _)
  have hcells : ((l.map cu8).take 0 ++ List.replicate 500 (Value.int .u8 0) ++ (l.map cu8).drop (0 + 500)) = (wrote []).map cu8 := by
    have := wrote_cells [] (l.map cu8) (by simp) (by rw [List.length_map]; exact hlen)
    simpa using this
  rw [hcells] at hcl
  have HB2 : Hid (Blk (w.setRow g ((wrote []).map cu8).toArray) g 5 ((wrote []).map cu8)) := Lib.hid (setRow_heap w g _ ((wrote []).map cu8).toArray 5 (0, 0) hblk)
  have HT2 : Hid (Turn (fun b => b = g) w (w.setRow g ((wrote []).map cu8).toArray)) := Lib.hid ⟨rfl, rfl, rfl, by simp [World.setRow], fun b hb hn => setRow_other w g b _ hn⟩
  clear h hp hpp hblk hlen hcells
  go_enter Tryd.func47, Tryd.ntmps47
  go_wp2_with fail
  go_ret
  exact ⟨rfl, HB2.out, HT2.out⟩

/-- Write, carried out. -/
theorem pwrite_ok (p : Nat) (S : PoolS) (x : Int) (g : Nat) (l : List UInt8) (B : Nat) (A : Option Addr) (c : Nat) (m : List UInt8) (w : World) (h : PoolAt w p S) (hx : I64 x) (hp : S.pg x = some (g, l)) (hb : Byt w B A m) (h5 : m.length ≤ 500) :
    Calls Tryd.prog 47 #[.pointer (some ⟨p, 0, none⟩), .int .i64 x, .slice A m.length c] w fun e w' => e = .returned (.int .i64 0) ∧ Blk w' g 5 ((wrote m).map cu8) ∧ Turn (fun b => b = g) w w' := by
  by_cases h0 : m.length = 0
  · have := pwrite_empty p S x g l A c w h hx hp
    obtain rfl : m = [] := List.eq_nil_of_length_eq_zero h0
    exact this
  · by_cases h6 : m.length = 500
    · have := pwrite_full p S x g l B A c m w h hx hp hb h6
      rw [h6]
      exact this
    · exact pwrite_mid p S x g l B A c m w h hx hp hb (by omega) (by omega)

/-- The pool with other bytes in a page. -/
def PoolS.wr (S : PoolS) (x : Int) (g : Nat) (m : List UInt8) : PoolS := { S with pg := fun y => if y = x then some (g, wrote m) else S.pg y }
theorem PoolAt.wrote {w w1 : World} {p : Nat} {S : PoolS} {x : Int} {g : Nat} {l m : List UInt8} (h : PoolAt w p S) (hx : S.pg x = some (g, l)) (hm : m.length ≤ 500) (hb : Blk w1 g 5 ((Go.Proofs.YteediemhcocgdaaDoor.wrote m).map cu8)) (ht : Turn (fun b => b = g) w w1) : PoolAt w1 p (S.wr x g m) := by
  have hg := (h.page x g l hx).1
  have hk : ∀ b, b < w.heap.size → b ≠ g → w1.heap[b]? = w.heap[b]? := fun b h0 h1 => ht.block b h0 h1
  have hpg : pageF (S.wr x g m).pg = pageF S.pg := by
    funext y
    unfold pageF PoolS.wr
    dsimp only
    by_cases e : y = x
    · rw [if_pos e, e, hx]; rfl
    · rw [if_neg e]
  have htm : MapV w1 S.tb (pageF (S.wr x g m).pg) S.tn := by rw [hpg]; exact h.tm.keep (hk _ h.tm.lt (fun e => blk_map h.tm hg e.symm))
  refine ⟨(hk p h.blk.lt (fun e => blk_type hg h.blk (by decide) e.symm)).trans h.blk, h.row.keep fun b hb => hk b (h.row.lt b hb) (fun e => h.row.ne hg (by decide) (e ▸ hb)), h.heap, htm, h.fm.keep (hk _ h.fm.lt (fun e => blk_map h.fm hg e.symm)), h.lm.keep (hk _ h.lm.lt (fun e => blk_map h.lm hg e.symm)), fun y g' l' hy => ?_, fun y z g' l' m' hy hz => ?_, h.tf, h.tl, h.fl⟩
  · have hy' : (if y = x then some (g, Go.Proofs.YteediemhcocgdaaDoor.wrote m) else S.pg y) = some (g', l') := hy
    by_cases e : y = x
    · rw [if_pos e] at hy'
      cases hy'
      exact ⟨hb, wrote_length m hm⟩
    · rw [if_neg e] at hy'
      obtain ⟨h1, h2⟩ := h.page y g' l' hy'
      exact ⟨(hk g' h1.lt (fun e2 => e (h.inj y x g' l' l hy' (e2 ▸ hx)))).trans h1, h2⟩
  · have hy' : (if y = x then some (g, Go.Proofs.YteediemhcocgdaaDoor.wrote m) else S.pg y) = some (g', l') := hy
    have hz' : (if z = x then some (g, Go.Proofs.YteediemhcocgdaaDoor.wrote m) else S.pg z) = some (g', m') := hz
    by_cases e : y = x <;> by_cases e2 : z = x
    · rw [e, e2]
    · rw [if_pos e] at hy'
      rw [if_neg e2] at hz'
      cases hy'
      exact e.trans (h.inj x z g l m' hx hz')
    · rw [if_neg e] at hy'
      rw [if_pos e2] at hz'
      cases hz'
      exact (h.inj y x g l' l hy' hx).trans e2.symm
    · rw [if_neg e] at hy'
      rw [if_neg e2] at hz'
      exact h.inj y z g' l' m' hy' hz'
theorem PoolOKx.wrote {hi : Int} {S : PoolS} {x : Int} {g : Nat} {l m : List UInt8} (h : PoolOKx hi S) (hx : S.pg x = some (g, l)) : PoolOKx hi (S.wr x g m) := by
  have hne : ∀ y, (S.wr x g m).pg y = none ↔ S.pg y = none := fun y => by
    show (if y = x then some (g, Go.Proofs.YteediemhcocgdaaDoor.wrote m) else S.pg y) = none ↔ _
    by_cases e : y = x
    · rw [if_pos e, e, hx]; simp
    · rw [if_neg e]
  refine ⟨h.next0, h.nextM, h.manyM, fun y => ?_, h.nodup, fun y hy => h.pgB y fun e => hy ((hne y).2 e), h.frB, h.lfB, ?_, h.fnB, h.lnB⟩
  · rw [hne y]
    exact h.given y
  · obtain ⟨q, h1, h2, h3⟩ := h.tnB
    exact ⟨q, h1, fun y => (h2 y).trans (not_congr (hne y)).symm, h3⟩
theorem fp_wr {S : PoolS} {x : Int} {g : Nat} {l m : List UInt8} {p b : Nat} (hx : S.pg x = some (g, l)) (h : (S.wr x g m).fp p b) : S.fp p b := by
  rcases h with h | h | h | h | h | ⟨y, q, h⟩
  · exact .inl h
  · exact .inr (.inl h)
  · exact .inr (.inr (.inl h))
  · exact .inr (.inr (.inr (.inl h)))
  · exact .inr (.inr (.inr (.inr (.inl h))))
  · have h2 : (if y = x then some (g, Go.Proofs.YteediemhcocgdaaDoor.wrote m) else S.pg y) = some (b, q) := h
    by_cases e : y = x
    · rw [if_pos e] at h2
      cases h2
      exact .inr (.inr (.inr (.inr (.inr ⟨x, l, hx⟩))))
    · rw [if_neg e] at h2
      exact .inr (.inr (.inr (.inr (.inr ⟨y, q, h2⟩))))
end Go.Proofs.YteediemhcocgdaaDoor
