/-
  Logs side by side, and rows laid beside them.
-/
import Derived.Test.YteediemhcocgdaaDoorWalUse
import Derived.Test.YteediemhcocgdaaDoorRowsIn
namespace Go.Proofs.YteediemhcocgdaaDoor
open Go.RowKit
open WalP (Stamp secs readR)

/-- A disk of its hand: 'h.Disk()'. -/
theorem Dk.hand {K : Nat → Prop} {w w' : World} {bb : Nat} {V : DV} (h : Dk K w bb V) (hw : w' = w.alloc (.cells #[.pointer (some ⟨bb, 0, none⟩)] 100)) :
    Below w.heap.size w w' ∧ w'.heap.size = w.heap.size + 1 ∧ w'.cell? ⟨w.heap.size, 0, none⟩ = some (.pointer (some ⟨bb, 0, none⟩)) ∧ Dk (fun b => K b ∨ b = w.heap.size) w' bb V := by
  subst hw
  have hb : Below w.heap.size w (w.alloc (.cells #[.pointer (some ⟨bb, 0, none⟩)] 100)) := (Below.refl _ _).alloc (Nat.le_refl _) _
  refine ⟨hb, by simp, (Blk.new w 100 [.pointer (some ⟨bb, 0, none⟩)]).cell 0, h.more hb fun b hx => ?_⟩
  rcases hx with hx | hx
  · exact .inl hx
  · exact .inr ⟨by omega, by rw [hx]; simp⟩
/-- A log that was opened. -/
theorem Lg.opened {K : Nat → Prop} {w w' : World} {bb lg : Nat} {V : DV} {L : LV} {rs : List (List UInt8)} (h : Dk K w bb V) (hdb : w.cell? ⟨L.db, 0, none⟩ = some (.pointer (some ⟨bb, 0, none⟩))) (kd : K L.db) (k0 : K 0) (hl : LaidL L V rs) (hm : L.many ≤ 1073741824) (hf : ((L.frm + L.many : Nat) : Int) ≤ V.n) (hep : L.ep < 2 ^ 48)
    (hd : L.dead = false) (ha : V.armed = false) (hdn : V.down = false) (hn : Nib w) (h0 : 0 < w.heap.size) (hb : Below w.heap.size w w') (hlg : w.heap.size ≤ lg) (hblk : Blk w' lg 105 L.cells) : Lg (fun b => K b ∨ b = lg) w' bb V lg L rs :=
  ⟨h.more hb fun b hx => by
    have := hblk.lt
    rcases hx with hx | hx
    · exact .inl hx
    · exact .inr ⟨by omega, by omega⟩, hblk, (hb.cell (p := ⟨L.db, 0, none⟩) (cell_lt hdb)).trans hdb, hn.below hb h0, Nat.lt_of_lt_of_le h0 hb.size, hl, hm, hf, hep, hd, ha, hdn, .inr rfl, .inl kd, .inl k0⟩
/-- A row that K knows of is appended to. -/
theorem Dk.push {K K' : Nat → Prop} {w w' : World} {bb : Nat} {V : DV} {row : Option Nat} (h : Dk K w bb V) (hg : w.grownBy w' row) (hr : ∀ r, row = some r → K r) (hK : ∀ b, K' b → K b ∨ (w.heap.size ≤ b ∧ b < w'.heap.size)) : Dk K' w' bb V := by
  obtain ⟨⟨S, hv, ha, hok, hf⟩, hl⟩ := h
  refine ⟨⟨S, hv, ha.keep fun b hb => hg.block b (ha.lt hb) fun e => hf b hb (hr b e.symm), hok, fun b hb hk2 => ?_⟩, fun b hb => ?_⟩
  · rcases hK b hk2 with h1 | ⟨h1, _⟩
    · exact hf b hb h1
    · have := ha.lt hb; omega
  · rcases hK b hb with h1 | ⟨_, h1⟩
    · exact Nat.lt_of_lt_of_le (hl b h1) hg.size
    · exact h1
theorem Lg.push {K K' : Nat → Prop} {w w' : World} {bb Bp : Nat} {V : DV} {lb : Nat} {L : LV} {rs : List (List UInt8)} {row : Option Nat} (h : Lg K w bb V lb L rs) (hg : w.grownBy w' row) (hr : ∀ r, row = some r → K r ∧ Bp ≤ r) (hlb : lb < Bp) (hdb : L.db < Bp) (h0 : 0 < Bp)
    (hK : ∀ b, K' b → K b ∨ (w.heap.size ≤ b ∧ b < w'.heap.size)) (hK' : ∀ b, b < Bp → K b → K' b) : Lg K' w' bb V lb L rs := by
  have hb : ∀ b, b < w.heap.size → b < Bp → w'.heap[b]? = w.heap[b]? := fun b hb h1 => hg.block b hb fun e => by
    have := (hr b e.symm).2
    omega
  exact ⟨h.dk.push hg (fun r e => (hr r e).1) hK, (hb lb h.lg.lt hlb).trans h.lg, (World.cell?_of_block (hb L.db (cell_lt h.db) hdb)).trans h.db, fun i hi => (World.cell?_of_block (hb 0 h.w0 h0)).trans (h.nib i hi), Nat.lt_of_lt_of_le h.w0 hg.size, h.laid, h.many, h.fits, h.ep, h.dead, h.armed, h.down, hK' _ hlb h.kl, hK' _ hdb h.kd, hK' _ h0 h.k0⟩
/-- What another log's area holds stays. -/
theorem LaidL.other {L L2 : LV} {b : List UInt8} {V V' : DV} {rs : List (List UInt8)} {k : Nat} (h : LaidL L2 V rs) (ha : V.armed = false) (hs : Steps L b V k V') (hroom : L.used + k ≤ L.many) (hap : L.frm + L.many ≤ L2.frm ∨ L2.frm + L2.many ≤ L.frm) : LaidL L2 V' rs := by
  obtain ⟨a1, a2, a3⟩ := steps_now ha _ _ hs
  have hsame : ∀ j, j < L2.many → V'.now ((L2.frm + j : Nat) : Int) = V.now ((L2.frm + j : Nat) : Int) := fun j hj => a3 _ (by omega)
  have hu := h.used
  refine ⟨h.cnt, h.used, h.cu, ?_, fun i hi hi2 st p hr => ?_⟩
  · obtain ⟨ps, hps⟩ := h.scan
    refine ⟨ps, ?_⟩
    rw [← hps]
    exact scanTo_congr _ fun j hj => hsame j (by omega)
  · rw [hsame i hi2] at hr
    exact h.clean i hi hi2 st p hr
theorem Lg.other {K : Nat → Prop} {w w' : World} {bb : Nat} {V V' : DV} {lb lb2 k : Nat} {L L2 : LV} {b : List UInt8} {rs : List (List UInt8)} (h : Lg K w bb V lb2 L2 rs) (ht : Turn (fun x => ¬ K x ∨ x = lb) w w') (hd : Dk K w' bb V') (hl : lb2 ≠ lb) (hdb : L2.db ≠ lb) (h0 : 0 ≠ lb) (hs : Steps L b V k V') (hroom : L.used + k ≤ L.many)
    (hap : L.frm + L.many ≤ L2.frm ∨ L2.frm + L2.many ≤ L.frm) : Lg K w' bb V' lb2 L2 rs := by
  obtain ⟨a1, _⟩ := steps_now h.armed _ _ hs
  obtain ⟨n1, n2, _⟩ := steps_keeps _ _ hs
  have hb : ∀ x, x < w.heap.size → K x → x ≠ lb → w'.heap[x]? = w.heap[x]? := fun x hx hk hn => ht.block x hx fun h => h.elim (fun h => h hk) hn
  exact ⟨hd, (hb _ h.lg.lt h.kl hl).trans h.lg, (World.cell?_of_block (hb L2.db (cell_lt h.db) h.kd hdb)).trans h.db, fun i hi => (World.cell?_of_block (hb 0 h.w0 h.k0 h0)).trans (h.nib i hi), Nat.lt_of_lt_of_le h.w0 ht.size, h.laid.other h.armed hs hroom hap, h.many, by rw [n1]; exact h.fits, h.ep, h.dead, a1, by rw [n2]; exact h.down, h.kl, h.kd, h.k0⟩
/-- .. where nothing was carried out. -/
theorem Lg.other0 {K : Nat → Prop} {w w' : World} {bb : Nat} {V : DV} {lb lb2 : Nat} {L2 : LV} {rs : List (List UInt8)} (h : Lg K w bb V lb2 L2 rs) (ht : Turn (fun x => ¬ K x ∨ x = lb) w w') (hd : Dk K w' bb V) (hl : lb2 ≠ lb) (hdb : L2.db ≠ lb) (h0 : 0 ≠ lb) : Lg K w' bb V lb2 L2 rs := by
  have hb : ∀ x, x < w.heap.size → K x → x ≠ lb → w'.heap[x]? = w.heap[x]? := fun x hx hk hn => ht.block x hx fun h => h.elim (fun h => h hk) hn
  exact ⟨hd, (hb _ h.lg.lt h.kl hl).trans h.lg, (World.cell?_of_block (hb L2.db (cell_lt h.db) h.kd hdb)).trans h.db, fun i hi => (World.cell?_of_block (hb 0 h.w0 h.k0 h0)).trans (h.nib i hi), Nat.lt_of_lt_of_le h.w0 ht.size, h.laid, h.many, h.fits, h.ep, h.dead, h.armed, h.down, h.kl, h.kd, h.k0⟩
theorem PutAt.turn' {K : Nat → Prop} {W W' : World} {B Bd lb : Nat} {v : Value} {ls : List (List UInt8)} (h : PutAt W B Bd v ls) (ht : Turn (fun x => ¬ K x ∨ x = lb) W W') (hb : Below Bd W W') (hK : ∀ b, v.ownBlock = some b → K b) (hlb : lb < B) : PutAt W' B Bd v ls :=
  h.turn hb fun g hg => ht.block g (h.blk g hg).2 fun hn => by
    rcases hn with hn | hn
    · exact hn (hK g hg)
    · have := (h.blk g hg).1
      omega
end Go.Proofs.YteediemhcocgdaaDoor
