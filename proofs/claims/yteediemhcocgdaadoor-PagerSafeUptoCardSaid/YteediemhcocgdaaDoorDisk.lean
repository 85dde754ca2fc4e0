/-
  A disk in memory: its state, what it means, its view.
-/
import Derived.Test.YteediemhcocgdaaDoorBlk
namespace Go.Proofs.YteediemhcocgdaaDoor
open Go.RowKit

theorem cell_lt {w : World} {a : Addr} {v : Value} (h : w.cell? a = some v) : a.block < w.heap.size := by
  rcases Nat.lt_or_ge a.block w.heap.size with h1 | h1
  · exact h1
  · simp [World.cell?, Array.getElem?_eq_none h1] at h

theorem turn_at (w : World) (g i : Nat) (v : Value) : Turn (fun b => b = g) w (w.setCell ⟨g, i, none⟩ v) := (Turn.refl (fun b => b = g) w).setCell (p := ⟨g, i, none⟩) (.inl rfl) v

/-- A sector's bytes in memory: block, capacity, bytes. -/
abbrev SecV := Nat × Nat × List UInt8
def SecV.val (q : SecV) : Value := .slice (some ⟨q.1, 0, none⟩) 512 q.2.1
/-- .. as they lie. -/
def SecAt (w : World) (q : SecV) : Prop := q.2.2.length = 512 ∧ ∃ cs, Blk w q.1 5 cs ∧ cs.take 512 = q.2.2.map cu8
theorem SecAt.keep {w w' : World} {q : SecV} (h : SecAt w q) (hk : w'.heap[q.1]? = w.heap[q.1]?) : SecAt w' q := by
  obtain ⟨hl, cs, hb, ht⟩ := h
  exact ⟨hl, cs, hk.trans hb, ht⟩
theorem SecAt.lt {w : World} {q : SecV} (h : SecAt w q) : q.1 < w.heap.size := by
  obtain ⟨hl, cs, hb, ht⟩ := h
  exact hb.lt
theorem SecAt.byt {w : World} {q : SecV} (h : SecAt w q) : Byt w w.heap.size (some ⟨q.1, 0, none⟩) q.2.2 := fun hpos => by
  obtain ⟨hl, cs, hb, ht⟩ := h
  refine ⟨q.1, 0, rfl, hb.lt, fun i hi => ?_⟩
  rw [hb.cell, Nat.zero_add]
  have h4 : (cs.take 512)[i]? = (q.2.2.map cu8)[i]? := by rw [ht]
  rw [List.getElem?_take_of_lt (by omega), List.getElem?_map, List.getElem?_eq_getElem hi] at h4
  rw [h4]
  simp [cu8, List.getD, hi]

/-- A row of writes that wait. -/
def wcells (l : List (Int × SecV)) : List Value := l.flatMap fun e => [.int .i64 e.1, e.2.val]
theorem wcells_length (l : List (Int × SecV)) : (wcells l).length = 2 * l.length := by
  induction l with
  | nil => rfl
  | cons x l ih => simp [wcells] at ih ⊢; omega
theorem wcells_append (l m : List (Int × SecV)) : wcells (l ++ m) = wcells l ++ wcells m := by simp [wcells]
def WRow (w : World) (A : Option Addr) (c : Nat) (l : List (Int × SecV)) : Prop := w.ownsRow 0 117 2 (.slice A l.length c) l.length (wcells l)
theorem WRow.nil (w : World) : WRow w none 0 [] := World.ownsRow_nil _ _ _ _
theorem WRow.keep {w w' : World} {A : Option Addr} {c : Nat} {l : List (Int × SecV)} (h : WRow w A c l) (hk : ∀ b, blkOf A = some b → w'.heap[b]? = w.heap[b]?) : WRow w' A c l := by
  refine ⟨h.1, h.2.imp id ?_⟩
  rintro ⟨g, cap, cur, hv, hg, hh, r⟩
  refine ⟨g, cap, cur, hv, hg, (hk g ?_).trans hh, r⟩
  injection hv with hA
  rw [hA]; rfl
theorem WRow.lt {w : World} {A : Option Addr} {c : Nat} {l : List (Int × SecV)} (h : WRow w A c l) : ∀ b, blkOf A = some b → b < w.heap.size := fun b hb =>
  (World.ownsRow.lt h b (by rw [ownBlock_slice]; exact hb)).2
theorem WRow.blk {w : World} {A : Option Addr} {c : Nat} {l : List (Int × SecV)} (h : WRow w A c l) : ∀ b, blkOf A = some b → ∃ cs, Blk w b 117 cs ∧ cs.take (2 * l.length) = wcells l := fun b hb => by
  obtain ⟨_, ⟨hv, h0⟩ | ⟨g, cap, cur, hv, hg, hh, r⟩⟩ := h
  · injection hv with hA
    rw [hA] at hb; cases hb
  · injection hv with hA
    rw [hA] at hb
    cases hb
    refine ⟨cur.toList, by simpa [Blk] using hh, ?_⟩
    have h3 := r.2.2.2
    rw [show 2 * l.length = l.length * 2 by omega]
    exact h3

/-- A disk's state. -/
structure DiskS where
  n : Int
  sb : Nat
  nb : Nat
  sf : Int → Option SecV
  sn : Nat
  nw : Int → Option SecV
  nn : Nat
  wt : List (Int × SecV)
  WA : Option Addr
  wc : Nat
  armed : Bool
  acts : Int
  done : Bool
  down : Bool

def secF (f : Int → Option SecV) : Int → Option Value := fun x => (f x).map SecV.val
def DiskS.cells (S : DiskS) : List Value := [.int .i64 S.n, .map (some S.sb), .map (some S.nb), .slice S.WA S.wt.length S.wc, .bool S.armed, .int .i64 S.acts, .bool S.done, .bool S.down]

structure DiskAt (w : World) (bb : Nat) (S : DiskS) : Prop where
  box : Blk w bb 91 S.cells
  sm : MapV w S.sb (secF S.sf) S.sn
  nm : MapV w S.nb (secF S.nw) S.nn
  ne : S.sb ≠ S.nb
  row : WRow w S.WA S.wc S.wt
  sat : ∀ x q, S.sf x = some q → SecAt w q
  nat : ∀ x q, S.nw x = some q → SecAt w q
  wat : ∀ e ∈ S.wt, SecAt w e.2
structure DiskOK (S : DiskS) : Prop where
  n0 : 0 ≤ S.n
  nM : S.n ≤ 1099511627776
  sB : ∀ x, S.sf x ≠ none → 0 ≤ x ∧ x < S.n
  nB : ∀ x, S.nw x ≠ none → 0 ≤ x ∧ x < S.n
  wB : ∀ e ∈ S.wt, 0 ≤ e.1 ∧ e.1 < S.n
  sC : Card (fun x => S.sf x ≠ none) S.sn
  nC : Card (fun x => S.nw x ≠ none) S.nn
  a0 : 0 ≤ S.acts
  aM : S.acts ≤ 9223372036854775807

/-- The blocks of a disk. -/
def DiskS.fp (S : DiskS) (bb b : Nat) : Prop := b = bb ∨ b = S.sb ∨ b = S.nb ∨ blkOf S.WA = some b ∨ (∃ x q, S.sf x = some q ∧ q.1 = b) ∨ (∃ x q, S.nw x = some q ∧ q.1 = b) ∨ ∃ e ∈ S.wt, e.2.1 = b

theorem DiskAt.keep {w w' : World} {bb : Nat} {S : DiskS} (h : DiskAt w bb S) (hk : ∀ b, S.fp bb b → w'.heap[b]? = w.heap[b]?) : DiskAt w' bb S :=
  ⟨(hk bb (.inl rfl)).trans h.box, h.sm.keep (hk _ (.inr (.inl rfl))), h.nm.keep (hk _ (.inr (.inr (.inl rfl)))), h.ne, h.row.keep fun b hb => hk b (.inr (.inr (.inr (.inl hb)))),
    fun x q hx => (h.sat x q hx).keep (hk _ (.inr (.inr (.inr (.inr (.inl ⟨x, q, hx, rfl⟩)))))), fun x q hx => (h.nat x q hx).keep (hk _ (.inr (.inr (.inr (.inr (.inr (.inl ⟨x, q, hx, rfl⟩))))))),
    fun e he => (h.wat e he).keep (hk _ (.inr (.inr (.inr (.inr (.inr (.inr ⟨e, he, rfl⟩)))))))⟩
theorem DiskAt.lt {w : World} {bb : Nat} {S : DiskS} (h : DiskAt w bb S) {b : Nat} (hb : S.fp bb b) : b < w.heap.size := by
  rcases hb with rfl | rfl | rfl | hb | ⟨x, q, hx, rfl⟩ | ⟨x, q, hx, rfl⟩ | ⟨e, he, rfl⟩
  · exact h.box.lt
  · exact h.sm.lt
  · exact h.nm.lt
  · exact h.row.lt b hb
  · exact (h.sat x q hx).lt
  · exact (h.nat x q hx).lt
  · exact (h.wat e he).lt
theorem DiskAt.below {w w' : World} {bb : Nat} {S : DiskS} (h : DiskAt w bb S) (hb : Below w.heap.size w w') : DiskAt w' bb S := h.keep fun b hf => hb.block b (h.lt hf)
theorem DiskAt.cell {w : World} {bb : Nat} {S : DiskS} (h : DiskAt w bb S) :
    w.cell? ⟨bb, 0, none⟩ = some (.int .i64 S.n) ∧ w.cell? ⟨bb, 1, none⟩ = some (.map (some S.sb)) ∧ w.cell? ⟨bb, 2, none⟩ = some (.map (some S.nb)) ∧ w.cell? ⟨bb, 3, none⟩ = some (.slice S.WA S.wt.length S.wc) ∧
    w.cell? ⟨bb, 4, none⟩ = some (.bool S.armed) ∧ w.cell? ⟨bb, 5, none⟩ = some (.int .i64 S.acts) ∧ w.cell? ⟨bb, 6, none⟩ = some (.bool S.done) ∧ w.cell? ⟨bb, 7, none⟩ = some (.bool S.down) := by
  refine ⟨?_, ?_, ?_, ?_, ?_, ?_, ?_, ?_⟩ <;> exact h.box.cell _
theorem DiskOK.nnLe {S : DiskS} (h : DiskOK S) : S.nn ≤ 1099511627776 := by
  have := h.nC.le (N := 1099511627776) fun x hx => by
    have := h.nB x hx; have := h.nM; omega
  omega
theorem DiskOK.snLe {S : DiskS} (h : DiskOK S) : S.sn ≤ 1099511627776 := by
  have := h.sC.le (N := 1099511627776) fun x hx => by
    have := h.sB x hx; have := h.nM; omega
  omega

/-! ### The view -/
def z512 : List UInt8 := List.replicate 512 0
theorem z512_length : z512.length = 512 := List.length_replicate
structure DV where
  n : Int
  now : Int → List UInt8
  safe : Int → List UInt8
  wait : List (Int × List UInt8)
  armed : Bool
  acts : Int
  done : Bool
  down : Bool
def secL (o : Option SecV) : List UInt8 := (o.map fun q => q.2.2).getD z512
def DiskS.view (S : DiskS) : DV := { n := S.n, now := fun x => secL (S.nw x), safe := fun x => secL (S.sf x), wait := S.wt.map fun e => (e.1, e.2.2.2), armed := S.armed, acts := S.acts, done := S.done, down := S.down }

/-- A disk with view V whose box is bb; none of the blocks K is its own. -/
structure Dk (K : Nat → Prop) (w : World) (bb : Nat) (V : DV) : Prop where
  ex : ∃ S : DiskS, S.view = V ∧ DiskAt w bb S ∧ DiskOK S ∧ ∀ b, S.fp bb b → ¬ K b
  lt : ∀ b, K b → b < w.heap.size

theorem Dk.keep {K : Nat → Prop} {w w' : World} {bb : Nat} {V : DV} (h : Dk K w bb V) (hk : Below w.heap.size w w') : Dk K w' bb V := by
  obtain ⟨⟨S, hv, ha, hok, hf⟩, hl⟩ := h
  exact ⟨⟨S, hv, ha.below hk, hok, hf⟩, fun b hb => Nat.lt_of_lt_of_le (hl b hb) hk.size⟩
theorem Dk.drewN {K : Nat → Prop} {w : World} {bb : Nat} {V : DV} (h : Dk K w bb V) (n : Nat) : Dk K (w.drewN n) bb V := h.keep ⟨rfl, rfl, rfl, Nat.le_refl _, fun _ _ => rfl⟩
/-- What lies in K alone may turn. -/
theorem Dk.turnK {K : Nat → Prop} {w w' : World} {bb : Nat} {V : DV} {fq : Nat → Prop} (h : Dk K w bb V) (ht : Turn fq w w') (hq : ∀ b, fq b → K b ∨ w.heap.size ≤ b) : Dk K w' bb V := by
  obtain ⟨⟨S, hv, ha, hok, hf⟩, hl⟩ := h
  refine ⟨⟨S, hv, ha.keep fun b hb => ht.block b (ha.lt hb) fun hb2 => ?_, hok, hf⟩, fun b hb => Nat.lt_of_lt_of_le (hl b hb) ht.size⟩
  rcases hq b hb2 with h1 | h1
  · exact hf b hb h1
  · have := ha.lt hb; omega
theorem Dk.more {K K' : Nat → Prop} {w w' : World} {bb : Nat} {V : DV} (h : Dk K w bb V) (hk : Below w.heap.size w w') (hK : ∀ b, K' b → K b ∨ (w.heap.size ≤ b ∧ b < w'.heap.size)) : Dk K' w' bb V := by
  obtain ⟨⟨S, hv, ha, hok, hf⟩, hl⟩ := h
  refine ⟨⟨S, hv, ha.below hk, hok, fun b hb hk2 => ?_⟩, fun b hb => ?_⟩
  · rcases hK b hk2 with h1 | ⟨h1, _⟩
    · exact hf b hb h1
    · have := ha.lt hb; omega
  · rcases hK b hb with h1 | ⟨_, h1⟩
    · exact Nat.lt_of_lt_of_le (hl b h1) hk.size
    · exact h1
theorem Dk.less {K K' : Nat → Prop} {w : World} {bb : Nat} {V : DV} (h : Dk K w bb V) (hK : ∀ b, K' b → K b) : Dk K' w bb V := by
  obtain ⟨⟨S, hv, ha, hok, hf⟩, hl⟩ := h
  exact ⟨⟨S, hv, ha, hok, fun b hb hk2 => hf b hb (hK b hk2)⟩, fun b hb => hl b (hK b hb)⟩
theorem Dk.of {K : Nat → Prop} {w w' : World} {bb : Nat} {S S' : DiskS} (hf : ∀ b, S.fp bb b → ¬ K b) (hl : ∀ b, K b → b < w.heap.size) (hs : w.heap.size ≤ w'.heap.size) (ha : DiskAt w' bb S') (hok : DiskOK S') (hfp : ∀ b, S'.fp bb b → S.fp bb b ∨ w.heap.size ≤ b) : Dk K w' bb S'.view :=
  ⟨⟨S', rfl, ha, hok, fun b hb hk => by
    rcases hfp b hb with h | h
    · exact hf b h hk
    · have := hl b hk; omega⟩, fun b hb => Nat.lt_of_lt_of_le (hl b hb) hs⟩
theorem Dk.cell0 {K : Nat → Prop} {w : World} {bb : Nat} {V : DV} (h : Dk K w bb V) : w.cell? ⟨bb, 0, none⟩ = some (.int .i64 V.n) := by
  obtain ⟨⟨S, rfl, ha, hok, hf⟩, hl⟩ := h
  exact ha.cell.1

/-- A new disk. -/
def DV.new (n : Int) : DV := { n := n, now := fun _ => z512, safe := fun _ => z512, wait := [], armed := false, acts := 0, done := false, down := false }
theorem NewDisk.dk {w w' : World} {n : Int} {hb bb sb nb : Nat} (h : NewDisk w n hb bb sb nb w') (h0 : 0 ≤ n) (hM : n ≤ 1099511627776) : Dk (fun b => b < w.heap.size ∨ b = hb) w' bb (DV.new n) := by
  refine ⟨⟨{ n := n, sb := sb, nb := nb, sf := fun _ => none, sn := 0, nw := fun _ => none, nn := 0, wt := [], WA := none, wc := 0, armed := false, acts := 0, done := false, down := false }, rfl,
    ⟨h.box, h.safe, h.now, h.ne, WRow.nil _, fun x q hx => (by cases hx), fun x q hx => (by cases hx), fun e he => (by cases he)⟩,
    ⟨h0, hM, fun x hx => absurd rfl hx, fun x hx => absurd rfl hx, fun e he => (by cases he), ⟨[], List.nodup_nil, fun x => by simp, rfl⟩, ⟨[], List.nodup_nil, fun x => by simp, rfl⟩, Int.le_refl _, (show (0 : Int) ≤ 9223372036854775807 by omega)⟩, ?_⟩, ?_⟩
  · intro b hb2 hk
    have hbb : w.heap.size ≤ b ∧ b ≠ hb := by
      rcases hb2 with e | e | e | e | ⟨x, q, e, _⟩ | ⟨x, q, e, _⟩ | ⟨e, he, _⟩
      · subst e; exact ⟨h.bbB, fun e => blk_type h.box h.hand (by decide) e⟩
      · have e' : b = sb := e; subst e'; exact ⟨h.sbB, fun e => blk_map h.safe h.hand e.symm⟩
      · have e' : b = nb := e; subst e'; exact ⟨h.nbB, fun e => blk_map h.now h.hand e.symm⟩
      · cases e
      · cases e
      · cases e
      · cases he
    rcases hk with hk | hk
    · omega
    · exact hbb.2 hk
  · rintro b (hb2 | rfl)
    · exact Nat.lt_of_lt_of_le hb2 h.below.size
    · exact h.hand.lt
end Go.Proofs.YteediemhcocgdaaDoor
