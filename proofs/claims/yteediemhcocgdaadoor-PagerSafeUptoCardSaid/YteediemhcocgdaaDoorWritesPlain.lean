/-
  The law PagerWrites: what its walk keeps.
-/
import Derived.Test.YteediemhcocgdaaDoorPoolPages
namespace Go.Proofs.YteediemhcocgdaaDoor
open Go.RowKit

/-- 'make([]byte, n)'. -/
def mkw (n : Nat) (w : World) : World := w.alloc (.cells ((zeros n).map cu8).toArray 5)
theorem mkw_run (n : Nat) (hn : n ≤ 281474976710656) (w : World) : (Instr.makeSlice 23 (.int .i64 (n : Int)) (.int .i64 (n : Int))).run Tryd.prog w = .ok (.slice (some ⟨w.heap.size, 0, none⟩) n n) (mkw n w) := by
  rw [make_bytes n hn w]
  unfold mkw zeros
  rw [List.map_replicate]
  rfl
theorem zeros_length (n : Nat) : (zeros n).length = n := List.length_replicate
theorem mkw_below (n : Nat) (w : World) : Below w.heap.size w (mkw n w) := (Below.refl _ _).alloc (Nat.le_refl _) _
theorem mkw_str (n : Nat) (w : World) : (convert 23 9 (.slice (some ⟨w.heap.size, 0, none⟩) n n)).run Tryd.prog (mkw n w) = .ok (.string ⟨(zeros n).toArray⟩) (mkw n w) := by
  have h : Byt (mkw n w) (w.heap.size + 1) (some ⟨w.heap.size, 0, none⟩) (zeros n) := byt_new w 5 (0, 0) _
  have := h.str n
  rw [zeros_length] at this
  exact this
theorem str_add (a b : List UInt8) : (⟨a.toArray⟩ : ByteArray) ++ ⟨b.toArray⟩ = ⟨(a ++ b).toArray⟩ := by
  apply ByteArray.ext
  simp [ByteArray.data_append]

theorem and_small7 (x : Int) (y : Nat) (hy : y < 1000) : ∃ m : Nat, m ≤ y ∧ bits BinOp.and IntKind.i64 x (y : Int) = (m : Int) := by
  refine ⟨((BitVec.ofInt 64 x) &&& (BitVec.ofInt 64 (y : Int))).toNat, ?_, ?_⟩
  · rw [BitVec.toNat_and]
    refine Nat.le_trans Nat.and_le_right ?_
    rw [BitVec.toNat_ofInt]
    omega
  · have h : ((BitVec.ofInt 64 x) &&& (BitVec.ofInt 64 (y : Int))).toNat ≤ y := by
      rw [BitVec.toNat_and]
      refine Nat.le_trans Nat.and_le_right ?_
      rw [BitVec.toNat_ofInt]
      omega
    show IntKind.i64.wrap _ = _
    exact IntWalk.i64_in _ (by
      have h2 : (((BitVec.ofInt 64 x) &&& (BitVec.ofInt 64 (y : Int))).toNat : Int) ≤ y := by exact_mod_cast h
      constructor
      · show (-9223372036854775808 : Int) ≤ _
        omega
      · show _ ≤ (9223372036854775807 : Int)
        exact Int.le_trans h2 (by omega))

namespace WritesP
def upd (f : Nat → List UInt8) (k : Nat) (v : List UInt8) : Nat → List UInt8 := fun n => if n = k then v else f n
/-- The cells of the law's array. -/
def cells (f : Nat → List UInt8) : List Value := (List.range 8).map fun n => .string ⟨(f n).toArray⟩
theorem cells_get (f : Nat → List UInt8) (n : Nat) (hn : n < 8) : (cells f)[n]? = some (.string ⟨(f n).toArray⟩) := by
  unfold cells
  rw [List.getElem?_map, List.getElem?_range hn]
  rfl
theorem cells_set (f : Nat → List UInt8) (k : Nat) (v : List UInt8) (hk : k < 8) : (cells f).set k (.string ⟨v.toArray⟩) = cells (upd f k v) := by
  apply List.ext_getElem?
  intro n
  rw [List.getElem?_set]
  unfold cells upd
  by_cases hn : n < 8
  · by_cases e : k = n
    · subst e
      simp [hk]
    · have e2 : ¬ n = k := fun h => e h.symm
      simp [e, hn, e2]
  · by_cases e : k = n
    · omega
    · rw [if_neg e, List.getElem?_eq_none (by simp; omega), List.getElem?_eq_none (by simp; omega)]
/-- The pages that the law has taken. -/
def first (k : Nat) : Nat → List UInt8 := fun n => if n < k then zeros 500 else []
theorem first_upd (k : Nat) : upd (first k) k (zeros 500) = first (k + 1) := by
  funext n
  unfold upd first
  by_cases e : n = k
  · subst e; simp
  · by_cases h : n < k
    · rw [if_neg e, if_pos h, if_pos (by omega)]
    · rw [if_neg e, if_neg h, if_neg (by omega)]

/-- What stands in every round. -/
structure Wr (w : World) (db ab p bb : Nat) (f : Nat → List UInt8) (V : PV) (VD : DV) (wr : World) : Prop where
  pd : PD (fun b => b < w.heap.size ∨ b = db ∨ b = ab) wr p V bb VD
  arr : Blk wr ab 70 (cells f)
  d : V.d = .pointer (some ⟨db, 0, none⟩)
  hdb : wr.cell? ⟨db, 0, none⟩ = some (.pointer (some ⟨bb, 0, none⟩))
  frm : V.frm = 2
  many : V.many = 28
  n : VD.n = 30
  armed : VD.armed = false
  down : VD.down = false
  bel : Below w.heap.size w wr
  hab : w.heap.size ≤ ab
  lab : ab < wr.heap.size
theorem Wr.step {w : World} {db ab p bb : Nat} {f : Nat → List UInt8} {V V' : PV} {VD VD' : DV} {wr w' : World} (h : Wr w db ab p bb f V VD wr) (hk : Kept (fun b => b < w.heap.size ∨ b = db ∨ b = ab) wr w') (hp : PD (fun b => b < w.heap.size ∨ b = db ∨ b = ab) w' p V' bb VD')
    (h1 : V'.d = V.d) (h2 : V'.frm = V.frm) (h3 : V'.many = V.many) (h4 : VD'.n = VD.n) (h5 : VD'.armed = VD.armed) (h6 : VD'.down = VD.down) : Wr w db ab p bb f V' VD' w' :=
  ⟨hp, hk.blk h.arr (.inr (.inr rfl)), h1.trans h.d, (World.cell?_of_block (hk.block db (cell_lt h.hdb) fun hn => hn (.inr (.inl rfl)))).trans h.hdb, h2.trans h.frm, h3.trans h.many, h4.trans h.n, h5.trans h.armed, h6.trans h.down,
    h.bel.trans (hk.below (fun _ hb => .inl hb) h.bel.size), h.hab, Nat.lt_of_lt_of_le h.lab hk.size⟩
theorem Wr.keep {w : World} {db ab p bb : Nat} {f : Nat → List UInt8} {V : PV} {VD : DV} {wr w' : World} (h : Wr w db ab p bb f V VD wr) (hk : Below wr.heap.size wr w') : Wr w db ab p bb f V VD w' :=
  h.step (Kept.of_below hk h.pd.lt) (h.pd.keep hk) rfl rfl rfl rfl rfl rfl
theorem Wr.set {w : World} {db ab p bb : Nat} {f : Nat → List UInt8} {V : PV} {VD : DV} {wr : World} (h : Wr w db ab p bb f V VD wr) (hne : db ≠ ab) {n : Nat} (hn : n < 8) (v : List UInt8) : Wr w db ab p bb (upd f n v) V VD (wr.setCell ⟨ab, n, none⟩ (.string ⟨v.toArray⟩)) := by
  refine ⟨h.pd.turnK (turn_at wr ab n _) (fun _ hb => .inr (.inr hb)), ?_, h.d, ?_, h.frm, h.many, h.n, h.armed, h.down, h.bel.setCell (p := ⟨ab, n, none⟩) h.hab _, h.hab, by simp [World.setCell]; exact h.lab⟩
  · rw [← cells_set f n v hn]
    exact h.arr.set_ n _
  · exact (World.cell?_of_block (Below.heap_setCell _ _ _ _ hne)).trans h.hdb
/-- Pages 0 .. k-1 are taken, no other. -/
structure Fst (V : PV) (k : Nat) : Prop where
  pg : ∀ n : Nat, n < k → ∃ g, V.pg n = some (g, zeros 500)
  no : ∀ x : Int, (k : Int) ≤ x → V.pg x = none
  fr : ∀ x, V.fr x = false
  lf : ∀ x, V.lf x = false
theorem Fst.next {V : PV} {k : Nat} (h : Fst V k) (hm : V.many = 28) (hk : k < 8) {n : Int} (hf : V.free n) (hl : ∀ x, V.free x → n ≤ x) : n = k := by
  have h1 : V.free (k : Int) := ⟨by omega, by omega, h.no _ (Int.le_refl _), h.fr _, h.lf _⟩
  have h2 := hl _ h1
  by_cases e : n = k
  · exact e
  · obtain ⟨g, hg⟩ := h.pg n.toNat (by have := hf.1; omega)
    rw [show ((n.toNat : Nat) : Int) = n by have := hf.1; omega] at hg
    have := hf.2.2.1
    rw [hg] at this
    cases this
theorem Fst.any {V : PV} {k : Nat} (h : Fst V k) (hm : V.many = 28) (hk : k < 8) : V.free (k : Int) := ⟨by omega, by omega, h.no _ (Int.le_refl _), h.fr _, h.lf _⟩
theorem Fst.tk {V : PV} {k : Nat} (h : Fst V k) (g : Nat) : Fst (V.tk k g) (k + 1) := by
  refine ⟨fun n hn => ?_, fun x hx => ?_, h.fr, h.lf⟩
  · show ∃ g', (if (n : Int) = k then some (g, zeros 500) else V.pg n) = _
    by_cases e : n = k
    · exact ⟨g, by rw [if_pos (by omega)]⟩
    · rw [if_neg (by omega)]
      exact h.pg n (by omega)
  · show (if x = k then some (g, zeros 500) else V.pg x) = none
    rw [if_neg (by omega)]
    exact h.no x (by omega)
/-- Each page of the law's is taken and holds what the law wants. -/
def Full (V : PV) (f : Nat → List UInt8) : Prop := ∀ n : Nat, n < 8 → (f n).length = 500 ∧ ∃ g, V.pg n = some (g, f n)
theorem Fst.full {V : PV} (h : Fst V 8) : Full V (first 8) := fun n hn => by
  unfold first
  rw [if_pos hn]
  exact ⟨zeros_length 500, h.pg n hn⟩
theorem Full.wr {V : PV} {f : Nat → List UInt8} (h : Full V f) (m : Nat) (b : List UInt8) (hb : b.length ≤ 500) {g : Nat} {l : List UInt8} (_hg : V.pg m = some (g, l)) : Full (V.wr m g b) (upd f m (wrote b)) := fun n hn => by
  show (if n = m then wrote b else f n).length = 500 ∧ ∃ g', (if (n : Int) = m then some (g, wrote b) else V.pg n) = some (g', if n = m then wrote b else f n)
  by_cases e : n = m
  · rw [if_pos e, if_pos (by omega)]
    exact ⟨wrote_length b hb, g, rfl⟩
  · rw [if_neg e, if_neg (by omega)]
    exact h n hn
def Reads (V : PV) (VD : DV) (f : Nat → List UInt8) : Prop := ∀ n : Nat, n < 8 → (f n).length = 500 ∧ PageIs V VD n (f n)
theorem Full.reads {V : PV} {f : Nat → List UInt8} (h : Full V f) (VD : DV) : Reads V VD f := fun n hn => ⟨(h n hn).1, .inl (h n hn).2⟩
theorem Reads.freeze {V : PV} {VD : DV} {f : Nat → List UInt8} (h : Reads V VD f) {ks : List Int} (hk : TakenK V ks) : Reads V.frz (putAll V.frm (ks.map fun x => (x, V.bytes x)) VD) f := fun n hn => ⟨(h n hn).1, (h n hn).2.freeze hk⟩
end WritesP
end Go.Proofs.YteediemhcocgdaaDoor
