/-
  A pool of pages in memory; what its state means.
-/
import Derived.Test.YteediemhcocgdaaDoorHeapWalk
import Derived.Test.YteediemhcocgdaaDoorBlk
namespace Go.Proofs.YteediemhcocgdaaDoor
open Go.RowKit
open HeapP (at_ IsHeap)

/-- A pool's state. -/
structure PoolS where
  d : Value
  frm : Int
  many : Int
  A : Option Addr
  c : Nat
  gl : List Int
  next : Int
  tb : Nat
  fb : Nat
  lb : Nat
  pg : Int → Option (Nat × List UInt8)
  tn : Nat
  fr : Int → Bool
  fn : Nat
  lf : Int → Bool
  ln : Nat

def setF (f : Int → Bool) : Int → Option Value := fun x => if f x then some (.bool true) else none
def pageF (f : Int → Option (Nat × List UInt8)) : Int → Option Value := fun x => (f x).map fun q => .slice (some ⟨q.1, 0, none⟩) 500 500
def PoolS.cells (S : PoolS) : List Value := [S.d, .int .i64 S.frm, .int .i64 S.many, .slice S.A S.gl.length S.c, .int .i64 S.next, .map (some S.tb), .map (some S.fb), .map (some S.lb)]

structure PoolAt (w : World) (p : Nat) (S : PoolS) : Prop where
  blk : Blk w p 98 S.cells
  row : IRow w S.A S.c S.gl
  heap : IsHeap S.gl
  tm : MapV w S.tb (pageF S.pg) S.tn
  fm : MapV w S.fb (setF S.fr) S.fn
  lm : MapV w S.lb (setF S.lf) S.ln
  page : ∀ x g l, S.pg x = some (g, l) → Blk w g 5 (l.map cu8) ∧ l.length = 500
  inj : ∀ x y g l m, S.pg x = some (g, l) → S.pg y = some (g, m) → x = y
  tf : S.tb ≠ S.fb
  tl : S.tb ≠ S.lb
  fl : S.fb ≠ S.lb

/-- The blocks of a pool. -/
def PoolS.fp (S : PoolS) (p b : Nat) : Prop := b = p ∨ b = S.tb ∨ b = S.fb ∨ b = S.lb ∨ blkOf S.A = some b ∨ ∃ x l, S.pg x = some (b, l)

theorem PoolAt.keep {w w' : World} {p : Nat} {S : PoolS} (h : PoolAt w p S) (hk : ∀ b, S.fp p b → w'.heap[b]? = w.heap[b]?) : PoolAt w' p S :=
  ⟨(hk p (.inl rfl)).trans h.blk, h.row.keep fun b hb => hk b (.inr (.inr (.inr (.inr (.inl hb))))), h.heap, h.tm.keep (hk _ (.inr (.inl rfl))), h.fm.keep (hk _ (.inr (.inr (.inl rfl)))), h.lm.keep (hk _ (.inr (.inr (.inr (.inl rfl))))),
   fun x g l hx => ⟨(hk g (.inr (.inr (.inr (.inr (.inr ⟨x, l, hx⟩)))))).trans (h.page x g l hx).1, (h.page x g l hx).2⟩, h.inj, h.tf, h.tl, h.fl⟩
theorem PoolAt.drewN {w : World} {p : Nat} {S : PoolS} (h : PoolAt w p S) (n : Nat) : PoolAt (w.drewN n) p S := h.keep fun _ _ => rfl
theorem PoolAt.drew {w : World} {p : Nat} {S : PoolS} (h : PoolAt w p S) : PoolAt w.drew p S := h.keep fun _ _ => rfl
theorem PoolAt.lt {w : World} {p : Nat} {S : PoolS} (h : PoolAt w p S) {b : Nat} (hb : S.fp p b) : b < w.heap.size := by
  rcases hb with rfl | rfl | rfl | rfl | hb | ⟨x, l, hx⟩
  · exact h.blk.lt
  · exact h.tm.lt
  · exact h.fm.lt
  · exact h.lm.lt
  · exact h.row.lt b hb
  · exact (h.page x b l hx).1.lt
theorem PoolAt.turn {w w' : World} {p : Nat} {S : PoolS} {fq : Nat → Prop} (h : PoolAt w p S) (ht : Turn fq w w') (hn : ∀ b, S.fp p b → ¬ fq b) : PoolAt w' p S :=
  h.keep fun b hb => ht.block b (h.lt hb) (hn b hb)
theorem IRow.ne {w : World} {A : Option Addr} {c : Nat} {l : List Int} (h : IRow w A c l) {g : Nat} {t : TypeId} {cs : List Value} (hb : Blk w g t cs) (hne : t ≠ 3) : blkOf A ≠ some g := by
  rcases h with ⟨rfl, _⟩ | ⟨a, ds, rfl, hd, _⟩
  · intro e; cases e
  · intro e
    obtain rfl : a = g := Option.some.inj e
    exact blk_type hb hd hne rfl
theorem IRow.ne_map {w : World} {A : Option Addr} {c : Nat} {l : List Int} (h : IRow w A c l) {b : Nat} {f : Int → Option Value} {n : Nat} (hb : MapV w b f n) : blkOf A ≠ some b := by
  rcases h with ⟨rfl, _⟩ | ⟨a, ds, rfl, hd, _⟩
  · intro e; cases e
  · intro e
    obtain rfl : a = b := Option.some.inj e
    exact blk_map hb hd rfl

/-- What the state means. -/
structure PoolOKx (hi : Int) (S : PoolS) : Prop where
  next0 : 0 ≤ S.next
  nextM : S.next ≤ S.many
  manyM : S.many ≤ 1048576
  given : ∀ x, x ∈ S.gl ↔ 0 ≤ x ∧ x < S.next ∧ S.pg x = none ∧ S.fr x = false ∧ S.lf x = false
  nodup : S.gl.Nodup
  pgB : ∀ x, S.pg x ≠ none → 0 ≤ x ∧ x < S.next ∧ S.fr x = false ∧ S.lf x = false
  frB : ∀ x, S.fr x = true → 0 ≤ x ∧ x < S.many ∧ S.lf x = false
  lfB : ∀ x, S.lf x = true → 0 ≤ x ∧ x < hi
  tnB : Card (fun x => S.pg x ≠ none) S.tn
  fnB : Card (fun x => S.fr x = true) S.fn
  lnB : Card (fun x => S.lf x = true) S.ln
/-- .. between two calls. -/
abbrev PoolOK (S : PoolS) : Prop := PoolOKx S.next S
/-- A page that is free. -/
def PoolS.free (S : PoolS) (x : Int) : Prop := 0 ≤ x ∧ x < S.many ∧ S.pg x = none ∧ S.fr x = false ∧ S.lf x = false

theorem PoolOKx.glLen {hi : Int} {S : PoolS} (h : PoolOKx hi S) : S.gl.length ≤ 1048576 := by
  have h1 := pigeon S.next.toNat S.gl h.nodup fun x hx => by
    have := (h.given x).1 hx
    omega
  have := h.next0
  have := h.nextM
  have := h.manyM
  omega
theorem PoolOKx.in64 {hi : Int} {S : PoolS} (h : PoolOKx hi S) : I64 S.next := i64_of (by have := h.next0; omega) (by have := h.nextM; have := h.manyM; omega)

theorem PoolOKx.tnLe {hi : Int} {S : PoolS} (h : PoolOKx hi S) : S.tn ≤ 1048576 := by
  have h1 := h.tnB.le (N := 1048576) fun x hx => by
    have := h.pgB x hx; have := h.nextM; have := h.manyM; omega
  omega
theorem PoolOKx.fnLe {hi : Int} {S : PoolS} (h : PoolOKx hi S) : S.fn ≤ 1048576 := by
  have h1 := h.fnB.le (N := 1048576) fun x hx => by
    have := h.frB x hx; have := h.manyM; omega
  omega
theorem PoolOKx.lnLe {hi : Int} {S : PoolS} (h : PoolOKx hi S) (hhi : hi ≤ 1048576) : S.ln ≤ 1048576 := by
  have h1 := h.lnB.le (N := 1048576) fun x hx => by
    have := h.lfB x hx; omega
  omega

theorem PoolAt.cell {w : World} {p : Nat} {S : PoolS} (h : PoolAt w p S) :
    w.cell? ⟨p, 0, none⟩ = some S.d ∧ w.cell? ⟨p, 1, none⟩ = some (.int .i64 S.frm) ∧ w.cell? ⟨p, 2, none⟩ = some (.int .i64 S.many) ∧ w.cell? ⟨p, 3, none⟩ = some (.slice S.A S.gl.length S.c) ∧
    w.cell? ⟨p, 4, none⟩ = some (.int .i64 S.next) ∧ w.cell? ⟨p, 5, none⟩ = some (.map (some S.tb)) ∧ w.cell? ⟨p, 6, none⟩ = some (.map (some S.fb)) ∧ w.cell? ⟨p, 7, none⟩ = some (.map (some S.lb)) := by
  refine ⟨?_, ?_, ?_, ?_, ?_, ?_, ?_, ?_⟩ <;> exact h.blk.cell _
theorem PoolAt.lookF {w : World} {p : Nat} {S : PoolS} (h : PoolAt w p S) {x : Int} (hx : I64 x) : ∀ n, (Instr.lookup 94 (.map (some S.fb)) (.int .i64 x) false).run Tryd.prog (w.drewN n) = .ok (.bool (S.fr x)) (w.drewN n) := fun n => by
  rw [(h.drewN n).fm.look Tryd.underlying94 (z := .bool false) (by kernel_rfl) hx]
  unfold setF
  cases S.fr x <;> rfl
theorem PoolAt.lookL {w : World} {p : Nat} {S : PoolS} (h : PoolAt w p S) {x : Int} (hx : I64 x) : ∀ n, (Instr.lookup 94 (.map (some S.lb)) (.int .i64 x) false).run Tryd.prog (w.drewN n) = .ok (.bool (S.lf x)) (w.drewN n) := fun n => by
  rw [(h.drewN n).lm.look Tryd.underlying94 (z := .bool false) (by kernel_rfl) hx]
  unfold setF
  cases S.lf x <;> rfl
theorem PoolAt.lookT {w : World} {p : Nat} {S : PoolS} (h : PoolAt w p S) {x : Int} (hx : I64 x) : ∀ n, (Instr.lookup 88 (.map (some S.tb)) (.int .i64 x) true).run Tryd.prog (w.drewN n) = .ok (.tuple #[(pageF S.pg x).getD (.slice none 0 0), .bool (pageF S.pg x).isSome]) (w.drewN n) := fun n =>
  (h.drewN n).tm.look_ok Tryd.underlying88 (z := .slice none 0 0) (by kernel_rfl) hx

/-- The pool with another next. -/
theorem PoolAt.setNext {w : World} {p : Nat} {S : PoolS} (h : PoolAt w p S) (m : Int) : PoolAt (w.setCell ⟨p, 4, none⟩ (.int .i64 m)) p { S with next := m } := by
  have hk : ∀ b, b ≠ p → (w.setCell ⟨p, 4, none⟩ (.int .i64 m)).heap[b]? = w.heap[b]? := fun b hb => Below.heap_setCell _ _ _ _ hb
  refine ⟨h.blk.set_ 4 _, h.row.keep fun b hb => hk b (fun e => h.row.ne h.blk (by decide) (e ▸ hb)), h.heap, h.tm.keep (hk _ (blk_map h.tm h.blk).symm), h.fm.keep (hk _ (blk_map h.fm h.blk).symm), h.lm.keep (hk _ (blk_map h.lm h.blk).symm),
    fun x g l hx => ⟨(hk g (blk_type (h.page x g l hx).1 h.blk (by decide))).trans (h.page x g l hx).1, (h.page x g l hx).2⟩, h.inj, h.tf, h.tl, h.fl⟩

/-- The pool with another row. -/
theorem PoolAt.setRow {w w' : World} {p : Nat} {S : PoolS} {A' : Option Addr} {c' : Nat} {gl' : List Int} (h : PoolAt w p S) (hh : IsHeap gl') (hr : IRow w' A' c' gl') (hb : Blk w' p 98 (S.cells.set 3 (.slice A' gl'.length c'))) (ht : Turn (fun b => b = p ∨ blkOf S.A = some b) w w') :
    PoolAt w' p { S with A := A', c := c', gl := gl' } := by
  have hk : ∀ b, b < w.heap.size → b ≠ p → blkOf S.A ≠ some b → w'.heap[b]? = w.heap[b]? := fun b h0 h1 h2 => ht.block b h0 fun h => by
    rcases h with h | h
    · exact h1 h
    · exact h2 h
  refine ⟨hb, hr, hh, h.tm.keep (hk _ h.tm.lt (blk_map h.tm h.blk).symm (h.row.ne_map h.tm)), h.fm.keep (hk _ h.fm.lt (blk_map h.fm h.blk).symm (h.row.ne_map h.fm)), h.lm.keep (hk _ h.lm.lt (blk_map h.lm h.blk).symm (h.row.ne_map h.lm)),
    fun x g l hx => ⟨(hk g (h.page x g l hx).1.lt (blk_type (h.page x g l hx).1 h.blk (by decide)) (h.row.ne (h.page x g l hx).1 (by decide))).trans (h.page x g l hx).1, (h.page x g l hx).2⟩, h.inj, h.tf, h.tl, h.fl⟩
end Go.Proofs.YteediemhcocgdaaDoor
