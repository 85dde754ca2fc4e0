/-
  Maps from int as a call sees them: which value lies under each key, and how many there are. Built on the kit's ownsMap at tokens that are values.
-/
import Derived.Test.YteediemhcocgdaaDoorWords
import Derived.Maps.OwnSet
import Derived.Maps.RangeWalk
namespace Go.Proofs.YteediemhcocgdaaDoor
open Go.RowKit
open Go.Maps (Keyed)

/-- Of the blocks that lay in w none has turned but those of fp. -/
structure Turn (fp : Nat → Prop) (w w' : World) : Prop where
  os : w'.os = w.os
  tape : w'.tape = w.tape
  output : w'.output = w.output
  size : w.heap.size ≤ w'.heap.size
  block : ∀ b, b < w.heap.size → ¬ fp b → w'.heap[b]? = w.heap[b]?
theorem Turn.refl (fp : Nat → Prop) (w : World) : Turn fp w w := ⟨rfl, rfl, rfl, Nat.le_refl _, fun _ _ _ => rfl⟩
theorem Turn.drew {fp : Nat → Prop} {w w' : World} (h : Turn fp w w') : Turn fp w w'.drew := ⟨h.os, h.tape, h.output, h.size, h.block⟩
theorem Turn.drewN {fp : Nat → Prop} {w w' : World} (h : Turn fp w w') (n : Nat) : Turn fp w (w'.drewN n) := ⟨h.os, h.tape, h.output, h.size, h.block⟩
theorem Turn.trans {fp fq : Nat → Prop} {w w1 w2 : World} (h : Turn fp w w1) (h2 : Turn fq w1 w2) (hs : ∀ b, fq b → fp b ∨ w.heap.size ≤ b) : Turn fp w w2 :=
  ⟨h2.os.trans h.os, h2.tape.trans h.tape, h2.output.trans h.output, Nat.le_trans h.size h2.size, fun b hb hn => (h2.block b (Nat.lt_of_lt_of_le hb h.size) fun hq => by
    rcases hs b hq with h3 | h3
    · exact hn h3
    · omega).trans (h.block b hb hn)⟩
theorem Turn.mono {fp fq : Nat → Prop} {w w1 : World} (h : Turn fp w w1) (hs : ∀ b, fp b → fq b) : Turn fq w w1 :=
  ⟨h.os, h.tape, h.output, h.size, fun b hb hn => h.block b hb fun h2 => hn (hs b h2)⟩
theorem Turn.alloc {fp : Nat → Prop} {w w1 : World} (h : Turn fp w w1) (o : Obj) : Turn fp w (w1.alloc o) :=
  ⟨h.os, h.tape, h.output, Nat.le_trans h.size (by simp), fun b hb hn => (Below.heap_alloc w1 o b (Nat.lt_of_lt_of_le hb h.size)).trans (h.block b hb hn)⟩
theorem Turn.of_grown {w w1 : World} {row : Option Nat} (h : w.grownBy w1 row) : Turn (fun b => row = some b) w w1 :=
  ⟨h.os, h.tape, h.output, h.size, fun b hb hn => h.block b hb fun e => hn e.symm⟩
theorem Turn.of_below {B : Nat} {w w1 : World} (h : Below B w w1) : Turn (fun b => B ≤ b) w w1 :=
  ⟨h.os, h.tape, h.output, h.size, fun b _ hn => h.block b (by omega)⟩
theorem Turn.setCell {fp : Nat → Prop} {w w1 : World} (h : Turn fp w w1) {p : Addr} (hp : fp p.block ∨ w.heap.size ≤ p.block) (u : Value) : Turn fp w (w1.setCell p u) :=
  h.trans (fq := fun b => b = p.block) ⟨rfl, rfl, rfl, by simp [World.setCell], fun k _ hk => Below.heap_setCell _ _ _ _ (fun e => hk e)⟩ (fun b hb => by rw [hb]; exact hp)
theorem Blk.turn {fp : Nat → Prop} {w w1 : World} {g : Nat} {t : TypeId} {cs : List Value} (h : Blk w g t cs) (ht : Turn fp w w1) (hn : ¬ fp g) : Blk w1 g t cs := (ht.block g h.lt hn).trans h

/-- Numbers that an int may hold. -/
abbrev I64 (x : Int) : Prop := (Lit.int .i64 x).wf = true
theorem i64_of {x : Int} (h0 : -9223372036854775808 ≤ x) (h1 : x ≤ 9223372036854775807) : I64 x := by
  simp [I64, Lit.wf, IntKind.min, IntKind.max, IntKind.signed, IntKind.bits]; omega

/-- How an element reads: as itself. -/
def heldR (v : Value) : Option (DataW Value × List MemPlace) := some (.held v, [])

/-- Block b is a map from int under whose key x lies f x; of sz entries. -/
def MapV (w : World) (b : Nat) (f : Int → Option Value) (sz : Nat) : Prop :=
  ∃ D : DataW Value, w.ownsMap Tryd.prog 3 heldR b sz D ∧ Maps.size D = sz ∧ ∀ x, I64 x → Maps.has D (.int .i64 x) = (f x).isSome ∧ ∀ v, f x = some v → ∀ z, D.atKey (.int .i64 x) z = .held v

def mput (f : Int → Option Value) (x : Int) (v : Value) : Int → Option Value := fun y => if y = x then some v else f y
def mdel (f : Int → Option Value) (x : Int) : Int → Option Value := fun y => if y = x then none else f y

theorem intK : Keyed Tryd.prog 3 := Maps.int_keyed Tryd.underlying3
theorem keyI {x : Int} (hx : I64 x) : keyOf Tryd.prog 3 (.int .i64 x) = some (.int .i64 x) := Maps.keyOf_int_mk Tryd.underlying3 hx
theorem exact_ownsMap {w : World} {b n : Nat} {D : DataW Value} (h : w.ownsMap Tryd.prog 3 heldR b n D) : w.ownsMap Tryd.prog 3 heldR b (Maps.size D) D := by
  obtain ⟨es, clock, hb, F, _, rfl⟩ := h
  exact ⟨es, clock, hb, F, Nat.le_of_eq (by simp [Maps.size, length_sorted]), rfl⟩

theorem MapV.lt {w : World} {b sz : Nat} {f : Int → Option Value} (h : MapV w b f sz) : b < w.heap.size := by
  obtain ⟨D, h, _⟩ := h
  exact h.lt
theorem MapV.keep {w w' : World} {b sz : Nat} {f : Int → Option Value} (h : MapV w b f sz) (hk : w'.heap[b]? = w.heap[b]?) : MapV w' b f sz := by
  obtain ⟨D, ⟨es, clock, hb, F, hs, hD⟩, h2⟩ := h
  exact ⟨D, ⟨es, clock, hk.trans hb, F, hs, hD⟩, h2⟩
theorem MapV.drew {w : World} {b sz : Nat} {f : Int → Option Value} (h : MapV w b f sz) : MapV w.drew b f sz := h
theorem MapV.alloc {w : World} {b sz : Nat} {f : Int → Option Value} (h : MapV w b f sz) (o : Obj) : MapV (w.alloc o) b f sz := h.keep (Below.heap_alloc w o b h.lt)
theorem MapV.made (w : World) : MapV (w.alloc (.map #[] 0)) w.heap.size (fun _ => none) 0 :=
  ⟨.map [], World.ownsMap_made w _ _ _, rfl, fun x _ => ⟨rfl, fun v h => by cases h⟩⟩

theorem MapV.look {w : World} {b sz : Nat} {f : Int → Option Value} (h : MapV w b f sz) {t e : TypeId} (ht : Tryd.prog.underlying t = some (.map 3 e)) {z : Value} (hz : (zeroValue e).run Tryd.prog w = .ok z w) {x : Int} (hx : I64 x) :
    (Instr.lookup t (.map (some b)) (.int .i64 x) false).run Tryd.prog w = .ok ((f x).getD z) w := by
  obtain ⟨D, hown, _, hag⟩ := h
  obtain ⟨v, ps, hrun, hR⟩ := hown.lookup intK ht hz (R := heldR) rfl (keyI hx)
  rw [hrun]
  obtain ⟨h1, h2⟩ := hag x hx
  rcases hf : f x with _ | u
  · rw [hf] at h1
    rw [Maps.atKey_of_not_has h1] at hR
    simp only [heldR, Option.some.injEq, Prod.mk.injEq, DataW.held.injEq] at hR
    rw [hR.1]; rfl
  · rw [h2 u hf] at hR
    simp only [heldR, Option.some.injEq, Prod.mk.injEq, DataW.held.injEq] at hR
    rw [hR.1]; rfl
theorem MapV.look_ok {w : World} {b sz : Nat} {f : Int → Option Value} (h : MapV w b f sz) {t e : TypeId} (ht : Tryd.prog.underlying t = some (.map 3 e)) {z : Value} (hz : (zeroValue e).run Tryd.prog w = .ok z w) {x : Int} (hx : I64 x) :
    (Instr.lookup t (.map (some b)) (.int .i64 x) true).run Tryd.prog w = .ok (.tuple #[(f x).getD z, .bool (f x).isSome]) w := by
  obtain ⟨D, hown, _, hag⟩ := h
  obtain ⟨v, ps, hrun, hR⟩ := hown.look_ok intK ht hz (R := heldR) rfl (keyI hx)
  rw [hrun]
  obtain ⟨h1, h2⟩ := hag x hx
  rw [h1]
  rcases hf : f x with _ | u
  · rw [hf] at h1
    rw [Maps.atKey_of_not_has h1] at hR
    simp only [heldR, Option.some.injEq, Prod.mk.injEq, DataW.held.injEq] at hR
    rw [hR.1]; rfl
  · rw [h2 u hf] at hR
    simp only [heldR, Option.some.injEq, Prod.mk.injEq, DataW.held.injEq] at hR
    rw [hR.1]; rfl
theorem MapV.len {w : World} {b sz : Nat} {f : Int → Option Value} (h : MapV w b f sz) {t e : TypeId} (ht : Tryd.prog.underlying t = some (.map 3 e)) (ty : TypeId) : (Builtin.len_ #[t] ty #[.map (some b)]).run Tryd.prog w = .ok (.int .i64 sz) w := by
  obtain ⟨D, hown, hs, _⟩ := h
  rw [hown.len ht ty, hs]

theorem lit_ne {x y : Int} (h : x ≠ y) : (Lit.int .i64 x) ≠ .int .i64 y := fun e => h (by injection e)

theorem MapV.put {w : World} {b sz : Nat} {f : Int → Option Value} (h : MapV w b f sz) {t e : TypeId} (ht : Tryd.prog.underlying t = some (.map 3 e)) (hn : sz < maxLen) {x : Int} (hx : I64 x) (v : Value) :
    ∃ w', (Instr.mapUpdate t (.map (some b)) (.int .i64 x) v).run Tryd.prog w = .ok () w' ∧ MapV w' b (mput f x v) (if (f x).isSome then sz else sz + 1) ∧ w.grownBy w' (some b) := by
  obtain ⟨D, hown, hs, hag⟩ := h
  obtain ⟨w', hrun, ho2, hg⟩ := hown.update intK ht hn (R := heldR) (keyI hx) rfl
  refine ⟨w', hrun, ⟨D.put (.int .i64 x) (.held v), ?_, ?_, fun y hy => ?_⟩, hg⟩
  · have hsz := Maps.size_put (k := .int .i64 x) (hown.tidy intK) (.held v)
    rw [(hag x hx).1, hs] at hsz
    rw [← hsz]
    exact exact_ownsMap ho2
  · have hsz := Maps.size_put (k := .int .i64 x) (hown.tidy intK) (.held v)
    rw [(hag x hx).1, hs] at hsz
    exact hsz
  · unfold mput
    by_cases hyx : y = x
    · subst hyx
      rw [if_pos rfl]
      exact ⟨Maps.has_put_same hown.isMap (show WideAt.IsKeyLit (.int .i64 _) from trivial) _, fun u hu z => by cases hu; exact Maps.atKey_put_same hown.isMap (show WideAt.IsKeyLit (.int .i64 _) from trivial) _ _⟩
    · rw [if_neg hyx]
      exact ⟨(Maps.has_put_other (lit_ne hyx) _).trans (hag y hy).1, fun u hu z => (Maps.atKey_put_other (lit_ne hyx) _ _).trans ((hag y hy).2 u hu z)⟩

theorem MapV.del {w : World} {b sz : Nat} {f : Int → Option Value} (h : MapV w b f sz) {t e : TypeId} (ht : Tryd.prog.underlying t = some (.map 3 e)) {x : Int} (hx : I64 x) (ty : TypeId) :
    ∃ w', (Builtin.delete_ #[t, 3] ty #[.map (some b), .int .i64 x]).run Tryd.prog w = .ok (.tuple #[]) w' ∧ MapV w' b (mdel f x) (if (f x).isSome then sz - 1 else sz) ∧ w.grownBy w' (some b) := by
  obtain ⟨D, hown, hs, hag⟩ := h
  obtain ⟨w', hrun, ho2, hg⟩ := hown.drop intK ht (keyI hx) ty
  have hsz := Maps.size_del (k := .int .i64 x) (hown.tidy intK)
  rw [(hag x hx).1, hs] at hsz
  have hsz2 : Maps.size (D.del (.int .i64 x)) = if (f x).isSome then sz - 1 else sz := by
    split
    · rename_i h; rw [if_pos h] at hsz; omega
    · rename_i h; rw [if_neg h] at hsz; omega
  refine ⟨w', hrun, ⟨D.del (.int .i64 x), ?_, hsz2, fun y hy => ?_⟩, hg.grown⟩
  · rw [← hsz2]
    exact exact_ownsMap ho2
  · unfold mdel
    by_cases hyx : y = x
    · subst hyx
      rw [if_pos rfl]
      exact ⟨Maps.has_del_same, fun u hu => by cases hu⟩
    · rw [if_neg hyx]
      exact ⟨(Maps.has_del_other (lit_ne hyx)).trans (hag y hy).1, fun u hu z => (Maps.atKey_del_other (lit_ne hyx) _).trans ((hag y hy).2 u hu z)⟩

theorem wp_map_put {w : World} {ops : Array Oper} {rest : List Oper} {o : Oper} {a : Act} {Q : Exit → Act → World → Prop} (hg : o.guard = none) (m k v : Operand) (t e : TypeId) (hop : o.op = Op.mapUpdate t m k v)
    (ht : Tryd.prog.underlying t = some (.map 3 e)) (b sz : Nat) (f : Int → Option Value) (x : Int) (u : Value) (hm : a.eval m = .map (some b)) (hk : a.eval k = .int .i64 x) (hv : a.eval v = u) (h : MapV w b f sz) (hn : sz < maxLen) (hx : I64 x)
    (hK : ∀ w', MapV w' b (mput f x u) (if (f x).isSome then sz else sz + 1) → w.grownBy w' (some b) → wpList Tryd.prog ops Q rest (a.put o.dst undef) w') :
    wpList Tryd.prog ops Q (o :: rest) a w := by
  refine wpList_plain hg fun K' hK' => ?_
  obtain ⟨w', hrun, r1, r2⟩ := h.put ht hn hx u
  unfold Oper.wp
  simp [execOp, hop, hm, hk, hv, hrun, Result.andThen]
  exact hK' _ _ (hK w' r1 r2)
theorem wp_map_del {w : World} {ops : Array Oper} {rest : List Oper} {o : Oper} {a : Act} {Q : Exit → Act → World → Prop} (hg : o.guard = none) (m k : Operand) (t e : TypeId) (hop : o.op = Op.call { callee := Callee.builtin Builtin.delete, args := #[m, k], argTypes := #[t, 3] })
    (ht : Tryd.prog.underlying t = some (.map 3 e)) (b sz : Nat) (f : Int → Option Value) (x : Int) (hm : a.eval m = .map (some b)) (hk : a.eval k = .int .i64 x) (h : MapV w b f sz) (hx : I64 x)
    (hK : ∀ w', MapV w' b (mdel f x) (if (f x).isSome then sz - 1 else sz) → w.grownBy w' (some b) → wpList Tryd.prog ops Q rest (a.put o.dst (.tuple #[])) w') :
    wpList Tryd.prog ops Q (o :: rest) a w := by
  refine wpList_plain hg fun K' hK' => ?_
  obtain ⟨w', hrun, r1, r2⟩ := h.del ht hx o.type
  unfold Oper.wp
  simp [execOp, hop, resolve, invoke, builtin, hm, hk, hrun, Result.andThen]
  exact hK' _ _ (hK w' r1 r2)
end Go.Proofs.YteediemhcocgdaaDoor
