/-
  A range over a map from int.
-/
import Derived.Test.YteediemhcocgdaaDoorMapV
namespace Go.Proofs.YteediemhcocgdaaDoor
open Go.RowKit
open Go.Maps (Keyed)

/-- A range over a map from int is under way; left x: is the entry under x still to come? -/
def RangeV (w : World) (b r : Nat) (f : Int → Option Value) (sz : Nat) (left : Int → Bool) (cnt : Nat) : Prop :=
  ∃ (D : DataW Value) (lf : Lit → Bool), w.ranges Tryd.prog 3 heldR b r sz D lf cnt ∧ Maps.size D = sz ∧ (∀ x, I64 x → Maps.has D (.int .i64 x) = (f x).isSome ∧ ∀ v, f x = some v → ∀ z, D.atKey (.int .i64 x) z = .held v) ∧ ∀ x, I64 x → lf (.int .i64 x) = left x
section
variable {w w' : World} {b r sz cnt : Nat} {f : Int → Option Value} {left : Int → Bool}
theorem RangeV.map (h : RangeV w b r f sz left cnt) : MapV w b f sz := by
  obtain ⟨D, lf, h1, h2, h3, h4⟩ := h
  exact ⟨D, h1.owns, h2, h3⟩
theorem RangeV.left_eq (h : RangeV w b r f sz left cnt) : w.rangeLeft b r = cnt := by
  obtain ⟨D, lf, h1, _⟩ := h
  exact h1.left_eq
theorem RangeV.ne (h : RangeV w b r f sz left cnt) : r ≠ b := by
  obtain ⟨D, lf, h1, _⟩ := h
  exact h1.ne
theorem RangeV.lt (h : RangeV w b r f sz left cnt) : r < w.heap.size := by
  obtain ⟨D, lf, h1, _⟩ := h
  exact h1.lt
theorem RangeV.kept {row : Option Nat} (h : RangeV w b r f sz left cnt) (hg : w.grownBy w' row) (hb : some b ≠ row) (hr : some r ≠ row) : RangeV w' b r f sz left cnt := by
  obtain ⟨D, lf, h1, h2⟩ := h
  exact ⟨D, lf, h1.kept hg hb hr, h2⟩
theorem RangeV.alloc (h : RangeV w b r f sz left cnt) (o : Obj) : RangeV (w.alloc o) b r f sz left cnt := by
  obtain ⟨D, lf, h1, h2⟩ := h
  exact ⟨D, lf, h1.alloc o, h2⟩
theorem RangeV.not_blk (h : RangeV w b r f sz left cnt) {g : Nat} {t : TypeId} {cs : List Value} (hb : Blk w g t cs) : g ≠ r := by
  rintro rfl
  obtain ⟨D, lf, h1, _⟩ := h
  unfold World.ranges at h1
  unfold Blk at hb
  simp only [hb] at h1
  simp at h1
end
theorem same_int (y x : Int) : (Lit.int .i64 y).sameKey (.int .i64 x) = decide (y = x) := by
  unfold Lit.sameKey
  simp
section
variable {w : World} {ops : Array Oper} {rest : List Oper} {o : Oper} {a : Act} {Q : Exit → Act → World → Prop}
theorem wp_map_range (hg : o.guard = none) (m : Operand) (t e : TypeId) (hop : o.op = Op.range t m) (ht : Tryd.prog.underlying t = some (.map 3 e)) (b sz : Nat) (f : Int → Option Value) (hm : a.eval m = .map (some b)) (h : MapV w b f sz)
    (hK : ∀ w', RangeV w' b w.heap.size f sz (fun x => (f x).isSome) sz → w.grownBy w' none → w'.heap.size = w.heap.size + 1 → wpList Tryd.prog ops Q rest (a.put o.dst (.pointer (some ⟨w.heap.size, 0, none⟩))) w') :
    wpList Tryd.prog ops Q (o :: rest) a w := by
  obtain ⟨D, hown, hs, hag⟩ := h
  refine wpList_range_own w hg m t hop 3 e intK ht heldR b sz D hm hown fun w' hr hgw hsz => hK w' ⟨D, _, ?_, hs, hag, fun x hx => (hag x hx).1⟩ hgw hsz
  rw [← hs]
  rw [hs]
  have := hr
  rw [hs] at this
  exact this
theorem wp_map_next (hg : o.guard = none) (it : Operand) (hop : o.op = Op.next it false) (b r sz : Nat) (f : Int → Option Value) (left : Int → Bool) (cnt : Nat)
    (hit : a.eval it = .pointer (some ⟨r, 0, none⟩)) (h : RangeV w b r f sz left cnt)
    (hDone : cnt = 0 → (∀ x, I64 x → left x = false) → wpList Tryd.prog ops Q rest (a.put o.dst (.tuple #[.bool false])) w)
    (hMore : ∀ (x : Int) (v : Value) (w' : World) (cnt' : Nat), I64 x → left x = true → f x = some v → RangeV w' b r f sz (fun y => left y && decide (y ≠ x)) cnt' → cnt' < cnt →
      w.grownBy w' (some r) → w'.heap.size = w.heap.size → (Instr.entry (.pointer (some ⟨r, 0, none⟩))).run Tryd.prog w' = .ok (.tuple #[.int .i64 x, v]) w' → wpList Tryd.prog ops Q rest (a.put o.dst (.tuple #[.bool true, .int .i64 x, v])) w') :
    wpList Tryd.prog ops Q (o :: rest) a w := by
  obtain ⟨D, lf, h1, hs, hag, hlf⟩ := h
  refine wpList_next_ranges w hg it hop 3 intK heldR (Value.int .i64) id (fun key kl hkey => by obtain ⟨x, rfl, _⟩ := Maps.keyOf_int_inv Tryd.underlying3 hkey; exact ⟨x, rfl⟩) (fun v y _ => ⟨v, rfl⟩)
    b r sz D lf cnt hit h1 (fun h0 hl => hDone h0 fun x hx => by rw [← hlf x hx]; exact hl _) (fun x c kl y w' cnt' hkey hlk hv hat hrg hlt hgr hsz hen => ?_)
  obtain ⟨x', ex, rfl, hwx⟩ := Maps.keyOf_int_inv Tryd.underlying3 hkey
  cases ex
  have hy : y.1 = .held c := by
    have hv' : heldR c = some y := hv
    unfold heldR at hv'
    cases hv'
    rfl
  have hf : f x = some c := by
    have ha := hag x hwx
    rcases hfx : f x with _ | u
    · rw [hfx] at ha
      have h2 := hat .nil
      rw [Maps.atKey_of_not_has ha.1, hy] at h2
      cases h2
    · have h2 := hat .nil
      rw [ha.2 u hfx, hy] at h2
      cases h2
      rfl
  refine hMore x c w' cnt' hwx (by rw [← hlf x hwx]; exact hlk) hf ⟨D, _, hrg, hs, hag, fun y hy => ?_⟩ hlt hgr hsz hen
  have hk : (Lit.int .i64 y).sameKey (.int .i64 x) = decide (y = x) := same_int y x
  simp only [hk, hlf y hy]
  refine congrArg (left y && ·) ?_
  by_cases e : y = x <;> simp [e]
end

/-- 'clear(m)'. -/
theorem MapV.clear {w : World} {b sz : Nat} {f : Int → Option Value} (h : MapV w b f sz) {t e : TypeId} (ht : Tryd.prog.underlying t = some (.map 3 e)) :
    ∃ w', (∀ ty, (Builtin.clear_ #[t] ty #[.map (some b)]).run Tryd.prog w = .ok (.tuple #[]) w') ∧ MapV w' b (fun _ => none) 0 ∧ w.grownBy w' (some b) := by
  obtain ⟨D, ⟨es, clock, hb, F, hs, hD⟩, h2⟩ := h
  have hlt : b < w.heap.size := (Array.getElem?_eq_some_iff.1 hb).1
  refine ⟨{ w with heap := w.heap.setIfInBounds b (.map #[] clock) }, fun ty => ?_, ⟨.map [], ⟨#[], clock, ?_, ⟨by simp, MapKept.stamped_empty clock, by simp⟩, Nat.le_refl _, rfl⟩, rfl, fun x _ => ⟨rfl, fun v h => by cases h⟩⟩, rfl, rfl, rfl, by simp, fun k hk hn => ?_⟩
  · simp [Builtin.clear_, run_underlying ht, MapKept.run_getObj_map hb, MapKept.run_setObj_map _ hb, Result.andThen]
  · show (w.heap.setIfInBounds b (.map #[] clock))[b]? = _
    simp [hlt]
  · show (w.heap.setIfInBounds b (.map #[] clock))[k]? = _
    exact Array.getElem?_setIfInBounds_ne fun e => hn (by rw [e])
end Go.Proofs.YteediemhcocgdaaDoor
