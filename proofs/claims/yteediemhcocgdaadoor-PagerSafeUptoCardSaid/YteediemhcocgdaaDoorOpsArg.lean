/-
  An argument of operations (a slice of structs), opened.
-/
import Derived.Test.YteediemhcocgdaaDoorRowsArg
import Derived.Test.YteediemhcocgdaaDoorDiskCrash
import Derived.Deep.Grids
namespace Go.Proofs.YteediemhcocgdaaDoor
open Go.ChangeShapes Go.WideShapes Go.ChangeAt Go.RowKit Go.Deep
open HeapP (at_)

/-- One operation. -/
structure OpD where
  Do : Int
  N : Int
  B : List UInt8
  Done : Bool
  Keep : List Bool
  Old : List Int
deriving Inhabited
/-- .. as it lies in memory. -/
def OpAt (W : World) (Bd g off : Nat) (o : OpD) : Prop :=
  ∃ Ab cb Ak ck Ao co, W.cell? ⟨g, off, none⟩ = some (.int .i64 o.Do) ∧ W.cell? ⟨g, off + 1, none⟩ = some (.int .i64 o.N) ∧ W.cell? ⟨g, off + 2, none⟩ = some (.slice Ab o.B.length cb) ∧
    W.cell? ⟨g, off + 3, none⟩ = some (.bool o.Done) ∧ W.cell? ⟨g, off + 4, none⟩ = some (.slice Ak o.Keep.length ck) ∧ W.cell? ⟨g, off + 5, none⟩ = some (.slice Ao o.Old.length co) ∧
    I64 o.Do ∧ I64 o.N ∧ Byt W Bd Ab o.B ∧ BIn W Ak o.Keep (fun g => g < Bd) ∧ IArg W Bd Ao o.Old ∧
    o.B.length ≤ cb ∧ cb ≤ 9223372036854775807 ∧ o.Keep.length ≤ ck ∧ o.Old.length ≤ co ∧ co ≤ 9223372036854775807 ∧ o.B.length ≤ 140737488351232 ∧ o.Keep.length ≤ 140737488351232 ∧ o.Old.length ≤ 140737488351232
/-- A slice of operations. -/
def OpsIn (W : World) (Bd : Nat) (A : Option Addr) (os : List OpD) : Prop := 0 < os.length → ∃ g off, A = some ⟨g, off, none⟩ ∧ g < Bd ∧ ∀ i o, os[i]? = some o → OpAt W Bd g (off + i * 6) o
theorem OpAt.below {W W' : World} {Bd g off : Nat} {o : OpD} (h : OpAt W Bd g off o) (hg : g < Bd) (hb : Below Bd W W') : OpAt W' Bd g off o := by
  obtain ⟨Ab, cb, Ak, ck, Ao, co, h0, h1, h2, h3, h4, h5, h6, h7, h8, h9, h10, h11⟩ := h
  have hc : ∀ i v, W.cell? ⟨g, i, none⟩ = some v → W'.cell? ⟨g, i, none⟩ = some v := fun i v hv => (World.cell?_of_block (hb.block g hg)).trans hv
  exact ⟨Ab, cb, Ak, ck, Ao, co, hc _ _ h0, hc _ _ h1, hc _ _ h2, hc _ _ h3, hc _ _ h4, hc _ _ h5, h6, h7, h8.below hb, h9.kept fun x hx _ => hb.block x hx, h10.below hb, h11⟩
theorem OpsIn.below {W W' : World} {Bd : Nat} {A : Option Addr} {os : List OpD} (h : OpsIn W Bd A os) (hb : Below Bd W W') : OpsIn W' Bd A os := fun hl => by
  obtain ⟨g, off, hA, hg, hc⟩ := h hl
  exact ⟨g, off, hA, hg, fun i o ho => (hc i o ho).below hg hb⟩

section
variable {H : Type} {enc : TypeId × Value → H} {W : World}
theorem cell_plain {a : Addr} {n : Nat} (hn : 0 < n) {F : Nat → Value} (hc : ∀ i, i < n → W.cell? (a.add i) = some (F i)) : ∃ b off, a = ⟨b, off, none⟩ ∧ b < W.heap.size ∧ ∀ i, i < n → W.cell? ⟨b, off + i, none⟩ = some (F i) := by
  have h0 := hc 0 hn
  rw [show a.add 0 = a by simp [Addr.add]] at h0
  have hs := spot_none h0
  obtain ⟨b, off, spot⟩ := a
  simp only at hs
  subst hs
  refine ⟨b, off, rfl, lt_of_cell h0, fun i hi => ?_⟩
  have := hc i hi
  rw [show (⟨b, off, none⟩ : Addr).add i = ⟨b, off + i, none⟩ by unfold Addr.add; split <;> simp_all] at this
  exact this
theorem cells_bytes {fuel : Nat} {cs : List Value} {x : DataW H × List MemPlace} (h : DataW.trod enc Tryd.prog W 0 (fun _ => true) true fuel 23 cs = some x) :
    ∃ A c l, cs = [.slice A (List.length (α := UInt8) l) c] ∧ l.length ≤ c ∧ c ≤ 9223372036854775807 ∧ Byt W W.heap.size A l ∧ ((∀ n ∈ x.1.weights Tryd.prog 23, n ≤ 140737488351232) → l.length ≤ 140737488351232) := by
  rcases open_ints Tryd.underlying23 Tryd.underlying5 (by kernel_rfl) h with ⟨rfl, rfl⟩ | ⟨a, len, cap, zs, rfl, _, hl, hm, hz, rfl, hcell, hwz⟩
  · exact ⟨none, 0, [], rfl, Nat.le_refl _, by omega, Byt.nil _ _ _, fun _ => by simp⟩
  · simp only [if_true] at hz
    have hlen : ((zs.take len).map fun n => UInt8.ofNat n.toNat).length = len := by simp; omega
    refine ⟨some a, cap, (zs.take len).map fun n => UInt8.ofNat n.toNat, by rw [hlen], by rw [hlen]; exact hl, by unfold maxLen at hm; omega, ?_, fun hw => ?_⟩
    · intro hpos
      rw [hlen] at hpos
      obtain ⟨b, off, rfl, hb, hc⟩ := cell_plain (n := zs.length) (by omega) hcell
      refine ⟨b, off, rfl, hb, fun i hi => ?_⟩
      rw [hlen] at hi
      have hi' : i < zs.length := by omega
      rw [hc i hi']
      have hw := bounds_u8 (hwz zs[i] (List.getElem_mem hi'))
      congr 2
      simp only [List.getD_eq_getElem?_getD, List.getElem?_map, List.getElem?_take_of_lt hi, List.getElem?_eq_getElem hi', Option.map_some, Option.getD_some]
      rw [UInt8.toNat_ofNat']
      omega
    · rw [hlen]
      have := hw (((lits .u8 (zs.take len) : List (DataW H)).length + (lits .u8 (zs.drop len) : List (DataW H)).length) * Tryd.prog.bytesOf 5) (by
        unfold DataW.weights
        rw [Tryd.underlying23]
        exact List.mem_cons_self)
      rw [show Tryd.prog.bytesOf 5 = 1 by kernel_rfl] at this
      simp [lits] at this
      omega
theorem cells_ints {fuel : Nat} {cs : List Value} {x : DataW H × List MemPlace} (h : DataW.trod enc Tryd.prog W 0 (fun _ => true) true fuel 41 cs = some x) :
    ∃ A c l, cs = [.slice A (List.length (α := Int) l) c] ∧ l.length ≤ c ∧ c ≤ 9223372036854775807 ∧ IArg W W.heap.size A l ∧ ((∀ n ∈ x.1.weights Tryd.prog 41, n ≤ 140737488351232) → l.length ≤ 140737488351232) := by
  rcases open_ints Tryd.underlying41 Tryd.underlying3 (by kernel_rfl) h with ⟨rfl, rfl⟩ | ⟨a, len, cap, zs, rfl, _, hl, hm, hz, rfl, hcell, hwz⟩
  · exact ⟨none, 0, [], rfl, Nat.le_refl _, by omega, fun h => absurd h (by simp), fun _ => by simp⟩
  · simp only [if_true] at hz
    have hlen : (zs.take len).length = len := by simp; omega
    refine ⟨some a, cap, zs.take len, by rw [hlen], by rw [hlen]; exact hl, by unfold maxLen at hm; omega, ?_, fun hw => ?_⟩
    · intro hpos
      rw [hlen] at hpos
      obtain ⟨b, off, rfl, hb, hc⟩ := cell_plain (n := zs.length) (by omega) hcell
      refine ⟨b, off, rfl, hb, fun i hi => ?_⟩
      rw [hlen] at hi
      have hi' : i < zs.length := by omega
      rw [hc i hi']
      have e : at_ (zs.take len) i = zs[i] := by
        unfold at_
        rw [List.getD_eq_getElem?_getD, List.getElem?_take_of_lt hi, List.getElem?_eq_getElem hi']
        rfl
      rw [e, List.getD_eq_getElem?_getD, List.getElem?_eq_getElem hi']
      rfl
    · rw [hlen]
      have := hw (((lits .i64 (zs.take len) : List (DataW H)).length + (lits .i64 (zs.drop len) : List (DataW H)).length) * Tryd.prog.bytesOf 3) (by
        unfold DataW.weights
        rw [Tryd.underlying41]
        exact List.mem_cons_self)
      rw [show Tryd.prog.bytesOf 3 = 8 by kernel_rfl] at this
      simp [lits] at this
      omega
theorem cells_bools {fuel : Nat} {cs : List Value} {x : DataW H × List MemPlace} (h : DataW.trod enc Tryd.prog W 0 (fun _ => true) true fuel 65 cs = some x) :
    ∃ A c l, cs = [.slice A (List.length (α := Bool) l) c] ∧ l.length ≤ c ∧ BIn W A l (fun g => g < W.heap.size) ∧ ((∀ n ∈ x.1.weights Tryd.prog 65, n ≤ 140737488351232) → l.length ≤ 140737488351232) := by
  rcases open_bools Tryd.underlying65 Tryd.underlying4 (by kernel_rfl) h with ⟨rfl, rfl⟩ | ⟨a, len, cap, B, rfl, _, hl, hm, rfl, hcell⟩
  · exact ⟨none, 0, [], rfl, Nat.le_refl _, fun h => absurd h (by simp), fun _ => by simp⟩
  · have hlen : ((List.range len).map B).length = len := by simp
    refine ⟨some a, cap, (List.range len).map B, by rw [hlen], by rw [hlen]; exact hl, fun hp => ?_, fun hw => ?_⟩
    · rw [hlen] at hp
      obtain ⟨b, off, rfl, hb, hc⟩ := cell_plain (n := cap) (by omega) (F := fun i => .bool (B i)) hcell
      refine ⟨b, off, rfl, hb, fun i hi => ?_⟩
      rw [hlen] at hi
      rw [hc i (by omega), List.getD_eq_getElem?_getD, List.getElem?_map, List.getElem?_range hi]
      rfl
    · rw [hlen]
      have := hw ((((List.range len).map fun i => (.lit (.bool (B i)) : DataW H)).length + ((List.range (cap - len)).map fun j => (.lit (.bool (B (len + j))) : DataW H)).length) * Tryd.prog.bytesOf 4) (by
        unfold boolRow DataW.weights
        rw [Tryd.underlying65]
        exact List.mem_cons_self)
      rw [show Tryd.prog.bytesOf 4 = 1 by kernel_rfl] at this
      simp at this
      omega
set_option maxRecDepth 100000 in
theorem cells_op {fuel : Nat} {cs : List Value} {x : DataW H × List MemPlace} {g off : Nat} (h : DataW.trod enc Tryd.prog W 0 (fun _ => true) true fuel 78 cs = some x) (hc : ∀ i, i < 6 → W.cell? ⟨g, off + i, none⟩ = cs[i]?) (hw : ∀ n ∈ x.1.weights Tryd.prog 78, n ≤ 140737488351232) : ∃ o, OpAt W W.heap.size g off o := by
  obtain ⟨xs, n, rfl, rfl, hlen, hxl, hf⟩ := DataW.trod_struct Tryd.underlying78 h
  rw [show Tryd.prog.cellsOf 78 = 6 by kernel_rfl] at hlen
  match xs, hxl, cs, hlen with
  | [y0, y1, y2, y3, y4, y5], _, [v0, v1, v2, v3, v4, v5], _ =>
    have g0 := hf 0 _ rfl
    have g1 := hf 1 _ rfl
    have g2 := hf 2 _ rfl
    have g3 := hf 3 _ rfl
    have g4 := hf 4 _ rfl
    have g5 := hf 5 _ rfl
    simp [show Tryd.prog.cellsOf 3 = 1 by kernel_rfl, show Tryd.prog.cellsOf 23 = 1 by kernel_rfl, show Tryd.prog.cellsOf 4 = 1 by kernel_rfl, show Tryd.prog.cellsOf 65 = 1 by kernel_rfl, show Tryd.prog.cellsOf 41 = 1 by kernel_rfl] at g0 g1 g2 g3 g4 g5
    have hwE : ∀ n ∈ DataW.weightsEach Tryd.prog [3, 3, 23, 4, 65, 41] [y0.1, y1.1, y2.1, y3.1, y4.1, y5.1], n ≤ 140737488351232 := fun n hn => hw n (by
      unfold DataW.weights
      rw [Tryd.underlying78]
      exact hn)
    obtain ⟨n0, e0, _, w0⟩ := DataW.trod_int Tryd.underlying3 g0
    obtain ⟨n1, e1, _, w1⟩ := DataW.trod_int Tryd.underlying3 g1
    obtain ⟨A2, c2, l2, e2, k2, m2, b2, s2⟩ := cells_bytes g2
    obtain ⟨b3, e3, _⟩ := DataW.trod_bool Tryd.underlying4 g3
    obtain ⟨A4, c4, l4, e4, k4, b4, s4⟩ := cells_bools g4
    obtain ⟨A5, c5, l5, e5, k5, m5, b5, s5⟩ := cells_ints g5
    injection e0 with e0; injection e1 with e1; injection e2 with e2; injection e3 with e3; injection e4 with e4; injection e5 with e5
    subst e0 e1 e2 e3 e4 e5
    have i0 : I64 n0 := i64_of (bounds_i64 w0).1 (bounds_i64 w0).2
    have i1 : I64 n1 := i64_of (bounds_i64 w1).1 (bounds_i64 w1).2
    exact ⟨⟨n0, n1, l2, b3, l4, l5⟩, A2, c2, A4, c4, A5, c5, hc 0 (by omega), hc 1 (by omega), hc 2 (by omega), hc 3 (by omega), hc 4 (by omega), hc 5 (by omega), i0, i1, b2, b4, b5, k2, m2, k4, k5, m5,
      s2 fun n hn => hwE n (DataW.weights_mem_each (j := 2) rfl rfl n hn), s4 fun n hn => hwE n (DataW.weights_mem_each (j := 4) rfl rfl n hn), s5 fun n hn => hwE n (DataW.weights_mem_each (j := 5) rfl rfl n hn)⟩
set_option maxRecDepth 100000 in
theorem open_ops {base : Nat} {v : Value} {d : DataW H} {p : List MemPlace} {ts : List TypeId} {ds : List (DataW H)} {j : Nat}
    (hval : Value.okWide Tryd.prog W .any base 75 v) (h : DataW.Trod enc Tryd.prog W 0 (fun _ => true) true 75 v d p) (hsz : (DataW.weightsEach Tryd.prog ts ds).all (· ≤ reachBytes) = true) (ht : ts[j]? = some 75) (hd : ds[j]? = some d) :
    ∃ (A : Option Addr) (c : Nat) (os : List OpD), v = .slice A os.length c ∧ os.length ≤ c ∧ OpsIn W W.heap.size A os ∧ os.length ≤ 140737488351232 ∧ (os = [] ∨ ∃ elems spare, d = .slice elems spare ∧ elems.length = os.length) := by
  obtain ⟨a0, len, cap, rfl⟩ := okWide_slice Tryd.underlying75 hval
  obtain ⟨fuel, hf⟩ := h
  have h2 : reachBytes = 140737488351232 := by decide
  have hwall : ∀ n ∈ d.weights Tryd.prog 75, n ≤ 140737488351232 := fun n hn => by
    have := List.all_eq_true.1 hsz _ (DataW.weights_mem_each ht hd n hn)
    have := of_decide_eq_true this
    omega
  rcases open_slice Tryd.underlying75 hf with ⟨hcs, hx⟩ | ⟨a, len', cap', m, n, D, Pl, hcs, hb, hl, hm, hmm, hx, hel⟩
  · obtain ⟨rfl, rfl, rfl⟩ : a0 = none ∧ len = 0 ∧ cap = 0 := by simpa [Value.cells] using hcs
    exact ⟨none, 0, [], rfl, Nat.le_refl _, fun h => absurd h (by simp), by simp, .inl rfl⟩
  · obtain ⟨rfl, rfl, rfl⟩ : a0 = some a ∧ len = len' ∧ cap = cap' := by simpa [Value.cells] using hcs
    simp only [if_true] at hmm
    subst hmm
    simp only [Prod.mk.injEq] at hx
    obtain ⟨rfl, rfl⟩ := hx
    have hw0 := hwall ((((List.range len).map D).length + ((List.range (m - len)).map fun j => D (len + j)).length) * Tryd.prog.bytesOf 78) (by
      unfold DataW.weights
      rw [Tryd.underlying75]
      exact List.mem_cons_self)
    rw [show Tryd.prog.bytesOf 78 = 96 by kernel_rfl] at hw0
    simp only [List.length_map, List.length_range] at hw0
    by_cases hpos : 0 < len
    · have hs : a.spot = none := by
        obtain ⟨cs', h3, h4⟩ := hel 0 (by omega)
        rw [show Tryd.prog.cellsOf 78 = 6 by kernel_rfl] at h3
        obtain ⟨_, hlen, hcell⟩ := World.cells?_some h3
        have h0 := hcell 0 (by omega)
        rw [List.getElem?_eq_getElem (by omega), show (a.add (0 * 6)).add 0 = a by simp [Addr.add]] at h0
        exact spot_none h0
      obtain ⟨b, off, spot⟩ := a
      simp only at hs
      subst hs
      have each : ∀ i, i < len → ∃ o, OpAt W W.heap.size b (off + i * 6) o := fun i hi => by
        obtain ⟨cs', h3, h4⟩ := hel i (by omega)
        rw [show Tryd.prog.cellsOf 78 = 6 by kernel_rfl] at h3
        obtain ⟨_, hlen, hcell⟩ := World.cells?_some h3
        exact cells_op (g := b) (off := off + i * 6) h4 (fun k hk => by
          have := hcell k hk
          rw [add_add, add_plain] at this
          rw [← this, Nat.add_assoc]) (fun n hn => hwall n (by
            unfold DataW.weights
            rw [Tryd.underlying75]
            exact List.mem_cons_of_mem _ (List.mem_append_left _ (weights_in _ _ (List.mem_map.2 ⟨i, List.mem_range.2 hi, rfl⟩) hn))))
      obtain ⟨f, hfo⟩ := choose_lt each
      have hlen : ((List.range len).map f).length = len := by simp
      refine ⟨some ⟨b, off, none⟩, m, (List.range len).map f, by rw [hlen], by rw [hlen]; exact hl, fun _ => ?_, by rw [hlen]; omega, .inr ⟨_, _, rfl, by rw [hlen]; simp⟩⟩
      obtain ⟨Ab, cb, Ak, ck, Ao, co, h0, _⟩ := hfo 0 hpos
      refine ⟨b, off, rfl, lt_of_cell h0, fun i o ho => ?_⟩
      rw [List.getElem?_map] at ho
      by_cases hi : i < len
      · rw [List.getElem?_range hi] at ho
        cases ho
        exact hfo i hi
      · rw [List.getElem?_eq_none (by simp; omega)] at ho
        cases ho
    · obtain rfl : len = 0 := by omega
      exact ⟨some a, m, [], rfl, Nat.zero_le _, fun h => absurd h (by simp), by simp, .inl rfl⟩
end
end Go.Proofs.YteediemhcocgdaaDoor
