import Derived.Test.YteediemhcocgdaaDoorWalRange
import Derived.Test.YteediemhcocgdaaDoorWalAct2
import Derived.Test.YteediemhcocgdaaDoorWalRead
import Derived.Test.YteediemhcocgdaaDoorAppRun
/-
  wal's Open: what it makes of an area's sectors, and what lies in memory meanwhile.
-/
namespace Go.Proofs.YteediemhcocgdaaDoor
open Go.RowKit
open WalP (Stamp secs readR)

/-- What Open has made of the sectors so far. -/
structure Scan where
  out : List (List UInt8)
  rc : List UInt8
  parts : Nat
  part : Nat
  used : Nat
def Scan.start : Scan := ⟨[], [], 0, 0, 0⟩
def Scan.ps (s : Scan) (st : Stamp) : Nat := if s.part = 0 then st.ps else s.parts
/-- Does a sector go on with it? -/
def Scan.fits (ep : Nat) (s : Scan) (st : Stamp) : Prop := st.e = ep ∧ st.r = s.out.length ∧ st.p = s.part ∧ st.ps = s.ps st ∧ s.part < s.ps st
instance (ep : Nat) (s : Scan) (st : Stamp) : Decidable (s.fits ep st) := by unfold Scan.fits; infer_instance
def scan1 (ep i : Nat) (l : List UInt8) (s : Scan) : Option Scan :=
  match readR l with
  | none => none
  | some (st, b) =>
    if s.fits ep st then
      if s.part + 1 < s.ps st then (if st.l < 492 then none else some { s with rc := s.rc ++ b, parts := s.ps st, part := s.part + 1 })
      else if secs (s.rc ++ b).length = s.ps st then some { out := s.out ++ [s.rc ++ b], rc := [], parts := s.ps st, part := 0, used := i + 1 } else none
    else none
/-- So many sectors read, and none refused. -/
def scanTo (ep : Nat) (f : Nat → List UInt8) : Nat → Option Scan
  | 0 => some .start
  | k + 1 => (scanTo ep f k).bind (scan1 ep k (f k))
/-- What Open finds. -/
def found (ep : Nat) (f : Nat → List UInt8) : Nat → Scan
  | 0 => .start
  | k + 1 => match scanTo ep f (k + 1) with
    | some s => s
    | none => found ep f k
theorem found_all {ep : Nat} {f : Nat → List UInt8} {s : Scan} : ∀ {k : Nat}, scanTo ep f k = some s → found ep f k = s
  | 0, h => by cases h; rfl
  | k + 1, h => by unfold found; rw [h]
theorem found_stop {ep : Nat} {f : Nat → List UInt8} {s : Scan} {k : Nat} (h : scanTo ep f k = some s) (h1 : scanTo ep f (k + 1) = none) : ∀ j, found ep f (k + 1 + j) = s
  | 0 => by rw [Nat.add_zero]; unfold found; rw [h1]; exact found_all h
  | j + 1 => by
    have hn : ∀ i, scanTo ep f (k + 1 + i) = none := fun i => by
      induction i with
      | zero => exact h1
      | succ i ih => rw [← Nat.add_assoc]; unfold scanTo; rw [ih]; rfl
    rw [← Nat.add_assoc]
    unfold found
    rw [show k + 1 + j + 1 = k + 1 + (j + 1) by omega, hn (j + 1)]
    exact found_stop h h1 j
theorem found_cut {ep : Nat} {f : Nat → List UInt8} {s : Scan} {k m : Nat} (h : scanTo ep f k = some s) (h1 : scanTo ep f (k + 1) = none) (hm : k < m) : found ep f m = s := by
  obtain ⟨j, rfl⟩ : ∃ j, m = k + 1 + j := ⟨m - (k + 1), by omega⟩
  exact found_stop h h1 j

/-! ### In memory -/
/-- Blocks of cells lie as they lay. -/
structure Cl (W W' : World) : Prop where
  size : W.heap.size ≤ W'.heap.size
  same : ∀ (g : Nat) (o : Obj), W.heap[g]? = some o → o.isCells = true → W'.heap[g]? = W.heap[g]?
theorem Cl.of_grown {W W' : World} {row : Option Nat} (hg : W.grownBy W' row) (hr : ∀ r, row = some r → ∃ o : Obj, W.heap[r]? = some o ∧ o.isCells = false) : Cl W W' :=
  ⟨hg.size, fun g o h ho => hg.block g (Array.getElem?_eq_some_iff.1 h).1 fun e => by
    obtain ⟨o', ho', hc⟩ := hr g e.symm
    rw [h] at ho'
    cases ho'
    rw [ho] at hc
    cases hc⟩
theorem Cl.of_below {W W' : World} (h : Below W.heap.size W W') : Cl W W' := .of_grown (grown_of_below h) (fun r e => by cases e)
theorem Blk.cl {W W' : World} {g : Nat} {t : TypeId} {cs : List Value} (h : Blk W g t cs) (hc : Cl W W') : Blk W' g t cs := (hc.same g _ h rfl).trans h
theorem ownsRow_cl {W W' : World} {base : Nat} {e : TypeId} {size : Nat} {v : Value} {n : Nat} {xs : List Value} (h : W.ownsRow base e size v n xs) (hc : Cl W W') : W'.ownsRow base e size v n xs := by
  refine ⟨h.1, h.2.imp id ?_⟩
  rintro ⟨g, cap, cur, hv, hg, hh, r⟩
  exact ⟨g, cap, cur, hv, hg, (hc.same g _ hh rfl).trans hh, r⟩
theorem Own.cl {W W' : World} {base c : Nat} {A : Option Addr} {l : List UInt8} (h : Own W base A c l) (hc : Cl W W') : Own W' base A c l := ownsRow_cl h hc
theorem Own.row {W W' : World} {base c : Nat} {A : Option Addr} {l : List UInt8} {row : Option Nat} (h : Own W base A c l) (hg : W.grownBy W' row) (hne : ∀ g, blkOf A = some g → row ≠ some g) : Own W' base A c l :=
  World.ownsRow.kept h hg (by
    rw [ownBlock_slice]
    cases hA : blkOf A with
    | none => exact .inl rfl
    | some g => exact .inr fun e => hne g hA e.symm)

/-- A row among rows: where it lies, how much it has room for, its bytes. -/
abbrev RowB := Option Addr × Nat × List UInt8
def rv (r : RowB) : Value := .slice r.1 r.2.2.length r.2.1
/-- A slice of slices of the call's own. -/
def RowsAt (W : World) (B Br : Nat) (v : Value) (ls : List (List UInt8)) : Prop :=
  ∃ rs : List RowB, rs.map (·.2.2) = ls ∧ W.ownsRow B 23 1 v rs.length (rs.map rv) ∧ (∀ r ∈ rs, Own W B r.1 r.2.1 r.2.2 ∧ ∀ g, blkOf r.1 = some g → g < Br) ∧ rs.Pairwise fun r r' => ∀ g, blkOf r.1 = some g → blkOf r'.1 ≠ some g
theorem RowsAt.nil (W : World) (B Br : Nat) : RowsAt W B Br (.slice none 0 0) [] := ⟨[], rfl, World.ownsRow_nil W B _ _, by simp, .nil⟩
theorem RowsAt.cl {W W' : World} {B Br : Nat} {v : Value} {ls : List (List UInt8)} (h : RowsAt W B Br v ls) (hc : Cl W W') : RowsAt W' B Br v ls := by
  obtain ⟨rs, h1, h2, h3, h4⟩ := h
  exact ⟨rs, h1, ownsRow_cl h2 hc, fun r hr => ⟨(h3 r hr).1.cl hc, (h3 r hr).2⟩, h4⟩
theorem RowsAt.more {W : World} {B Br Br' : Nat} {v : Value} {ls : List (List UInt8)} (h : RowsAt W B Br v ls) (hb : Br ≤ Br') : RowsAt W B Br' v ls := by
  obtain ⟨rs, h1, h2, h3, h4⟩ := h
  exact ⟨rs, h1, h2, fun r hr => ⟨(h3 r hr).1, fun g hg => Nat.lt_of_lt_of_le ((h3 r hr).2 g hg) hb⟩, h4⟩
/-- A block turns that is none of its: not of slices, and not below Br. -/
theorem RowsAt.row {W W' : World} {B Br : Nat} {v : Value} {ls : List (List UInt8)} {row : Option Nat} (h : RowsAt W B Br v ls) (hg : W.grownBy W' row) (hr : ∀ r, row = some r → Br ≤ r ∧ v.ownBlock ≠ some r) : RowsAt W' B Br v ls := by
  obtain ⟨rs, h1, h2, h3, h4⟩ := h
  refine ⟨rs, h1, World.ownsRow.kept h2 hg ?_, fun r hr' => ⟨(h3 r hr').1.row hg fun g hgg e => ?_, (h3 r hr').2⟩, h4⟩
  · cases hv : v.ownBlock with
    | none => exact .inl rfl
    | some g => exact .inr fun e => (hr g e.symm).2 hv
  · have := (hr g e).1
    have := (h3 r hr').2 g hgg
    omega
theorem RowsAt.len {W : World} {B Br : Nat} {v : Value} {ls : List (List UInt8)} (h : RowsAt W B Br v ls) : ∃ A c, v = .slice A ls.length c ∧ ls.length ≤ c := by
  obtain ⟨rs, rfl, ⟨h2, (⟨hv, h0⟩ | ⟨g, cap, cur, hv, _, _, hc, _⟩)⟩, h3, h4⟩ := h
  · refine ⟨none, 0, ?_, ?_⟩
    · rw [List.length_map, h0]; exact hv
    · rw [List.length_map]; omega
  · exact ⟨_, cap, by rw [List.length_map]; exact hv, by rw [List.length_map]; exact hc⟩
/-- Another row behind them. -/
theorem RowsAt.snoc {W W' : World} {B Br Br' : Nat} {v v' : Value} {ls : List (List UInt8)} {A : Option Addr} {c : Nat} {l : List UInt8} (rs : List RowB) (h1 : rs.map (·.2.2) = ls) (h3 : ∀ r ∈ rs, Own W B r.1 r.2.1 r.2.2 ∧ ∀ g, blkOf r.1 = some g → g < Br) (h4 : rs.Pairwise fun r r' => ∀ g, blkOf r.1 = some g → blkOf r'.1 ≠ some g)
    (hg : W.grownBy W' v.ownBlock) (hv : W'.ownsRow B 23 1 v' (rs.length + 1) (rs.map rv ++ [rv (A, c, l)]))
    (ho : Own W' B A c l) (hBr : Br ≤ Br') (hA : ∀ g, blkOf A = some g → Br ≤ g ∧ g < Br') (hne : ∀ (g : Nat) (cs : Array Value) t r, v.ownBlock = some g → W.heap[g]? = some (Obj.cells cs t r) → t = 23) : RowsAt W' B Br' v' (ls ++ [l]) := by
  refine ⟨rs ++ [(A, c, l)], by simp [h1], by simpa using hv, ?_, ?_⟩
  · intro r hr
    rcases List.mem_append.1 hr with hr | hr
    · refine ⟨(h3 r hr).1.row hg fun g hgg e => ?_, fun g hg => Nat.lt_of_lt_of_le ((h3 r hr).2 g hg) hBr⟩
      obtain ⟨_, (⟨hv0, _⟩ | ⟨g', cap, cur, hv0, _, hh, _⟩)⟩ := (h3 r hr).1
      · injection hv0 with hA0
        rw [hA0] at hgg
        cases hgg
      · injection hv0 with hA0
        rw [hA0] at hgg
        cases hgg
        have := hne g' _ _ _ e hh
        revert this
        decide
    · obtain rfl := List.mem_singleton.1 hr
      exact ⟨ho, fun g hg => (hA g hg).2⟩
  · rw [List.pairwise_append]
    refine ⟨h4, List.pairwise_singleton _ _, fun r hr r' hr' g hg1 hg2 => ?_⟩
    obtain rfl := List.mem_singleton.1 hr'
    have := (hA g hg2).1
    have := (h3 r hr).2 g hg1
    omega
theorem rows_ownBlock {W : World} {B Br : Nat} {v : Value} {ls : List (List UInt8)} (h : RowsAt W B Br v ls) : ∀ (g : Nat) (cs : Array Value) t r, v.ownBlock = some g → W.heap[g]? = some (Obj.cells cs t r) → t = 23 := fun g cs t r hg hh => by
  obtain ⟨rs, h1, ⟨h2, (⟨hv, h0⟩ | ⟨g', cap, cur, hv, _, hh', hc, _⟩)⟩, h3, h4⟩ := h
  · rw [hv] at hg; cases hg
  · rw [hv] at hg
    cases hg
    rw [hh'] at hh
    cases hh
    rfl

/-! ### Bounds -/
theorem readR_l {l : List UInt8} {st : Stamp} {p : List UInt8} (h : readR l = some (st, p)) : st.l ≤ 492 ∧ p.length ≤ 492 := by
  unfold readR at h
  split at h
  · cases h
  · split at h
    · cases h
    · split at h
      · injection h with h
        injection h with h1 h2
        subst h1 h2
        refine ⟨by omega, ?_⟩
        simp
        omega
      · cases h
theorem scan_len {ep : Nat} {f : Nat → List UInt8} : ∀ {k : Nat} {s : Scan}, scanTo ep f k = some s → s.rc.length ≤ 492 * k ∧ s.out.length ≤ k ∧ s.used ≤ k ∧ s.part ≤ k
  | 0, s, h => by cases h; exact ⟨by simp [Scan.start], by simp [Scan.start], by simp [Scan.start], by simp [Scan.start]⟩
  | k + 1, s, h => by
    unfold scanTo at h
    rw [Option.bind_eq_some_iff] at h
    obtain ⟨t, ht, hs⟩ := h
    obtain ⟨a1, a2, a3, a4⟩ := scan_len ht
    unfold scan1 at hs
    split at hs
    · cases hs
    · rename_i st p hr
      have hp := (readR_l hr).2
      split at hs
      · split at hs
        · split at hs
          · cases hs
          · cases hs
            exact ⟨by simp; omega, by simp; omega, by simp; omega, by simp; omega⟩
        · split at hs
          · cases hs
            exact ⟨by simp, by simp; omega, by simp, by simp⟩
          · cases hs
      · cases hs
/-! ### Boxes turn -/
theorem grown_set (W : World) (g i : Nat) (v : Value) : W.grownBy (W.setCell ⟨g, i, none⟩ v) (some g) := ⟨rfl, rfl, rfl, by simp, fun k hk hn => Below.heap_setCell W ⟨g, i, none⟩ v k fun e => hn (by rw [e])⟩
theorem Own.far {W : World} {base c : Nat} {A : Option Addr} {l : List UInt8} (h : Own W base A c l) {g : Nat} (hg : g < base) (i : Nat) (v : Value) : Own (W.setCell ⟨g, i, none⟩ v) base A c l :=
  h.row (grown_set W g i v) fun x hx e => by have := (h.blk_le x hx).1; injection e with e; omega
theorem RowsAt.far {W : World} {B Br : Nat} {v : Value} {ls : List (List UInt8)} (h : RowsAt W B Br v ls) {g : Nat} (hg : g < B) (i : Nat) (u : Value) : RowsAt (W.setCell ⟨g, i, none⟩ u) B Br v ls := by
  obtain ⟨rs, h1, h2, h3, h4⟩ := h
  refine ⟨rs, h1, World.ownsRow.kept h2 (grown_set W g i u) ?_, fun r hr => ⟨(h3 r hr).1.far hg i u, (h3 r hr).2⟩, h4⟩
  cases hv : v.ownBlock with
  | none => exact .inl rfl
  | some x =>
    refine .inr fun e => ?_
    have := (World.ownsRow.lt h2 x hv).1
    injection e with e
    omega
theorem Own.isRow {W : World} {base c : Nat} {A : Option Addr} {l : List UInt8} (h : Own W base A c l) {g : Nat} (hg : blkOf A = some g) : ∃ cur : Array Value, W.heap[g]? = some (Obj.cells cur 5 (0, 0)) := by
  obtain ⟨_, (⟨hv, _⟩ | ⟨g', cap, cur, hv, _, hh, _⟩)⟩ := h
  · injection hv with hA
    rw [hA] at hg
    cases hg
  · injection hv with hA
    rw [hA] at hg
    cases hg
    exact ⟨cur, hh⟩
theorem keeps_own {W W' : World} {base c : Nat} {A : Option Addr} {l : List UInt8} (h : Own W base A c l) (hg : W.grownBy W' (blkOf A)) : KeepsOthers W W' :=
  .of_grownBy hg fun j o hj ho => by
    obtain ⟨cur, hh⟩ := h.isRow hj
    rw [hh] at ho
    cases ho
    rfl
theorem keeps_below {W W' : World} (h : Below W.heap.size W W') : KeepsOthers W W' := .of_grownBy (grown_of_below h) fun j o hj => by cases hj
end Go.Proofs.YteediemhcocgdaaDoor

/-
  wal's Open: what lies in its variables; a record laid behind the others.
-/
namespace Go.Proofs.YteediemhcocgdaaDoor
open Go.RowKit
open WalP (Stamp secs readR)

/-- What lies in Open's variables: b, b + 1, .. are their blocks. -/
structure St (b db frm many ep : Nat) (W : World) (s : Scan) (v : Value) (A : Option Addr) (c Br : Nat) : Prop where
  eb : Blk W b 3 [.int .i64 ep]
  lg : Blk W (b + 1) 105 (LV.cells ⟨db, frm, many, ep, s.out.length, s.used, false⟩)
  lx : Blk W (b + 2) 56 [.pointer (some ⟨b + 1, 0, none⟩)]
  ob : Blk W (b + 3) 36 [v]
  rb : Blk W (b + 4) 23 [.slice A s.rc.length c]
  pb : Blk W (b + 5) 3 [.int .i64 s.parts]
  qb : Blk W (b + 6) 3 [.int .i64 s.part]
  xb : Blk W (b + 7) 46 [.nilIface]
  dx : Blk W (b + 8) 49 [.pointer (some ⟨db, 0, none⟩)]
  fx : Blk W (b + 9) 3 [.int .i64 frm]
  le : b + 12 ≤ Br ∧ Br ≤ W.heap.size
  rc : Own W Br A c s.rc
  out : RowsAt W (b + 12) Br v s.out
theorem St.cl {b db frm many ep : Nat} {W W' : World} {s : Scan} {v : Value} {A : Option Addr} {c Br : Nat} (h : St b db frm many ep W s v A c Br) (hc : Cl W W') : St b db frm many ep W' s v A c Br :=
  ⟨h.eb.cl hc, h.lg.cl hc, h.lx.cl hc, h.ob.cl hc, h.rb.cl hc, h.pb.cl hc, h.qb.cl hc, h.xb.cl hc, h.dx.cl hc, h.fx.cl hc, ⟨h.le.1, Nat.le_trans h.le.2 hc.size⟩, h.rc.cl hc, h.out.cl hc⟩
/-- What is left where Open stops. -/
structure StX (b db frm many ep : Nat) (W : World) (s : Scan) (v : Value) : Prop where
  lg : Blk W (b + 1) 105 (LV.cells ⟨db, frm, many, ep, s.out.length, s.used, false⟩)
  lx : Blk W (b + 2) 56 [.pointer (some ⟨b + 1, 0, none⟩)]
  ob : Blk W (b + 3) 36 [v]
  xb : Blk W (b + 7) 46 [.nilIface]
  out : ∃ Br, Br ≤ W.heap.size ∧ RowsAt W (b + 12) Br v s.out
theorem St.x {b db frm many ep : Nat} {W : World} {s : Scan} {v : Value} {A : Option Addr} {c Br : Nat} (h : St b db frm many ep W s v A c Br) : StX b db frm many ep W s v :=
  ⟨h.lg, h.lx, h.ob, h.xb, _, h.le.2, h.out⟩
theorem StX.cl {b db frm many ep : Nat} {W W' : World} {s : Scan} {v : Value} (h : StX b db frm many ep W s v) (hc : Cl W W') : StX b db frm many ep W' s v := by
  obtain ⟨Br, h1, h2⟩ := h.out
  exact ⟨h.lg.cl hc, h.lx.cl hc, h.ob.cl hc, h.xb.cl hc, Br, Nat.le_trans h1 hc.size, h2.cl hc⟩
theorem St.parts_ {b db frm many ep : Nat} {W : World} {s : Scan} {v : Value} {A : Option Addr} {c Br : Nat} (h : St b db frm many ep W s v A c Br) (p : Nat) :
    St b db frm many ep (W.setCell ⟨b + 5, 0, none⟩ (.int .i64 p)) { s with parts := p } v A c Br :=
  ⟨h.eb.far (by simp) _, h.lg.far (by simp) _, h.lx.far (by simp) _, h.ob.far (by simp) _, h.rb.far (by simp) _, h.pb.set_ 0 _, h.qb.far (by simp) _, h.xb.far (by simp) _, h.dx.far (by simp) _, h.fx.far (by simp) _, ⟨h.le.1, by simpa using h.le.2⟩, h.rc.far (by have := h.le.1; omega) _ _, h.out.far (by omega) _ _⟩
theorem St.part_ {b db frm many ep : Nat} {W : World} {s : Scan} {v : Value} {A : Option Addr} {c Br : Nat} (h : St b db frm many ep W s v A c Br) (p : Nat) :
    St b db frm many ep (W.setCell ⟨b + 6, 0, none⟩ (.int .i64 p)) { s with part := p } v A c Br :=
  ⟨h.eb.far (by simp) _, h.lg.far (by simp) _, h.lx.far (by simp) _, h.ob.far (by simp) _, h.rb.far (by simp) _, h.pb.far (by simp) _, h.qb.set_ 0 _, h.xb.far (by simp) _, h.dx.far (by simp) _, h.fx.far (by simp) _, ⟨h.le.1, by simpa using h.le.2⟩, h.rc.far (by have := h.le.1; omega) _ _, h.out.far (by omega) _ _⟩
theorem Blk.grownA {W W' : World} {g : Nat} {t : TypeId} {cs : List Value} (h : Blk W g t cs) {A : Option Addr} {base c : Nat} {l : List UInt8} (ho : Own W base A c l) (hg : W.grownBy W' (blkOf A)) (hn : t ≠ 5) : Blk W' g t cs :=
  h.grown hg fun e => ho.ne h hn e.symm
theorem St.app {b db frm many ep : Nat} {W W' : World} {s : Scan} {v : Value} {A A' : Option Addr} {c c' Br : Nat} {l : List UInt8} (h : St b db frm many ep W s v A c Br) (hg : W.grownBy W' (blkOf A)) (ho : Own W' Br A' c' l) :
    St b db frm many ep (W'.setCell ⟨b + 4, 0, none⟩ (.slice A' l.length c')) { s with rc := l } v A' c' Br :=
  ⟨(h.eb.grownA h.rc hg (by decide)).far (by simp) _, (h.lg.grownA h.rc hg (by decide)).far (by simp) _, (h.lx.grownA h.rc hg (by decide)).far (by simp) _, (h.ob.grownA h.rc hg (by decide)).far (by simp) _, (h.rb.grownA h.rc hg (by decide)).set_ 0 _, (h.pb.grownA h.rc hg (by decide)).far (by simp) _, (h.qb.grownA h.rc hg (by decide)).far (by simp) _, (h.xb.grownA h.rc hg (by decide)).far (by simp) _, (h.dx.grownA h.rc hg (by decide)).far (by simp) _, (h.fx.grownA h.rc hg (by decide)).far (by simp) _,
    ⟨h.le.1, by have := hg.size; have := h.le.2; simp; omega⟩, ho.far (by have := h.le.1; omega) _ _,
    (h.out.row hg (fun r hr => ⟨(h.rc.blk_le r hr).1, fun e => by
      obtain ⟨cur, hh⟩ := h.rc.isRow hr
      have := rows_ownBlock h.out r _ _ _ e hh
      revert this
      decide⟩)).far (by omega) _ _⟩
theorem byt_far {W : World} {B B' : Nat} {A : Option Addr} {l : List UInt8} (h : Byt W B A l) {g : Nat} {t : TypeId} {cs : List Value} (hb : Blk W g t cs) (hn : ∀ u ∈ cs, ∀ x, u ≠ .int .u8 x) (v : Value) (hB : B ≤ B') : Byt (W.setCell ⟨g, 0, none⟩ v) B' A l := fun hl => by
  obtain ⟨g', off, rfl, hg, hc⟩ := h hl
  refine ⟨g', off, rfl, by omega, fun i hi => ?_⟩
  have hne : g' ≠ g := fun e => by
    have h1 := hc 0 hl
    rw [e, hb.cell] at h1
    exact hn _ (List.mem_of_getElem? h1) _ rfl
  exact (World.cell?_of_block (Below.heap_setCell W ⟨g, 0, none⟩ v g' hne)).trans (hc i hi)
/-- A turn of St's plain data that leaves what it lays hold of. -/
theorem St.to {b db frm many ep : Nat} {W : World} {s s' : Scan} {v : Value} {A : Option Addr} {c Br : Nat} (h : St b db frm many ep W s v A c Br) (e : s = s') : St b db frm many ep W s' v A c Br := e ▸ h
def OpenJ (b db frm many ep : Nat) (w0 : World) (f : Nat → List UInt8) (k : Nat) (W : World) : Prop :=
  Below w0.heap.size w0 W ∧ ∃ s v A c Br, scanTo ep f k = some s ∧ St b db frm many ep W s v A c Br
def OpenX (b db frm many ep : Nat) (w0 : World) (f : Nat → List UInt8) (id : Nat) (W : World) : Prop :=
  id = 0 ∧ Below w0.heap.size w0 W ∧ ∃ k s v, k < many ∧ scanTo ep f k = some s ∧ scanTo ep f (k + 1) = none ∧ StX b db frm many ep W s v


theorem bytes_info : (Tryd.prog.info? 23).map (fun i => (i.zero, i.size, i.bytes)) = some (some (.slice none 0 0), 1, 24) := by kernel_rfl
/-- A record is laid behind the others: a copy of its own, then the row. -/
theorem rows_push {b db frm many ep : Nat} {D : World} {s : Scan} {v : Value} {A : Option Addr} {c Br : Nat} (h : St b db frm many ep D s v A c Br) (hl : s.rc.length ≤ 1099511627776) (hn : s.out.length ≤ 1099511627776) :
    ∃ A2 c2 M2 Ao co M4,
      (appSem #[23, 23] 23 #[.slice (some ⟨D.heap.size, 0, none⟩) 0 s.rc.length, .slice A s.rc.length c]).run Tryd.prog (D.alloc (.cells (madeCells #[.int .u8 0] s.rc.length) 5)) = .ok (.slice A2 s.rc.length c2) M2 ∧
      (appSem #[36, 36] 36 #[v, .slice (some ⟨M2.heap.size, 0, none⟩) 1 1]).run Tryd.prog (M2.alloc (.cells #[.slice A2 s.rc.length c2] 23)) = .ok (.slice Ao (s.out.length + 1) co) M4 ∧
      D.heap.size < M2.heap.size ∧ (∀ x, x < b + 12 → M2.heap[x]? = D.heap[x]?) ∧ (∀ x, x < b + 12 → M4.heap[x]? = D.heap[x]?) ∧ KeepsOthers D M4 ∧ (∀ B w0, B ≤ b → Below B w0 D → Below B w0 M4) ∧ D.heap.size ≤ M4.heap.size ∧
      RowsAt M4 (b + 12) M4.heap.size (.slice Ao (s.out.length + 1) co) (s.out ++ [s.rc]) := by
  have hle := h.le
  obtain ⟨i0, hi, hz0, hz1, hz2⟩ := info_parts bytes_info
  obtain ⟨M1, hM1⟩ : ∃ M1, D.alloc (.cells (madeCells #[.int .u8 0] s.rc.length) 5) = M1 := ⟨_, rfl⟩
  have hb1 : Below D.heap.size D M1 := by rw [← hM1]; exact (Below.refl _ _).alloc (Nat.le_refl _) _
  have hs1 : M1.heap.size = D.heap.size + 1 := by rw [← hM1]; simp
  have hown1 : Own M1 D.heap.size (some ⟨D.heap.size, 0, none⟩) s.rc.length [] := by rw [← hM1]; exact own_made D _ _ (Nat.le_refl _) (by omega)
  have hrc1 : Own M1 Br A c s.rc := h.rc.kept hb1
  obtain ⟨A2, c2, M2, hr2, ho2, hg2, hbl2⟩ := run_append_bytes M1 23 D.heap.size (some ⟨D.heap.size, 0, none⟩) s.rc.length [] hown1 M1.heap.size A c s.rc hrc1.byt (by simp; omega) (by omega)
  rw [List.nil_append] at hr2 ho2
  have hs2 := hg2.size
  have hblk2 : ∀ x, x < D.heap.size → M2.heap[x]? = D.heap[x]? := fun x hx => (hg2.block x (by omega) fun e => by injection e with e; simp at e; omega).trans (hb1.block x hx)
  obtain ⟨M3, hM3⟩ : ∃ M3, M2.alloc (.cells #[.slice A2 s.rc.length c2] 23) = M3 := ⟨_, rfl⟩
  have hb3 : Below M2.heap.size M2 M3 := by rw [← hM3]; exact (Below.refl _ _).alloc (Nat.le_refl _) _
  have hs3 : M3.heap.size = M2.heap.size + 1 := by rw [← hM3]; simp
  have hnew : Blk M3 M2.heap.size 23 [.slice A2 s.rc.length c2] := by rw [← hM3]; exact Blk.new M2 23 [.slice A2 s.rc.length c2]
  have hbel2 : Below D.heap.size D M2 := ⟨hg2.os.trans hb1.os, hg2.tape.trans hb1.tape, hg2.output.trans hb1.output, by omega, hblk2⟩
  have hbel3 : Below D.heap.size D M3 := hbel2.trans (hb3.mono (by omega))
  have hrows3 : RowsAt M3 (b + 12) Br v s.out := h.out.cl (.of_below hbel3)
  have ho3 : Own M3 D.heap.size A2 c2 s.rc := ho2.kept hb3
  obtain ⟨rs, hrs1, hrs2, hrs3, hrs4⟩ := id hrows3
  have hlen : rs.length = s.out.length := by rw [← hrs1]; simp
  obtain ⟨v', M4, hr4, ho4, hg4, hnil, hbl4⟩ := run_append_own_at (P := Tryd.prog) (w := M3) (b + 12) 36 36 23 i0 (.slice none 0 0) 1 24 Tryd.underlying36 hi hz0 hz1 hz2 rfl (by omega) v rs.length (rs.map rv) hrs2 ⟨M2.heap.size, 0, none⟩ 1 1 [.slice A2 s.rc.length c2] rfl
    (fun j u hj => by
      rcases j with _ | j
      · cases hj
        exact hnew.cell 0
      · cases hj) (by intro u hu; obtain rfl := List.mem_singleton.1 hu; rfl) (by unfold maxLen; omega) (by omega) (by omega)
  have hs4 := hg4.size
  have hvB : ∀ x, v.ownBlock = some x → b + 12 ≤ x ∧ x < D.heap.size := fun x hx => by
    obtain ⟨rs', _, h2', _⟩ := h.out
    exact World.ownsRow.lt h2' x hx
  obtain ⟨Ao, co, rfl⟩ : ∃ Ao co, v' = .slice Ao (s.out.length + 1) co := by
    obtain ⟨_, (⟨_, h0⟩ | ⟨g, cap, cur, hv, _⟩)⟩ := id ho4
    · omega
    · exact ⟨_, cap, by rw [hv, hlen]⟩
  refine ⟨A2, c2, M2, Ao, co, M4, ?_, ?_, by omega, fun x hx => hblk2 x (by omega), fun x hx => (hg4.block x (by omega) fun e => by have := hvB x e.symm; omega).trans ((hb3.block x (by omega)).trans (hblk2 x (by omega))), ?_, ?_, by omega, ?_⟩
  · rw [hM1, ← appSem_eq]; exact hr2
  · rw [hM3, ← appSem_eq]; exact hr4
  · exact (keeps_below hbel3).trans (.of_grownBy hg4 fun j o hj ho => by
      obtain ⟨_, (⟨hv, _⟩ | ⟨g, cap, cur, hv, _, hh, _⟩)⟩ := hrs2
      · rw [hv] at hj; cases hj
      · rw [hv] at hj
        cases hj
        rw [hh] at ho
        cases ho
        rfl)
  · intro B w0 hB hw
    exact (hw.trans (hbel3.mono (by have := hw.size; omega))).grown hg4 (by omega) fun x hx => by have := hvB x hx; omega
  · exact RowsAt.snoc (Br := Br) rs hrs1 hrs3 hrs4 hg4 (by rw [hlen] at ho4 ⊢; exact ho4) ((ho3.more (by omega)).row hg4 fun x hx e => by have := (ho3.blk_le x hx).1; have := hvB x e; omega) (by omega) (fun x hx => by have := (ho3.blk_le x hx); omega) (rows_ownBlock hrows3)
end Go.Proofs.YteediemhcocgdaaDoor
