/-
  A pool as its callers see it: its view; what a call keeps.
-/
import Derived.Test.YteediemhcocgdaaDoorFree
namespace Go.Proofs.YteediemhcocgdaaDoor
open Go.RowKit

/-- What a pool's callers see. -/
structure PV where
  d : Value
  frm : Int
  many : Int
  pg : Int → Option (Nat × List UInt8)
  tn : Nat
  fr : Int → Bool
  fn : Nat
  lf : Int → Bool
  ln : Nat
def PoolS.view (S : PoolS) : PV := { d := S.d, frm := S.frm, many := S.many, pg := S.pg, tn := S.tn, fr := S.fr, fn := S.fn, lf := S.lf, ln := S.ln }
def PV.free (V : PV) (x : Int) : Prop := 0 ≤ x ∧ x < V.many ∧ V.pg x = none ∧ V.fr x = false ∧ V.lf x = false
def PV.tk (V : PV) (n : Int) (g : Nat) : PV := { V with pg := fun x => if x = n then some (g, zeros 500) else V.pg x, tn := V.tn + 1 }
def PV.rmT (V : PV) (x : Int) : PV := { V with pg := fun y => if y = x then none else V.pg y, tn := V.tn - 1 }
def PV.rmF (V : PV) (x : Int) : PV := { V with fr := fun y => if y = x then false else V.fr y, fn := V.fn - 1, lf := fun y => if y = x then true else V.lf y, ln := V.ln + 1 }
def PV.wr (V : PV) (x : Int) (g : Nat) (m : List UInt8) : PV := { V with pg := fun y => if y = x then some (g, wrote m) else V.pg y }
def PV.open_ (d : Value) (frm many : Int) (l : List Int) : PV := { d := d, frm := frm, many := many, pg := fun _ => none, tn := 0, fr := fun x => l.contains x, fn := l.length, lf := fun _ => false, ln := 0 }

/-- A pool with view V at p; none of the blocks K is its own. -/
structure Pl (K : Nat → Prop) (w : World) (p : Nat) (V : PV) : Prop where
  ex : ∃ S : PoolS, S.view = V ∧ PoolAt w p S ∧ PoolOK S ∧ ∀ b, S.fp p b → ¬ K b
  lt : ∀ b, K b → b < w.heap.size

theorem Pl.keep {K : Nat → Prop} {w w' : World} {p : Nat} {V : PV} (h : Pl K w p V) (hk : Below w.heap.size w w') : Pl K w' p V := by
  obtain ⟨⟨S, hv, ha, hok, hf⟩, hl⟩ := h
  exact ⟨⟨S, hv, ha.keep fun b hb => hk.block b (ha.lt hb), hok, hf⟩, fun b hb => Nat.lt_of_lt_of_le (hl b hb) hk.size⟩
/-- What lies in K alone may turn. -/
theorem Pl.turnK {K : Nat → Prop} {w w' : World} {p : Nat} {V : PV} {fq : Nat → Prop} (h : Pl K w p V) (ht : Turn fq w w') (hq : ∀ b, fq b → K b ∨ w.heap.size ≤ b) : Pl K w' p V := by
  obtain ⟨⟨S, hv, ha, hok, hf⟩, hl⟩ := h
  refine ⟨⟨S, hv, ha.turn ht fun b hb hb2 => ?_, hok, hf⟩, fun b hb => Nat.lt_of_lt_of_le (hl b hb) ht.size⟩
  rcases hq b hb2 with h1 | h1
  · exact hf b hb h1
  · have := ha.lt hb; omega
theorem Pl.more {K K' : Nat → Prop} {w w' : World} {p : Nat} {V : PV} (h : Pl K w p V) (hk : Below w.heap.size w w') (hK : ∀ b, K' b → K b ∨ (w.heap.size ≤ b ∧ b < w'.heap.size)) : Pl K' w' p V := by
  obtain ⟨⟨S, hv, ha, hok, hf⟩, hl⟩ := h
  refine ⟨⟨S, hv, ha.keep fun b hb => hk.block b (ha.lt hb), hok, fun b hb hk2 => ?_⟩, fun b hb => ?_⟩
  · rcases hK b hk2 with h1 | ⟨h1, _⟩
    · exact hf b hb h1
    · have := ha.lt hb; omega
  · rcases hK b hb with h1 | ⟨_, h1⟩
    · exact Nat.lt_of_lt_of_le (hl b h1) hk.size
    · exact h1

theorem view_rn {S : PoolS} {A : Option Addr} {c : Nat} {gl : List Int} {m : Int} : ((S.row A c gl).nx m).view = S.view := rfl
theorem view_R {p : Nat} {S S' : PoolS} {w w' : World} (h : PoolR p S w S' w') : S'.view = S.view := by
  obtain ⟨A', c', gl', m, rfl⟩ := h.eq
  rfl
theorem Pl.of {K : Nat → Prop} {w w' : World} {p : Nat} {S S' : PoolS} (hf : ∀ b, S.fp p b → ¬ K b) (hl : ∀ b, K b → b < w.heap.size) (hs : w.heap.size ≤ w'.heap.size) (ha : PoolAt w' p S') (hok : PoolOK S') (hfp : ∀ b, S'.fp p b → S.fp p b ∨ w.heap.size ≤ b) : Pl K w' p S'.view :=
  ⟨⟨S', rfl, ha, hok, fun b hb hk => by
    rcases hfp b hb with h | h
    · exact hf b h hk
    · have := hl b hk; omega⟩, fun b hb => Nat.lt_of_lt_of_le (hl b hb) hs⟩
theorem kept_of {K : Nat → Prop} {w w' : World} {p : Nat} {S : PoolS} (hf : ∀ b, S.fp p b → ¬ K b) (ht : Turn (S.fp p) w w') : Kept K w w' := ht.mono hf

/-! ### The calls -/
theorem frozen_v {K : Nat → Prop} {w : World} {p : Nat} {V : PV} (h : Pl K w p V) {x : Int} (hx : I64 x) : Calls Tryd.prog 33 #[.pointer (some ⟨p, 0, none⟩), .int .i64 x] w fun e w' => e = .returned (.bool (V.fr x)) ∧ w = w' := by
  obtain ⟨⟨S, rfl, ha, hok, hf⟩, hl⟩ := h
  exact frozen_any p S x w ha hx

def TakeV (K : Nat → Prop) (p : Nat) (V : PV) (w : World) (e : Ending) (w' : World) : Prop :=
  Kept K w w' ∧ (((∀ x, ¬ V.free x) ∧ e = .returned (.tuple #[.int .i64 0, .int .i64 131]) ∧ Pl K w' p V) ∨
    ∃ n g, V.free n ∧ (∀ x, V.free x → n ≤ x) ∧ e = .returned (.tuple #[.int .i64 n, .int .i64 0]) ∧ Pl K w' p (V.tk n g))
theorem take_v {K : Nat → Prop} {w : World} {p : Nat} {V : PV} (h : Pl K w p V) : Calls Tryd.prog 35 #[.pointer (some ⟨p, 0, none⟩)] w (TakeV K p V w) := by
  obtain ⟨⟨S, rfl, ha, hok, hf⟩, hl⟩ := h
  refine (take_any p S w ha hok).mono ?_
  rintro e w' (⟨h1, h2, S', h3, h4⟩ | ⟨n, S', w1, h1, h2, h3, h4, h5, h6, h7⟩)
  · refine ⟨kept_of hf h3.turn, .inl ⟨h1, h2, ?_⟩⟩
    rw [← view_R h3]
    exact Pl.of hf hl h3.turn.size h3.at_ h4 h3.fp
  · refine ⟨kept_of hf h7, .inr ⟨n, w1.heap.size, h1, h2, h3, ?_⟩⟩
    have hv : (S'.tk n w1.heap.size).view = S.view.tk n w1.heap.size := by
      rw [← view_R h4]; rfl
    rw [← hv]
    refine Pl.of hf hl h7.size h5 h6 fun b hb => ?_
    rcases hb with h | h | h | h | h | ⟨y, q, h⟩
    · exact h4.fp b (.inl h)
    · exact h4.fp b (.inr (.inl h))
    · exact h4.fp b (.inr (.inr (.inl h)))
    · exact h4.fp b (.inr (.inr (.inr (.inl h))))
    · exact h4.fp b (.inr (.inr (.inr (.inr (.inl h)))))
    · have h' : (if y = n then some (w1.heap.size, zeros 500) else S'.pg y) = some (b, q) := h
      by_cases e : y = n
      · rw [if_pos e] at h'
        cases h'
        exact .inr h4.turn.size
      · rw [if_neg e] at h'
        exact h4.fp b (.inr (.inr (.inr (.inr (.inr ⟨y, q, h'⟩)))))

def DropV (K : Nat → Prop) (p : Nat) (V : PV) (x : Int) (w : World) (e : Ending) (w' : World) : Prop :=
  Kept K w w' ∧ (((∃ q, V.pg x = some q) ∧ e = .returned (.int .i64 0) ∧ Pl K w' p (V.rmT x)) ∨ (V.pg x = none ∧ V.fr x = true ∧ e = .returned (.int .i64 0) ∧ Pl K w' p (V.rmF x)) ∨
    (V.pg x = none ∧ V.fr x = false ∧ e = .returned (.int .i64 130) ∧ Pl K w' p V))
theorem drop_v {K : Nat → Prop} {w : World} {p : Nat} {V : PV} (h : Pl K w p V) {x : Int} (hx : I64 x) : Calls Tryd.prog 34 #[.pointer (some ⟨p, 0, none⟩), .int .i64 x] w (DropV K p V x w) := by
  obtain ⟨⟨S, rfl, ha, hok, hf⟩, hl⟩ := h
  refine (drop_any p S x w ha hok hx).mono ?_
  rintro e w' (⟨q, S', h1, h2, h3⟩ | ⟨S', h1, h2, h3, h4⟩ | ⟨h1, h2, h3, rfl⟩)
  · refine ⟨kept_of hf h3.turn, .inl ⟨⟨q, h1⟩, h2, ?_⟩⟩
    have hv : S'.view = S.view.rmT x := by
      obtain ⟨A', c', gl', m, rfl⟩ := h3.eq
      rfl
    rw [← hv]
    exact Pl.of hf hl h3.turn.size h3.at_ h3.ok h3.fp
  · refine ⟨kept_of hf h4.turn, .inr (.inl ⟨h1, h2, h3, ?_⟩)⟩
    have hv : S'.view = S.view.rmF x := by
      obtain ⟨A', c', gl', m, rfl⟩ := h4.eq
      rfl
    rw [← hv]
    exact Pl.of hf hl h4.turn.size h4.at_ h4.ok h4.fp
  · exact ⟨Kept.refl _ _, .inr (.inr ⟨h1, h2, h3, ⟨⟨S, rfl, ha, hok, hf⟩, hl⟩⟩)⟩

theorem write_none_v {K : Nat → Prop} {w : World} {p : Nat} {V : PV} (h : Pl K w p V) {x : Int} (hx : I64 x) (v : Value) (hp : V.pg x = none) : Calls Tryd.prog 47 #[.pointer (some ⟨p, 0, none⟩), .int .i64 x, v] w fun e w' => e = .returned (.int .i64 130) ∧ w = w' := by
  obtain ⟨⟨S, rfl, ha, hok, hf⟩, hl⟩ := h
  exact pwrite_none p S x v w ha hx hp
theorem write_long_v {K : Nat → Prop} {w : World} {p : Nat} {V : PV} (h : Pl K w p V) {x : Int} (hx : I64 x) {q : Nat × List UInt8} (hp : V.pg x = some q) (A : Option Addr) (n c : Nat) (hn : 500 < n) :
    Calls Tryd.prog 47 #[.pointer (some ⟨p, 0, none⟩), .int .i64 x, .slice A n c] w fun e w' => e = .returned (.int .i64 2) ∧ w = w' := by
  obtain ⟨⟨S, rfl, ha, hok, hf⟩, hl⟩ := h
  exact pwrite_long p S x q A n c w ha hx hp hn
theorem write_v {K : Nat → Prop} {w : World} {p : Nat} {V : PV} (h : Pl K w p V) {x : Int} (hx : I64 x) {g : Nat} {l : List UInt8} (hp : V.pg x = some (g, l)) (B : Nat) (A : Option Addr) (c : Nat) (m : List UInt8) (hb : Byt w B A m) (h5 : m.length ≤ 500) :
    Calls Tryd.prog 47 #[.pointer (some ⟨p, 0, none⟩), .int .i64 x, .slice A m.length c] w fun e w' => e = .returned (.int .i64 0) ∧ Kept K w w' ∧ Pl K w' p (V.wr x g m) := by
  obtain ⟨⟨S, rfl, ha, hok, hf⟩, hl⟩ := h
  have hpS : S.pg x = some (g, l) := hp
  refine (pwrite_ok p S x g l B A c m w ha hx hp hb h5).mono ?_
  rintro e w' ⟨rfl, h1, h2⟩
  have ht : Turn (S.fp p) w w' := h2.mono fun b hb => by rw [hb]; exact .inr (.inr (.inr (.inr (.inr ⟨x, l, hpS⟩))))
  refine ⟨rfl, kept_of hf ht, ?_⟩
  rw [show S.view.wr x g m = (S.wr x g m).view from rfl]
  exact Pl.of hf hl ht.size (ha.wrote hpS h5 h1 h2) (PoolOKx.wrote hok hpS) fun b hb => .inl (fp_wr hpS hb)

theorem read_v {K : Nat → Prop} {w : World} {p : Nat} {V : PV} (h : Pl K w p V) {x : Int} (hx : I64 x) {g : Nat} {l : List UInt8} (hp : V.pg x = some (g, l)) :
    Calls Tryd.prog 48 #[.pointer (some ⟨p, 0, none⟩), .int .i64 x] w fun e w' => ∃ A' c', e = .returned (.tuple #[.slice A' l.length c', .nilIface]) ∧ Own w' w.heap.size A' c' l ∧ Below w.heap.size w w' := by
  obtain ⟨⟨S, rfl, ha, hok, hf⟩, hl⟩ := h
  exact read_taken p S x g l w ha hx hp
theorem page_len {K : Nat → Prop} {w : World} {p : Nat} {V : PV} (h : Pl K w p V) {x : Int} {g : Nat} {l : List UInt8} (hp : V.pg x = some (g, l)) : l.length = 500 := by
  obtain ⟨⟨S, rfl, ha, hok, hf⟩, hl⟩ := h
  exact (ha.page x g l hp).2
theorem inUse_v {K : Nat → Prop} {w : World} {p : Nat} {V : PV} (h : Pl K w p V) : Calls Tryd.prog 52 #[.pointer (some ⟨p, 0, none⟩)] w fun e w' => e = .returned (.int .i64 (V.tn + V.fn : Int)) ∧ ∃ n, w' = w.drewN n := by
  obtain ⟨⟨S, rfl, ha, hok, hf⟩, hl⟩ := h
  exact inUse_any p S w ha hok
theorem free_v {K : Nat → Prop} {w : World} {p : Nat} {V : PV} (h : Pl K w p V) : Calls Tryd.prog 53 #[.pointer (some ⟨p, 0, none⟩)] w fun e w' => e = .returned (.int .i64 (V.many - (V.tn + V.fn : Int) - V.ln)) ∧ ∃ n, w' = w.drewN n := by
  obtain ⟨⟨S, rfl, ha, hok, hf⟩, hl⟩ := h
  exact free_any p S w ha hok
theorem Pl.drewN {K : Nat → Prop} {w : World} {p : Nat} {V : PV} (h : Pl K w p V) (n : Nat) : Pl K (w.drewN n) p V := h.keep ⟨rfl, rfl, rfl, Nat.le_refl _, fun _ _ => rfl⟩

/-- pager.Open. -/
theorem open_v (db bb B : Nat) (frm many n : Int) (A : Option Addr) (c : Nat) (l : List Int) (w : World) (hd : w.cell? ⟨db, 0, none⟩ = some (.pointer (some ⟨bb, 0, none⟩))) (h2 : w.cell? ⟨bb, 0, none⟩ = some (.int .i64 n))
    (hk : IArg w B A l) (hB : B ≤ w.heap.size) (hf0 : 0 ≤ frm) (hfn : frm ≤ n) (hm1 : 1 ≤ many) (hmM : many ≤ 1048576) (hmn : many ≤ n - frm) (hn : n ≤ 1099511627776) (hl : l.length ≤ 140737488351232) :
    Calls Tryd.prog 31 #[.pointer (some ⟨db, 0, none⟩), .int .i64 frm, .int .i64 many, .slice A l.length c] w fun e w' => Below w.heap.size w w' ∧ ((KeepOK l many ∧ ∃ p, e = .returned (.tuple #[.pointer (some ⟨p, 0, none⟩), .nilIface]) ∧ Pl (fun b => b < w.heap.size) w' p (PV.open_ (.pointer (some ⟨db, 0, none⟩)) frm many l)) ∨
      (¬ KeepOK l many ∧ e = .returned (.tuple #[.pointer none, .iface 24 (.int .i64 1)]))) := by
  refine (popen_any db bb B frm many n A c l w hd h2 hk hB hf0 hfn hm1 hmM hmn hn hl).mono ?_
  rintro e w' ⟨hb, ⟨h1, p, tb, fb, lb, h3, h4, h5⟩ | h1⟩
  · refine ⟨hb, .inl ⟨h1, p, h3, ?_⟩⟩
    have hv : (openS (.pointer (some ⟨db, 0, none⟩)) frm many l l.length tb fb lb).view = PV.open_ (.pointer (some ⟨db, 0, none⟩)) frm many l := by
      unfold openS PV.open_ PoolS.view
      simp only [List.take_length]
    rw [← hv]
    exact ⟨⟨_, rfl, h4, openS_ok hm1 hmM h1, fun b hb hk => (by have := h5 b hb; omega)⟩, fun b hb2 => Nat.lt_of_lt_of_le hb2 hb.size⟩
  · exact ⟨hb, .inr h1⟩
end Go.Proofs.YteediemhcocgdaaDoor
