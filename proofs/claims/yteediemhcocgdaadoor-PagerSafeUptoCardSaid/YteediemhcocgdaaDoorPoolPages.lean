/-
  A pool on a disk: its pages as they are read, flushed and frozen.
-/
import Derived.Test.YteediemhcocgdaaDoorPoolFrozen
import Derived.Test.YteediemhcocgdaaDoorPoolFreeze
namespace Go.Proofs.YteediemhcocgdaaDoor
open Go.RowKit

/-! ### The pool's calls beside the disk -/
theorem PD.open_ {K : Nat → Prop} {w w' : World} {p bb : Nat} {V : PV} {VD : DV} (hd : Dk K w bb VD) (hb : Below w.heap.size w w') (hp : Pl (fun b => b < w.heap.size) w' p V) : PD K w' p V bb VD := by
  obtain ⟨⟨T, ht, hda, hdok, h1⟩, hl⟩ := hd
  obtain ⟨⟨S, hv, ha, hok, hf⟩, _⟩ := hp
  exact ⟨⟨S, T, hv, ht, ha, hok, hda.below hb, hdok, fun b hb2 => ⟨fun hk => hf b hb2 (hl b hk), fun ht => hf b hb2 (hda.lt ht)⟩, h1⟩, fun b hk => Nat.lt_of_lt_of_le (hl b hk) hb.size⟩
theorem PD.turnK {K : Nat → Prop} {w w' : World} {p bb : Nat} {V : PV} {VD : DV} {fq : Nat → Prop} (h : PD K w p V bb VD) (ht : Turn fq w w') (hq : ∀ b, fq b → K b) : PD K w' p V bb VD := by
  obtain ⟨⟨S, T, hv, htv, ha, hok, hd, hdok, h1, h2⟩, hl⟩ := h
  exact ⟨⟨S, T, hv, htv, ha.turn ht fun b hb hf => (h1 b hb).1 (hq b hf), hok, hd.keep fun b hb => ht.block b (hd.lt hb) fun hf => h2 b hb (hq b hf), hdok, h1, h2⟩, fun b hb => Nat.lt_of_lt_of_le (hl b hb) ht.size⟩
theorem pfreeze_d {K : Nat → Prop} {w : World} {p bb : Nat} {V : PV} {VD : DV} (h : PD K w p V bb VD) : Calls Tryd.prog 50 #[.pointer (some ⟨p, 0, none⟩)] w fun e w' => e = .returned (.tuple #[]) ∧ Kept K w w' ∧ PD K w' p V.frz bb VD := by
  obtain ⟨T, rfl, hd, hok, hf, hp⟩ := h.pool
  refine (freeze_v hp).mono ?_
  rintro e w' ⟨rfl, hk, hp'⟩
  exact ⟨rfl, hk.mono fun b hb => .inl hb, PD.of_pool hd hok hf hk hp'⟩
theorem ptake_d {K : Nat → Prop} {w : World} {p bb : Nat} {V : PV} {VD : DV} (h : PD K w p V bb VD) : Calls Tryd.prog 35 #[.pointer (some ⟨p, 0, none⟩)] w fun e w' => Kept K w w' ∧ (((∀ x, ¬ V.free x) ∧ e = .returned (.tuple #[.int .i64 0, .int .i64 131]) ∧ PD K w' p V bb VD) ∨
    ∃ n g, V.free n ∧ (∀ x, V.free x → n ≤ x) ∧ e = .returned (.tuple #[.int .i64 n, .int .i64 0]) ∧ PD K w' p (V.tk n g) bb VD) := by
  obtain ⟨T, rfl, hd, hok, hf, hp⟩ := h.pool
  refine (take_v hp).mono ?_
  rintro e w' ⟨hk, ⟨h1, rfl, hp'⟩ | ⟨n, g, h1, h2, rfl, hp'⟩⟩
  · exact ⟨hk.mono fun b hb => .inl hb, .inl ⟨h1, rfl, PD.of_pool hd hok hf hk hp'⟩⟩
  · exact ⟨hk.mono fun b hb => .inl hb, .inr ⟨n, g, h1, h2, rfl, PD.of_pool hd hok hf hk hp'⟩⟩
theorem pwrite_d {K : Nat → Prop} {w : World} {p bb : Nat} {V : PV} {VD : DV} (h : PD K w p V bb VD) {x : Int} (hx : I64 x) {g : Nat} {l : List UInt8} (hp : V.pg x = some (g, l)) (B : Nat) (A : Option Addr) (c : Nat) (m : List UInt8) (hb : Byt w B A m) (h5 : m.length ≤ 500) :
    Calls Tryd.prog 47 #[.pointer (some ⟨p, 0, none⟩), .int .i64 x, .slice A m.length c] w fun e w' => e = .returned (.int .i64 0) ∧ Kept K w w' ∧ PD K w' p (V.wr x g m) bb VD := by
  obtain ⟨T, rfl, hd, hok, hf, hpl⟩ := h.pool
  refine (write_v hpl hx hp B A c m hb h5).mono ?_
  rintro e w' ⟨rfl, hk, hp'⟩
  exact ⟨rfl, hk.mono fun b hb => .inl hb, PD.of_pool hd hok hf hk hp'⟩
theorem pwrite_long_d {K : Nat → Prop} {w : World} {p bb : Nat} {V : PV} {VD : DV} (h : PD K w p V bb VD) {x : Int} (hx : I64 x) {q : Nat × List UInt8} (hp : V.pg x = some q) (A : Option Addr) (n c : Nat) (hn : 500 < n) :
    Calls Tryd.prog 47 #[.pointer (some ⟨p, 0, none⟩), .int .i64 x, .slice A n c] w fun e w' => e = .returned (.int .i64 2) ∧ w = w' := by
  obtain ⟨T, rfl, hd, hok, hf, hpl⟩ := h.pool
  exact write_long_v hpl hx hp A n c hn

/-! ### What Flush does where nothing is armed -/
def putAll (frm : Int) (l : List (Int × List UInt8)) (V : DV) : DV := l.foldl (fun V e => V.put (frm + e.1) (layB e.1.toNat e.2)) V
theorem putAll_flags (frm : Int) : ∀ (l : List (Int × List UInt8)) (V : DV), (putAll frm l V).n = V.n ∧ (putAll frm l V).armed = V.armed ∧ (putAll frm l V).down = V.down ∧ (putAll frm l V).safe = V.safe ∧ (putAll frm l V).wait.length = V.wait.length + l.length
  | [], V => ⟨rfl, rfl, rfl, rfl, rfl⟩
  | e :: r, V => by
    obtain ⟨h1, h2, h3, h4, h5⟩ := putAll_flags frm r (V.put (frm + e.1) (layB e.1.toNat e.2))
    refine ⟨h1, h2, h3, h4, h5.trans ?_⟩
    simp [DV.put]
    omega
theorem flushD_free (frm : Int) : ∀ (l : List (Int × List UInt8)) (V : DV), V.armed = false → V.down = false → flushD frm l V = (false, putAll frm l V)
  | [], _, _, _ => rfl
  | (x, b) :: r, V, ha, hd => by
    have h1 : (V.act fun X => X.put (frm + x) (layB x.toNat b)) = (false, V.put (frm + x) (layB x.toNat b)) := act_free ha
    rw [flushD_good hd (by rw [h1]), h1]
    exact flushD_free frm r _ ha hd
theorem putAll_out (frm : Int) (g : Int → List UInt8) (x : Int) : ∀ (ks : List Int) (V : DV), x ∉ ks → (putAll frm (ks.map fun y => (y, g y)) V).now (frm + x) = V.now (frm + x)
  | [], _, _ => rfl
  | k :: r, V, h => by
    have h1 := putAll_out frm g x r (V.put (frm + k) (layB k.toNat (g k))) (fun hm => h (List.mem_cons_of_mem _ hm))
    refine h1.trans ?_
    have hne : x ≠ k := fun e => h (e ▸ List.mem_cons_self)
    show (if frm + x = frm + k then _ else _) = _
    rw [if_neg (by omega)]
theorem putAll_in (frm : Int) (g : Int → List UInt8) (x : Int) : ∀ (ks : List Int) (V : DV), x ∈ ks → (putAll frm (ks.map fun y => (y, g y)) V).now (frm + x) = layB x.toNat (g x)
  | k :: r, V, h => by
    by_cases hr : x ∈ r
    · exact putAll_in frm g x r (V.put (frm + k) (layB k.toNat (g k))) hr
    · have h1 := putAll_out frm g x r (V.put (frm + k) (layB k.toNat (g k))) hr
      refine h1.trans ?_
      have e : x = k := (List.mem_cons.1 h).resolve_right hr
      show (if frm + x = frm + k then _ else _) = _
      rw [if_pos (by omega), e]
theorem TakenK.len {V : PV} {ks : List Int} (h : TakenK V ks) (hb : ∀ x q, V.pg x = some q → 0 ≤ x ∧ x < 1048576) : ks.length ≤ 1048576 :=
  pigeon 1048576 ks (h.1.imp fun h => by omega) fun x hx => by
    cases hp : V.pg x with
    | none => exact absurd hp ((h.2 x).1 hx)
    | some q => exact hb x q hp

/-- Page n reads as l. -/
def PageIs (V : PV) (VD : DV) (n : Nat) (l : List UInt8) : Prop := (∃ g, V.pg n = some (g, l)) ∨ (V.pg n = none ∧ V.fr n = true ∧ VD.now (V.frm + n) = layB n l)
theorem PageIs.freeze {V : PV} {VD : DV} {n : Nat} {l : List UInt8} {ks : List Int} (h : PageIs V VD n l) (hk : TakenK V ks) : PageIs V.frz (putAll V.frm (ks.map fun x => (x, V.bytes x)) VD) n l := by
  refine .inr ⟨rfl, ?_, ?_⟩
  · show (V.fr n || (V.pg n).isSome) = true
    rcases h with ⟨g, h⟩ | ⟨_, h, _⟩
    · rw [h]; simp
    · rw [h]; rfl
  · show (putAll V.frm (ks.map fun x => (x, V.bytes x)) VD).now (V.frm + n) = _
    rcases h with ⟨g, h⟩ | ⟨h1, _, h3⟩
    · rw [putAll_in V.frm V.bytes n ks VD ((hk.2 _).2 (by rw [h]; simp))]
      unfold PV.bytes
      rw [h]
      rfl
    · rw [putAll_out V.frm V.bytes n ks VD (fun hm => (hk.2 _).1 hm h1)]
      exact h3
theorem pread_is {K : Nat → Prop} {w : World} {p bb : Nat} {V : PV} {VD : DV} (h : PD K w p V bb VD) (db : Nat) (hd : V.d = .pointer (some ⟨db, 0, none⟩)) (hdb : w.cell? ⟨db, 0, none⟩ = some (.pointer (some ⟨bb, 0, none⟩))) (hn : Nib w) (h0 : 0 < w.heap.size)
    (hf0 : 0 ≤ V.frm) (n : Nat) (l : List UInt8) (hp : PageIs V VD n l) (hl : l.length = 500) (hnb : V.frm + n < VD.n) (hdn : VD.down = false) :
    Calls Tryd.prog 48 #[.pointer (some ⟨p, 0, none⟩), .int .i64 (n : Int)] w fun e w' => ∃ A c, e = .returned (.tuple #[.slice A 500 c, .nilIface]) ∧ Own w' w.heap.size A c l ∧ Below w.heap.size w w' := by
  rcases hp with ⟨g, hp⟩ | ⟨h1, h2, h3⟩
  · obtain ⟨T, rfl, _, _, _, hpl⟩ := h.pool
    have hb := h.bounds
    have hx := hb.2.2.2.1 _ _ hp
    refine (read_v hpl (x := (n : Int)) (i64_of (by omega) (by omega)) hp).mono ?_
    rintro e w' ⟨A, c, rfl, ho, hbl⟩
    exact ⟨A, c, by rw [hl], ho, hbl⟩
  · refine (pread_frozen h db hd hdb hn h0 hf0 n h1 h2 hnb hdn).mono ?_
    rintro e w' ⟨hbl, h4⟩
    have e1 : ((VD.now (V.frm + n)).drop 8).take 500 = l := by rw [h3]; exact layB_page n l hl
    rw [e1] at h4
    rcases h4 with ⟨_, A, c, rfl, ho⟩ | ⟨h4, _⟩
    · exact ⟨A, c, rfl, ho, hbl⟩
    · exact absurd h3.symm h4
end Go.Proofs.YteediemhcocgdaaDoor
