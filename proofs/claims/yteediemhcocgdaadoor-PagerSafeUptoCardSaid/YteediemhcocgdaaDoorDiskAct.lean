/-
  block's act over a disk's write.
-/
import Derived.Test.YteediemhcocgdaaDoorDiskPut
namespace Go.Proofs.YteediemhcocgdaaDoor
open Go.RowKit

/-- An act: is it refused? What is left. -/
def DV.act (V : DV) (F : DV → DV) : Bool × DV :=
  if V.armed && V.acts == 0 then (true, { (if V.done then F V else V) with down := true }) else (false, F { V with acts := if V.armed then V.acts - 1 else V.acts })
def errV (r : Bool) : Value := if r then .iface 24 (.int .i64 5) else .nilIface

theorem act_free {V : DV} {F : DV → DV} (h : V.armed = false) : V.act F = (false, F V) := by
  unfold DV.act
  rw [h]
  obtain ⟨n, now, safe, wait, armed, acts, done, down⟩ := V
  have h' : armed = false := h
  subst h'
  rfl
theorem act_down {V : DV} {F : DV → DV} (h : V.armed = true) (ha : V.acts = 0) : V.act F = (true, { (if V.done then F V else V) with down := true }) := by
  unfold DV.act
  rw [h, ha]
  rfl
theorem act_less {V : DV} {F : DV → DV} (h : V.armed = true) (ha : V.acts ≠ 0) : V.act F = (false, F { V with acts := V.acts - 1 }) := by
  have hb : (V.acts == 0) = false := by simp [ha]
  unfold DV.act
  rw [h, hb]
  rfl
/-- What an act leaves. -/
def ActR (K : Nat → Prop) (bb : Nat) (r : Bool × DV) (w : World) (e : Ending) (w' : World) : Prop := e = .returned (errV r.1) ∧ Dk K w' bb r.2 ∧ Kept K w w'

theorem Dk.cells {K : Nat → Prop} {w : World} {bb : Nat} {V : DV} (h : Dk K w bb V) :
    w.cell? ⟨bb, 4, none⟩ = some (.bool V.armed) ∧ w.cell? ⟨bb, 5, none⟩ = some (.int .i64 V.acts) ∧ w.cell? ⟨bb, 6, none⟩ = some (.bool V.done) ∧ w.cell? ⟨bb, 7, none⟩ = some (.bool V.down) ∧ ∀ i, w.frozen? ⟨bb, i, none⟩ = false := by
  obtain ⟨⟨S, rfl, ha, hok, hf⟩, hl⟩ := h
  obtain ⟨c0, c1, c2, c3, c4, c5, c6, c7⟩ := ha.cell
  exact ⟨c4, c5, c6, c7, fun i => ha.box.frozen i⟩
theorem Dk.ok {K : Nat → Prop} {w : World} {bb : Nat} {V : DV} (h : Dk K w bb V) : 0 ≤ V.acts ∧ V.acts ≤ 9223372036854775807 ∧ 0 ≤ V.n ∧ V.n ≤ 1099511627776 := by
  obtain ⟨⟨S, rfl, ha, hok, hf⟩, hl⟩ := h
  exact ⟨hok.a0, hok.aM, hok.n0, hok.nM⟩
/-- A store into the box's flags. -/
theorem DiskAt.flag {w : World} {bb : Nat} {S S' : DiskS} (h : DiskAt w bb S) (i : Nat) (v : Value) (hc : S.cells.set i v = S'.cells) (h1 : S'.sb = S.sb) (h2 : S'.nb = S.nb) (h3 : S'.sf = S.sf) (h4 : S'.sn = S.sn) (h5 : S'.nw = S.nw) (h6 : S'.nn = S.nn) (h7 : S'.wt = S.wt) (h8 : S'.WA = S.WA) (h9 : S'.wc = S.wc) :
    DiskAt (w.setCell ⟨bb, i, none⟩ v) bb S' := by
  have hk : ∀ b, b ≠ bb → (w.setCell ⟨bb, i, none⟩ v).heap[b]? = w.heap[b]? := fun b hb => Below.heap_setCell _ _ _ _ hb
  refine ⟨by rw [← hc]; exact h.box.set_ i v, ?_, ?_, by rw [h1, h2]; exact h.ne, ?_, fun x q hx => ?_, fun x q hx => ?_, fun e he => ?_⟩
  · rw [h1, h3, h4]; exact h.sm.keep (hk _ fun e => blk_map h.sm h.box e.symm)
  · rw [h2, h5, h6]; exact h.nm.keep (hk _ fun e => blk_map h.nm h.box e.symm)
  · rw [h7, h8, h9]; exact h.row.keep fun b hb => hk b fun e => h.row.ne h.box (by decide) (e ▸ hb)
  · rw [h3] at hx; exact (h.sat x q hx).keep (hk _ ((h.sat x q hx).ne_blk h.box (by decide)))
  · rw [h5] at hx; exact (h.nat x q hx).keep (hk _ ((h.nat x q hx).ne_blk h.box (by decide)))
  · rw [h7] at he; exact (h.wat e he).keep (hk _ ((h.wat e he).ne_blk h.box (by decide)))
theorem Dk.setActs {K : Nat → Prop} {w : World} {bb : Nat} {V : DV} (h : Dk K w bb V) (a : Int) (h0 : 0 ≤ a) (h1 : a ≤ 9223372036854775807) : Dk K (w.setCell ⟨bb, 5, none⟩ (.int .i64 a)) bb { V with acts := a } := by
  obtain ⟨⟨S, rfl, ha, hok, hf⟩, hl⟩ := h
  exact ⟨⟨{ S with acts := a }, rfl, ha.flag 5 (.int .i64 a) rfl rfl rfl rfl rfl rfl rfl rfl rfl rfl, ⟨hok.n0, hok.nM, hok.sB, hok.nB, hok.wB, hok.sC, hok.nC, h0, h1⟩, hf⟩, fun b hb => by simp [World.setCell]; exact hl b hb⟩
theorem Dk.setDown {K : Nat → Prop} {w : World} {bb : Nat} {V : DV} (h : Dk K w bb V) (a : Bool) : Dk K (w.setCell ⟨bb, 7, none⟩ (.bool a)) bb { V with down := a } := by
  obtain ⟨⟨S, rfl, ha, hok, hf⟩, hl⟩ := h
  exact ⟨⟨{ S with down := a }, rfl, ha.flag 7 (.bool a) rfl rfl rfl rfl rfl rfl rfl rfl rfl rfl, ⟨hok.n0, hok.nM, hok.sB, hok.nB, hok.wB, hok.sC, hok.nC, hok.a0, hok.aM⟩, hf⟩, fun b hb => by simp [World.setCell]; exact hl b hb⟩
theorem Dk.notK {K : Nat → Prop} {w : World} {bb : Nat} {V : DV} (h : Dk K w bb V) : ¬ K bb := by
  obtain ⟨⟨S, rfl, ha, hok, hf⟩, hl⟩ := h
  exact hf bb (.inl rfl)
theorem Kept.set {K : Nat → Prop} {w w1 : World} (h : Kept K w w1) {bb : Nat} (hb : ¬ K bb) (i : Nat) (v : Value) : Kept K w (w1.setCell ⟨bb, i, none⟩ v) := Turn.setCell h (p := ⟨bb, i, none⟩) (.inl hb) v

set_option maxHeartbeats 1000000 in
set_option maxRecDepth 100000 in
theorem act_v {K : Nat → Prop} {w : World} {bb : Nat} {V : DV} (h : Dk K w bb V) (F : DV → DV) (c0 c1 c2 : Value)
    (hdo : ∀ w1 V1, Dk K w1 bb V1 → Turn (fun b => b = bb) w w1 → V1.n = V.n → V1.wait = V.wait → Calls Tryd.prog 83 #[c0, c1, c2] w1 fun e w' => e = .returned (.tuple #[]) ∧ Dk K w' bb (F V1) ∧ Kept K w1 w') :
    Calls Tryd.prog 75 #[.pointer (some ⟨bb, 0, none⟩), .func (.func 83) #[] #[c0, c1, c2]] w (ActR K bb (V.act F) w) := by
  obtain ⟨e4, e5, e6, e7, hfz⟩ := h.cells
  obtain ⟨a0, aM, _, _⟩ := h.ok
  have hfz5 := hfz 5
  have hfz7 := hfz 7
  have H := Lib.hid h
  have HD := Lib.hid hdo
  clear h hdo hfz
  rcases harm : V.armed with _ | _
  · rw [harm] at e4
    go_enter Tryd.func75, Tryd.ntmps75
    go_wp2_with fail
    refine (HD.out w V H.out (Turn.refl _ _) rfl rfl).mono ?_
    rintro e w1 ⟨rfl, hd1, hk1⟩
    have HX := Lib.hid (And.intro hd1 hk1)
    have HA := Lib.hid (act_free (F := F) harm)
    clear hd1 hk1 harm
    go_wp2_with fail
    go_ret
    rw [HA.out]
    exact ⟨rfl, HX.out.1, HX.out.2⟩
  · rw [harm] at e4
    by_cases ha : V.acts = 0
    · rw [ha] at e5
      have HA := Lib.hid (act_down (F := F) harm ha)
      clear harm ha
      rcases hdn : V.done with _ | _
      · rw [hdn] at e6
        clear aM a0
        go_enter Tryd.func75, Tryd.ntmps75
        go_wp2_with fail
        go_ret
        rw [HA.out, hdn]
        exact ⟨rfl, H.out.setDown true, (Kept.refl K w).set H.out.notK 7 _⟩
      · rw [hdn] at e6
        clear aM a0
        go_enter Tryd.func75, Tryd.ntmps75
        go_wp2_with fail
        refine (HD.out w V H.out (Turn.refl _ _) rfl rfl).mono ?_
        rintro e w1 ⟨rfl, hd1, hk1⟩
        have hfz1 := hd1.cells.2.2.2.2 7
        have hc1 := hd1.cells.2.2.2.1
        have HX := Lib.hid (And.intro hd1 hk1)
        clear hd1 hk1
        go_wp2_with fail
        go_ret
        rw [HA.out, hdn]
        exact ⟨rfl, HX.out.1.setDown true, HX.out.2.set H.out.notK 7 _⟩
    · have HA := Lib.hid (act_less (F := F) harm ha)
      have hn : decide (V.acts = 0) = false := by simp [ha]
      have s1 : IntKind.i64.wrap (V.acts - 1) = V.acts - 1 := IntWalk.i64_in _ (by omega)
      have a1 : 0 ≤ V.acts - 1 := by omega
      have a2 : V.acts - 1 ≤ 9223372036854775807 := by omega
      clear harm
      go_enter Tryd.func75, Tryd.ntmps75
      go_wp2_with fail
      refine (HD.out _ _ (H.out.setActs (V.acts - 1) a1 a2) ((Turn.refl (fun b => b = bb) w).setCell (p := ⟨bb, 5, none⟩) (.inl rfl) _) rfl rfl).mono ?_
      rintro e w1 ⟨rfl, hd1, hk1⟩
      have HX := Lib.hid (And.intro hd1 hk1)
      clear hd1 hk1
      go_wp2_with fail
      go_ret
      rw [HA.out]
      exact ⟨rfl, HX.out.1, ((Kept.refl K w).set H.out.notK 5 _).trans HX.out.2⟩
end Go.Proofs.YteediemhcocgdaaDoor
