import Derived.OrdersHeld
import Derived.OrdersIn
import Derived.OwnWalkIn
import Derived.RangeFuncCalls
import Derived.Test.YteediemhcocgdaaDoorWalSects
import Derived.RangeFuncFrom
/-
  A region that draws its order, within a round: by the plain laws on orders.
-/
namespace Go.Proofs.YteediemhcocgdaaDoor
open Go Go.RowKit

theorem oper_round {P : Program} {o : Oper} {a : Act} {w : World} {K : Act → World → Prop} {Q : Exit → Act → World → Prop} (l n : Nat) (hd : ∀ c, o.op ≠ .defer c) (_hq : ¬ LetsOut Q)
    (h : o.wp P a w K Q) : o.wpIn (Fence.wide.inRound l) n P a w K Q := by
  refine ⟨fun _ _ => trivial, ?_⟩
  rw [Oper.semAt_plain _ _ _ hd]
  unfold Oper.wp at h
  generalize (execOp a.eval o).run P w = r at h ⊢
  cases r with
  | ok x w' =>
    cases x <;> simp only [Oper.upon] at h <;> simp only [Oper.uponIn]
    case enter =>
      refine ⟨fun hh => absurd hh Bool.false_ne_true, CallsIn.mono (CallsIn.inRound l (callsIn_wide.2 h)) ?_⟩
      intro e w'' he
      cases e <;> exact he
    case row =>
      refine ⟨fun hh => absurd hh Bool.false_ne_true, ?_⟩
      intro c cs _
      obtain ⟨v, w'', h1, h2⟩ := h c cs
      exact ⟨v, w'', h1, stepsIn_wide.2 h2⟩
    all_goals exact h
  | halt x w' => cases x <;> simp only [Oper.upon] at h <;> simp only [Oper.uponIn] <;> exact h

def noDefers (ops : Array Oper) : Bool := ops.all fun o => match o.op with | .defer _ => false | _ => true
theorem noDefers_spec {ops : Array Oper} (h : noDefers ops = true) {i : Nat} {o : Oper} (hi : ops[i]? = some o) : ∀ c, o.op ≠ .defer c := fun c hc => by
  obtain ⟨hlt, rfl⟩ := Array.getElem?_eq_some_iff.1 hi
  have := (Array.all_eq_true.1 h) i hlt
  rw [hc] at this
  cases this

theorem any_round {P : Program} {ops : Array Oper} {Q : Exit → Act → World → Prop} {md : Region.Mode} (l n : Nat) (hd : noDefers ops = true) (hq : ¬ LetsOut Q) :
    ∀ (fuel : Nat) (listed : Array Bool) (a : Act) (w : World), wpAny P md ops Q fuel listed a w → wpAnyIn (Fence.wide.inRound l) n P md ops Q fuel listed a w
  | 0, _, _, _, h => h
  | fuel + 1, listed, a, w, h => by
    refine ⟨h.1, fun i hi => ?_⟩
    have h1 := h.2 i hi
    unfold wpOp at h1
    unfold wpOpIn
    split
    · rename_i ho
      rw [ho] at h1
      exact any_round l n hd hq fuel _ a w h1
    · rename_i o ho
      rw [ho] at h1
      simp only at h1
      split
      · rename_i hw
        rw [if_pos hw] at h1
        exact oper_round l n (noDefers_spec hd ho) hq ((Oper.wp_mono (fun a w => any_round l n hd hq fuel _ a w)) (h1.resolve_right fun hh => hq hh.2))
      · rename_i hw
        rw [if_neg hw] at h1
        exact ⟨fun _ _ => trivial, any_round l n hd hq fuel _ _ _ h1⟩

/-- The way in: where the region's end is told by R. -/
theorem region_round {P : Program} {id : Nat} {ops : Array Oper} {Q : Exit → Act → World → Prop} {a : Act} {w : World} {l n : Nat} (S : World → Prop) (R : Act → World → Prop) (hm : P.follows .mixedOrders = true) (hd : noDefers ops = true)
    (h : wpAnyH P .any ops (fun e a w => e = .normal ∧ R a w) S ops.size (Array.replicate ops.size false) a w.drew) (hq : ∀ a w, R a w → Q .normal a w) : (Code.region id ops true).wpIn (Fence.wide.inRound l) n P Q a w :=
  wpIn_mono (wpIn_region_any hm (any_round l n hd (fun ⟨_, _, h⟩ => by cases h.1) _ _ _ _ (wpAny_of_held _ _ _ _ h))) fun e a w he => by rw [he.1]; exact hq a w he.2
/-! ### Steps by hand within a region -/
def qn (R : Act → World → Prop) : Exit → Act → World → Prop := fun e a w => e = .normal ∧ R a w
section
variable {P : Program} {ops : Array Oper} {R : Act → World → Prop} {md : Region.Mode} {S : World → Prop}
theorem put_some (a : Act) (o : Oper) (d : Nat) (v : Value) (h : o.dst = some d) : a.put o.dst v = { a with tmps := a.tmps.setIfInBounds d v } := by rw [h]; rfl
theorem take_ (i d : Nat) {o : Oper} (v : Value) {fuel : Nat} {listed : Array Bool} {a : Act} {w : World} (hi : ops[i]? = some o) (hd : o.dst = some d)
    (hs : Region.noSelect ops = true) (hf : Region.free md ops listed i = true) (hr : (Region.ready md ops listed).contains i = true) (hw : Region.wanted o (yielded ops a.tmps) = true)
    (hv : ∀ w, S w → (execOp a.eval o).run P w = .ok (.value v) w) (hS : S w)
    (h : wpAnyH P md ops (qn R) S fuel (listed.setIfInBounds i true) { a with tmps := a.tmps.setIfInBounds d v } w) : wpAnyH P md ops (qn R) S (fuel + 1) listed a w :=
  wpAnyH_take hi hs hf hr (fun _ _ _ h => by cases h.1) (.inl ⟨hw, hv⟩) hS (by rw [put_some a o d v hd]; exact h)
theorem step_ {i : Nat} {o : Oper} {v : Value} {w' : World} {fuel : Nat} {listed : Array Bool} {a : Act} {w : World} (hi : ops[i]? = some o) (hw : Region.wanted o (yielded ops a.tmps) = true)
    (hv : (execOp a.eval o).run P w = .ok (.value v) w') (hS : S w') (h : wpAnyH P md ops (qn R) S fuel (listed.setIfInBounds i true) (a.put o.dst v) w') :
    wpOp P ops (qn R) i (fun a' w' => S w' ∧ wpAnyH P md ops (qn R) S fuel (listed.setIfInBounds i true) a' w') a w := by
  unfold wpOp
  rw [hi]
  simp only
  rw [if_pos hw]
  refine .inl ?_
  unfold Oper.wp
  rw [hv]
  exact ⟨hS, h⟩
theorem one_ (i d : Nat) {o : Oper} (v : Value) (w' : World) {fuel : Nat} {listed : Array Bool} {a : Act} {w : World} (hi : ops[i]? = some o) (hd : o.dst = some d)
    (hr : Region.ready md ops listed = [i]) (hw : Region.wanted o (yielded ops a.tmps) = true)
    (hv : (execOp a.eval o).run P w = .ok (.value v) w') (hS : S w')
    (h : wpAnyH P md ops (qn R) S fuel (listed.setIfInBounds i true) { a with tmps := a.tmps.setIfInBounds d v } w') : wpAnyH P md ops (qn R) S (fuel + 1) listed a w :=
  wpAnyH_all hr (by simp) fun j hj => by
    obtain rfl := List.mem_singleton.1 hj
    exact step_ hi hw hv hS (by rw [put_some a o d v hd]; exact h)
theorem st_ (i : Nat) {o : Oper} (w' : World) {fuel : Nat} {listed : Array Bool} {a : Act} {w : World} (hi : ops[i]? = some o) (hd : o.dst = none)
    (hr : Region.ready md ops listed = [i]) (hw : Region.wanted o (yielded ops a.tmps) = true)
    (hv : (execOp a.eval o).run P w = .ok .skip w') (hS : S w')
    (h : wpAnyH P md ops (qn R) S fuel (listed.setIfInBounds i true) a w') : wpAnyH P md ops (qn R) S (fuel + 1) listed a w :=
  wpAnyH_all hr (by simp) fun j hj => by
    obtain rfl := List.mem_singleton.1 hj
    unfold wpOp
    rw [hi]
    simp only
    rw [if_pos hw]
    refine .inl ?_
    unfold Oper.wp
    rw [hv]
    exact ⟨hS, by show wpAnyH P md ops (qn R) S fuel _ (a.put o.dst undef) w'; rw [hd]; exact h⟩
theorem two_ (i d j d' : Nat) {o o' : Oper} (v v' : Value) (w' w'' : World) {fuel : Nat} {listed : Array Bool} {a : Act} {w : World} (hi : ops[i]? = some o) (hj : ops[j]? = some o') (hd : o.dst = some d) (hd' : o'.dst = some d')
    (hr : Region.ready md ops listed = [i, j]) (hw : Region.wanted o (yielded ops a.tmps) = true) (hw' : Region.wanted o' (yielded ops a.tmps) = true)
    (hv : (execOp a.eval o).run P w = .ok (.value v) w') (hv' : (execOp a.eval o').run P w = .ok (.value v') w'') (hS : S w') (hS' : S w'')
    (h : wpAnyH P md ops (qn R) S fuel (listed.setIfInBounds i true) { a with tmps := a.tmps.setIfInBounds d v } w')
    (h' : wpAnyH P md ops (qn R) S fuel (listed.setIfInBounds j true) { a with tmps := a.tmps.setIfInBounds d' v' } w'') : wpAnyH P md ops (qn R) S (fuel + 1) listed a w :=
  wpAnyH_all hr (by simp) fun x hx => by
    rcases List.mem_cons.1 hx with rfl | hx
    · exact step_ hi hw hv hS (by rw [put_some a o d v hd]; exact h)
    · obtain rfl := List.mem_singleton.1 hx
      exact step_ hj hw' hv' hS' (by rw [put_some a o' d' v' hd']; exact h')
theorem call_ (i d : Nat) {o : Oper} (v : Value) (w' w'' : World) {f : FuncId} {args : Array Value} {fuel : Nat} {listed : Array Bool} {a : Act} {w : World} (hi : ops[i]? = some o) (hd : o.dst = some d)
    (hr : Region.ready md ops listed = [i]) (hw : Region.wanted o (yielded ops a.tmps) = true)
    (hv : (execOp a.eval o).run P w = .ok (.enter f args) w') (hc : Calls P f args w' fun e x => e = .returned v ∧ x = w'') (hS : S w'')
    (h : wpAnyH P md ops (qn R) S fuel (listed.setIfInBounds i true) { a with tmps := a.tmps.setIfInBounds d v } w'') : wpAnyH P md ops (qn R) S (fuel + 1) listed a w :=
  wpAnyH_all hr (by simp) fun j hj => by
    obtain rfl := List.mem_singleton.1 hj
    unfold wpOp
    rw [hi]
    simp only
    rw [if_pos hw]
    refine .inl ?_
    unfold Oper.wp
    rw [hv]
    refine hc.mono ?_
    rintro e x ⟨rfl, rfl⟩
    exact ⟨hS, by show wpAnyH P md ops (qn R) S fuel _ (a.put o.dst v) x; rw [put_some a o d v hd]; exact h⟩
theorem done_ {listed : Array Bool} {a : Act} {w : World} (hr : Region.ready md ops listed = []) (h : R a w) (fuel : Nat) : wpAnyH P md ops (qn R) S fuel listed a w := wpAnyH_done hr ⟨rfl, h⟩ fuel
end
def eqR (A : Act) (W : World) : Act → World → Prop := fun a w => a = A ∧ w = W
/-- The way in: where the region's end is told by R. -/
theorem region_hand {P : Program} {id : Nat} {ops : Array Oper} {Q : Exit → Act → World → Prop} {a : Act} {w : World} {l n : Nat} (S : World → Prop) (R : Act → World → Prop) (hm : P.follows .mixedOrders = true) (hd : noDefers ops = true)
    (h : wpAnyH P .any ops (qn R) S ops.size (Array.replicate ops.size false) a w.drew) (hq : ∀ a w, R a w → Q .normal a w) : (Code.region id ops true).wpIn (Fence.wide.inRound l) n P Q a w :=
  region_round S R hm hd h hq
/-- The same with the region's end found on the way: 'exact region_ex S .. ⟨_, _, by .., by ..⟩'. -/
theorem region_ex {P : Program} {id : Nat} {ops : Array Oper} {Q : Exit → Act → World → Prop} {a : Act} {w : World} {l n : Nat} (S : World → Prop) (hm : P.follows .mixedOrders = true) (hd : noDefers ops = true) (D : World) (hD : w.drew = D)
    (h : ∃ A W, wpAnyH P .any ops (qn (eqR A W)) S ops.size (Array.replicate ops.size false) a D ∧ Q .normal A W) : (Code.region id ops true).wpIn (Fence.wide.inRound l) n P Q a w := by
  obtain ⟨A, W, h1, h2⟩ := h
  subst hD
  exact region_round S _ hm hd h1 (by rintro _ _ ⟨rfl, rfl⟩; exact h2)
end Go.Proofs.YteediemhcocgdaaDoor

/-
  A range over wal's sectors: the law.
-/
namespace Go.Proofs.YteediemhcocgdaaDoor
open Go.RowKit

theorem grown_of_below {W W' : World} (h : Below W.heap.size W W') : W.grownBy W' none := ⟨h.os, h.tape, h.output, h.size, fun k hk _ => h.block k hk⟩

set_option maxHeartbeats 1000000 in
theorem range_v (n mb dbx fb ebx many frm db bb : Nat) (K : Nat → Prop) (V : DV) {g : Operand} {ps : Array Tmp} {assign body : Code} {Q : Exit → Act → World → Prop} {a : Act} {w : World}
    (hg : a.eval g = .func (.func 81) #[] #[.pointer (some ⟨mb, 0, none⟩), .pointer (some ⟨dbx, 0, none⟩), .pointer (some ⟨fb, 0, none⟩), .pointer (some ⟨ebx, 0, none⟩)]) (hps : ps.size = 2)
    (eg : ∀ args w, (callFunc 81 args).run Tryd.prog w = .ok (.enter 81 args) w)
    (J : Nat → World → Prop) (Jx : Nat → World → Prop) (hJo : OwnFrom w.heap.size J) (hJxo : OwnFrom w.heap.size Jx)
    (hJ : ∀ k W, J k W → Dk K W bb V ∧ W.cell? ⟨dbx, 0, none⟩ = some (.pointer (some ⟨db, 0, none⟩)) ∧ W.cell? ⟨fb, 0, none⟩ = some (.int .i64 frm) ∧ W.cell? ⟨db, 0, none⟩ = some (.pointer (some ⟨bb, 0, none⟩)))
    (h0 : J 0 w) (hm : w.cell? ⟨mb, 0, none⟩ = some (.int .i64 many)) (hdn : V.down = false) (hn : ((frm + many : Nat) : Int) ≤ V.n)
    (a₁ : Nat → Nat → Act)
    (hassign : ∀ (l k g : Nat) (W : World) (K' : Act → World → Prop), K' (a₁ k g) W →
      assign.wpIn (Fence.wide.inRound l) (n - 1 - 1) Tryd.prog (Exit.then K' (fun _ _ _ => False)) { tmps := (ps.zip #[.int .i64 k, .slice (some ⟨g, 0, none⟩) 512 512]).foldl (fun t (p, v) => t.setIfInBounds p v) a.tmps, defers := [] } W)
    (hbody : ∀ (l k g : Nat) (W : World), J k W → k < many → w.heap.size ≤ g → Blk W g 5 ((V.now ((frm + k : Nat) : Int)).map cu8) →
      body.wpIn (Fence.wide.inRound l) (n - 1 - 1) Tryd.prog (fun e _ W' => KeepsOthers W W' ∧ ((e = .normal ∧ J (k + 1) W') ∨ (∃ id, e = .exit id ∧ Jx id W'))) (a₁ k g) W)
    (hdone : ∀ (D : Nat) (W : World), w.heap.size ≤ D → J many W → W.heap[D]? = some (.deferred (some [])) → Q .normal { a with defers := { target := .collected D, args := #[] } :: a.defers } W)
    (hstop : ∀ (D id : Nat) (W : World), w.heap.size ≤ D → Jx id W → W.heap[D]? = some (.deferred (some [])) → (Code.exit id).wpIn Fence.wide n Tryd.prog Q { a with defers := { target := .collected D, args := #[] } :: a.defers } W) :
    (Code.rangeFunc g ps assign body).wpIn Fence.wide n Tryd.prog Q a w := by
  refine wpIn_rangeFunc ?_
  intro fn hfn
  obtain ⟨rec, hrec⟩ : ∃ rec : LoopState → Option Code → Loop, rec = fun st pe => { state := st, pending := pe, fn, tmps := a.tmps, params := ps, assign, body, defers := w.heap.size } := ⟨_, rfl⟩
  obtain ⟨W1, hW1⟩ : ∃ W1, (w.alloc (.deferred (some []))).alloc (.loop (rec .ready none)) = W1 := ⟨_, rfl⟩
  have hL1 : W1.heap[w.heap.size + 1]? = some (.loop (rec .ready none)) := by
    rw [← hW1]; have := World.alloc_heap_new (w.alloc (.deferred (some []))) (.loop (rec .ready none)); rwa [World.size_alloc] at this
  have hK1 : W1.heap[w.heap.size]? = some (.deferred (some [])) := by
    rw [← hW1]; exact (Below.heap_alloc _ _ _ (by simp)).trans (World.alloc_heap_new w _)
  have hI1 : J 0 W1 := by rw [← hW1]; exact hJo.alloc _ (hJo.alloc _ h0)
  have hb1 : Below w.heap.size w W1 := by
    rw [← hW1]; exact (((Below.refl _ w).alloc (Nat.le_refl _) _).alloc (by simp) _)
  refine ⟨w.heap.size + 1, [{ target := .collected w.heap.size, args := #[] }], W1, { target := .fn (.func 81) #[.pointer (some ⟨mb, 0, none⟩), .pointer (some ⟨dbx, 0, none⟩), .pointer (some ⟨fb, 0, none⟩), .pointer (some ⟨ebx, 0, none⟩)], args := #[.func (.yield (w.heap.size + 1)) #[] #[]] }, W1, 81,
    #[.func (.yield (w.heap.size + 1)) #[] #[]] ++ #[.pointer (some ⟨mb, 0, none⟩), .pointer (some ⟨dbx, 0, none⟩), .pointer (some ⟨fb, 0, none⟩), .pointer (some ⟨ebx, 0, none⟩)], W1, ?_, ?_, ?_, ?_, fun h => absurd h Bool.false_ne_true, ?_⟩
  · rw [← hW1, hrec]; exact run_enterLoop_outer _ _ _ _ _
  · simp only [resolve, hg]
    simp [go_sem]
  · intro f' _; trivial
  · simp [invoke, go_sem, eg]
  · refine (sects_in (n - 1) (w.heap.size + 1) mb dbx fb ebx many frm db bb K V
      (fun k W => J k W ∧ W.heap[w.heap.size + 1]? = some (.loop (rec .ready none)) ∧ W.heap[w.heap.size]? = some (.deferred (some [])))
      (fun W => ∃ id, Jx id W ∧ W.heap[w.heap.size + 1]? = some (.loop (rec .done (some (.exit id)))) ∧ W.heap[w.heap.size]? = some (.deferred (some [])))
      (fun k W h => hJ k W h.1) ?_ W1 ((hb1.cell (p := ⟨mb, 0, none⟩) (cell_lt hm)).trans hm) ⟨hI1, hL1, hK1⟩ hdn hn).mono ?_
    · rintro k W W' g0 ⟨hi, hl, hk⟩ hlt hbel hg0 hblk
      have hi' : J k W' := hJo k W W' none hi (grown_of_below hbel) (fun r e => by cases e)
      have hlt0 : w.heap.size + 1 < W.heap.size := (Array.getElem?_eq_some_iff.1 hl).1
      have hl' : W'.heap[w.heap.size + 1]? = some (.loop (rec .ready none)) := (hbel.block _ hlt0).trans hl
      have hk' : W'.heap[w.heap.size]? = some (.deferred (some [])) := (hbel.block _ (by omega)).trans hk
      have hlt1 : w.heap.size + 1 < W'.heap.size := (Array.getElem?_eq_some_iff.1 hl').1
      have hy := run_yield (P := Tryd.prog) (args := #[.int .i64 (k : Int), .slice (some ⟨g0, 0, none⟩) 512 512]) hl' (by rw [hrec]; exact hps.symm)
      rw [hrec] at hy
      refine ⟨fn, _, assign, body, hy, roundIn_of_wpIn trivial (hassign _ k g0 W' _ ⟨_, run_beginRound hl' (by rw [hrec]), ?_⟩)⟩
      have hl2 : (W'.putObj (w.heap.size + 1) (.loop { rec .ready none with state := .busy })).heap[w.heap.size + 1]? = some (.loop { rec .ready none with state := .busy }) := World.putObj_heap_same hlt1
      have hk2 : (W'.putObj (w.heap.size + 1) (.loop { rec .ready none with state := .busy })).heap[w.heap.size]? = some (.deferred (some [])) := (World.putObj_heap_other (by omega)).trans hk'
      have hgne : g0 ≠ w.heap.size + 1 := fun e => by
        have h1 : W'.heap[g0]? = _ := hblk
        rw [e, hl'] at h1
        cases h1
      have hblk2 : Blk (W'.putObj (w.heap.size + 1) (.loop { rec .ready none with state := .busy })) g0 5 ((V.now ((frm + k : Nat) : Int)).map cu8) := (World.putObj_heap_other hgne).trans hblk
      refine wpIn_mono (hbody _ k g0 _ (hJo.putObj _ hi' (by omega) hl' rfl) hlt (by omega) hblk2) ?_
      have fin : ∀ (jump : Option Code) (W3 : World), KeepsOthers (W'.putObj (w.heap.size + 1) (.loop { rec .ready none with state := .busy })) W3 →
          (Instr.endRound (w.heap.size + 1) jump).run Tryd.prog W3 = .ok (.bool jump.isNone) (W3.putObj (w.heap.size + 1) (.loop (rec (if jump.isNone then .ready else .done) jump))) ∧
          W3.heap[w.heap.size + 1]? = some (.loop { rec .ready none with state := .busy }) ∧
          (W3.putObj (w.heap.size + 1) (.loop (rec (if jump.isNone then .ready else .done) jump))).heap[w.heap.size + 1]? = some (.loop (rec (if jump.isNone then .ready else .done) jump)) ∧
          (W3.putObj (w.heap.size + 1) (.loop (rec (if jump.isNone then .ready else .done) jump))).heap[w.heap.size]? = some (.deferred (some [])) := fun jump W3 hk3 => by
        have hl3 := hk3.same _ _ hl2 rfl
        have := run_endRound (P := Tryd.prog) jump hl3
        rw [hrec] at this ⊢
        exact ⟨this, by rw [hrec] at hl3; exact hl3, World.putObj_heap_same (Array.getElem?_eq_some_iff.1 hl3).1, (World.putObj_heap_other (by omega)).trans (hk3.same _ _ hk2 rfl)⟩
      rintro e a3 W3 ⟨hk3, (⟨rfl, hi3⟩ | ⟨id, rfl, hi3⟩)⟩
      · obtain ⟨hr, hl3, hl4, hk4⟩ := fin none W3 hk3
        exact ⟨_, _, hr, .inl ⟨rfl, hJo.putObj _ hi3 (by omega) hl3 rfl, hl4, hk4⟩⟩
      · obtain ⟨hr, hl3, hl4, hk4⟩ := fin (some (.exit id)) W3 hk3
        exact ⟨_, _, hr, .inr ⟨rfl, id, hJxo.putObj _ hi3 (by omega) hl3 rfl, hl4, hk4⟩⟩
    · rintro e W2 ⟨⟨v, rfl⟩, (⟨hi, hl, hk⟩ | ⟨id, hi, hl, hk⟩)⟩
      · exact ⟨none, _, by have := run_endLoop (P := Tryd.prog) hl (by rw [hrec]; simp); rw [hrec] at this; exact this, hdone _ _ (Nat.le_refl _) (hJo.putObj _ hi (by omega) hl rfl) ((World.putObj_heap_other (by omega)).trans hk)⟩
      · exact ⟨some (.exit id), _, by have := run_endLoop (P := Tryd.prog) hl (by rw [hrec]; simp); rw [hrec] at this; exact this, hstop _ id _ (Nat.le_refl _) (hJxo.putObj _ hi (by omega) hl rfl) ((World.putObj_heap_other (by omega)).trans hk)⟩
end Go.Proofs.YteediemhcocgdaaDoor
