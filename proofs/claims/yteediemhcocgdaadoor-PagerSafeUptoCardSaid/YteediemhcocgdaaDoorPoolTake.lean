/-
  pager's Pool: fresh, Take, Drop, Frozen.
-/
import Derived.Test.YteediemhcocgdaaDoorPoolWalk
import Derived.Deep.RegionLaw
namespace Go.Proofs.YteediemhcocgdaaDoor
open Go.RowKit
open HeapP (at_ IsHeap)

set_option maxRecDepth 100000 in
theorem frozen_any (p : Nat) (S : PoolS) (x : Int) (w : World) (h : PoolAt w p S) (hx : I64 x) :
    Calls Tryd.prog 33 #[.pointer (some ⟨p, 0, none⟩), .int .i64 x] w fun e w' => e = .returned (.bool (S.fr x)) ∧ w = w' := by
  obtain ⟨c0, c1, c2, c3, c4, c5, c6, c7⟩ := h.cell
  have hlf := h.lookF hx 0
  rw [show w.drewN 0 = w from rfl] at hlf
  clear h
  go_enter Tryd.func33, Tryd.ntmps33
  go_wp2_with fail
  go_ret
  exact ⟨rfl, rfl⟩

/-- The state in which page n has been found for taking: it is neither given nor above next. -/
def FreshOK (n : Int) (S' : PoolS) : Prop := ∀ g l, PoolOK { S' with pg := fun x => if x = n then some (g, l) else S'.pg x, tn := S'.tn + 1 }

/-- What fresh leaves. -/
def FreshR (p : Nat) (S : PoolS) (w : World) (e : Ending) (w' : World) : Prop :=
  ∃ S', PoolR p S w S' w' ∧ ((∃ n, S.free n ∧ (∀ x, S.free x → n ≤ x) ∧ e = .returned (.tuple #[.int .i64 n, .bool true]) ∧ FreshOK n S') ∨ ((∀ x, ¬ S.free x) ∧ e = .returned (.tuple #[.int .i64 0, .bool false]) ∧ PoolOK S'))

theorem free_same {p : Nat} {S S' : PoolS} {w w' : World} (h : PoolR p S w S' w') (x : Int) : S'.free x ↔ S.free x := by
  obtain ⟨A', c', gl', m, rfl⟩ := h.eq
  exact Iff.rfl
theorem tn_same {p : Nat} {S S' : PoolS} {w w' : World} (h : PoolR p S w S' w') : S'.tn = S.tn := by
  obtain ⟨A', c', gl', m, rfl⟩ := h.eq
  rfl

theorem PoolOKx.passN {S : PoolS} (h : PoolOK S) (hm : S.next < S.many) (hu : S.fr S.next = true) : PoolOK (S.nx (S.next + 1)) := by
  have h1 := h.pass1 hm (.inl hu)
  exact ⟨h1.next0, h1.nextM, h1.manyM, h1.given, h1.nodup, h1.pgB, h1.frB, fun x hx => by have := h.lfB x hx; show 0 ≤ x ∧ x < S.next + 1; omega, h1.tnB, h1.fnB, h1.lnB⟩

theorem card_upd (f : Int → Option (Nat × List UInt8)) (n : Int) (q : Nat × List UInt8) (y : Int) : (if y = n then some q else f y) ≠ none ↔ f y ≠ none ∨ y = n := by
  by_cases e : y = n
  · simp [e]
  · simp [e]
/-- The least given page is taken. -/
theorem fresh_given {S : PoolS} {A' : Option Addr} {c' : Nat} {gl' : List Int} {n : Int} (h : PoolOK S) (hp : (n :: gl').Perm S.gl) : FreshOK n (S.row A' c' gl') := fun g l => by
  have hn := (h.given n).1 (hp.mem_iff.1 (by simp))
  have hnd := List.nodup_cons.1 (hp.nodup_iff.2 h.nodup)
  refine ⟨h.next0, h.nextM, h.manyM, fun x => ⟨fun hx => ?_, fun hx => ?_⟩, hnd.2, fun x hx => ?_, h.frB, h.lfB, ?_, h.fnB, h.lnB⟩
  · have hne : x ≠ n := fun e => hnd.1 (e ▸ hx)
    obtain ⟨a, b, c, d⟩ := (h.given x).1 (hp.mem_iff.1 (List.mem_cons_of_mem _ hx))
    exact ⟨a, b, by show (if x = n then _ else S.pg x) = none; rw [if_neg hne]; exact c, d⟩
  · obtain ⟨a, b, c, d⟩ := hx
    have c' : (if x = n then some (g, l) else S.pg x) = none := c
    by_cases e : x = n
    · rw [if_pos e] at c'; cases c'
    · rw [if_neg e] at c'
      have := hp.mem_iff.2 ((h.given x).2 ⟨a, b, c', d⟩)
      rcases List.mem_cons.1 this with h1 | h1
      · exact absurd h1 e
      · exact h1
  · by_cases e : x = n
    · subst e
      exact ⟨hn.1, hn.2.1, hn.2.2.2⟩
    · have hx' : (if x = n then some (g, l) else S.pg x) ≠ none := hx
      rw [if_neg e] at hx'
      exact h.pgB x hx'
  · exact h.tnB.add (x := n) (fun hx => hx hn.2.2.1) (card_upd S.pg n (g, l))
/-- The next page is taken. -/
theorem fresh_next {S : PoolS} (h : PoolOK S) (hg : S.gl = []) (hm : S.next < S.many) (hf : S.fr S.next = false) : FreshOK S.next (S.nx (S.next + 1)) := fun g l => by
  have hl : S.lf S.next = false := by
    rcases e : S.lf S.next with _ | _
    · rfl
    · have := (h.lfB _ e).2; omega
  refine ⟨by have := h.next0; show 0 ≤ S.next + 1; omega, by show S.next + 1 ≤ S.many; omega, h.manyM, fun x => ⟨fun hx => ?_, fun hx => ?_⟩, h.nodup, fun x hx => ?_, h.frB, fun x hx => ?_, ?_, h.fnB, h.lnB⟩
  · have hx' : x ∈ S.gl := hx
    rw [hg] at hx'
    cases hx'
  · obtain ⟨a, b, c, d⟩ := hx
    have c' : (if x = S.next then some (g, l) else S.pg x) = none := c
    have b' : x < S.next + 1 := b
    by_cases e : x = S.next
    · rw [if_pos e] at c'; cases c'
    · rw [if_neg e] at c'
      exact (h.given x).2 ⟨a, by omega, c', d⟩
  · by_cases e : x = S.next
    · subst e
      exact ⟨h.next0, by show S.next < S.next + 1; omega, hf, hl⟩
    · have hx' : (if x = S.next then some (g, l) else S.pg x) ≠ none := hx
      rw [if_neg e] at hx'
      obtain ⟨a, b, r⟩ := h.pgB x hx'
      exact ⟨a, by show x < S.next + 1; omega, r⟩
  · have := h.lfB x hx
    show 0 ≤ x ∧ x < S.next + 1
    omega
  · exact h.tnB.add (x := S.next) (fun hx => by have := h.pgB S.next hx; omega) (card_upd S.pg S.next (g, l))
theorem free_of_given {S : PoolS} (h : PoolOK S) {x : Int} (hx : x ∈ S.gl) : S.free x := by
  obtain ⟨a, b, r⟩ := (h.given x).1 hx
  exact ⟨a, by have := h.nextM; omega, r⟩
theorem given_of_free {S : PoolS} (h : PoolOK S) {x : Int} (hx : S.free x) (hlt : x < S.next) : x ∈ S.gl := (h.given x).2 ⟨hx.1, hlt, hx.2.2⟩
theorem free_next {S : PoolS} (h : PoolOK S) (hm : S.next < S.many) (hf : S.fr S.next = false) : S.free S.next := by
  refine ⟨h.next0, hm, ?_, hf, ?_⟩
  · rcases e : S.pg S.next with _ | q
    · rfl
    · have := (h.pgB S.next (by rw [e]; simp)).2.1; omega
  · rcases e : S.lf S.next with _ | _
    · rfl
    · have := (h.lfB _ e).2; omega

theorem take_pool_none {p : Nat} {S : PoolS} {w : World} (h : PoolAt w p S) (hl : S.gl = []) : Calls Tryd.prog 80 #[.pointer (some ⟨p, 3, none⟩)] w fun e w' => e = .returned (.tuple #[.int .i64 0, .bool false]) ∧ w = w' :=
  take_none p 3 98 S.cells S.A S.c w h.blk (by unfold PoolS.cells; rw [hl]; rfl)
theorem take_pool_some {p : Nat} {S : PoolS} {w : World} (h : PoolAt w p S) (hok : PoolOK S) (hl : 0 < S.gl.length) : Calls Tryd.prog 80 #[.pointer (some ⟨p, 3, none⟩)] w fun e w' => ∃ x gl', (x :: gl').Perm S.gl ∧ (∀ y ∈ gl', x ≤ y) ∧ e = .returned (.tuple #[.int .i64 x, .bool true]) ∧ PoolR p S w (S.row S.A S.c gl') w' := by
  refine (take_some p 3 98 S.cells S.A S.c S.gl w h.blk rfl h.row (h.row.ne h.blk (by decide)) h.heap (by have := hok.glLen; omega) hl).mono ?_
  rintro e w1 ⟨x, l', h1, h2, h3, h4, h5, h6, h7⟩
  exact ⟨x, l', h1, h2, h4, ⟨S.A, S.c, l', S.next, rfl⟩, h.setRow h3 h5 h6 h7, h7.mono fun b hb => fp_sub hb, fun b hb => .inl hb⟩

theorem PoolR.then_ {p : Nat} {S S1 S2 : PoolS} {w w1 w2 : World} (h : PoolR p S w S1 w1) (h2 : PoolR p S1 w1 S2 w2) : PoolR p S w S2 w2 := by
  refine ⟨?_, h2.at_, h.turn.trans h2.turn h.fp, fun b hb => ?_⟩
  · obtain ⟨A', c', gl', m, rfl⟩ := h.eq
    obtain ⟨A2, c2, gl2, m2, rfl⟩ := h2.eq
    exact ⟨A2, c2, gl2, m2, rfl⟩
  · rcases h2.fp b hb with h3 | h3
    · exact h.fp b h3
    · exact .inr (Nat.le_trans h.turn.size h3)
theorem fresh_end_given {p : Nat} {S S' : PoolS} {w wr w1 : World} {A' : Option Addr} {c' : Nat} {x : Int} {gl' : List Int} (hr : PoolR p S w S' wr) (hk : PoolOK S') (hpm : (x :: gl').Perm S'.gl) (hle : ∀ y ∈ gl', x ≤ y) (h : PoolR p S w (S'.row A' c' gl') w1) :
    FreshR p S w (.returned (.tuple #[.int .i64 x, .bool true])) w1 := by
  have hx : x ∈ S'.gl := hpm.mem_iff.1 (by simp)
  refine ⟨_, h, .inl ⟨x, (free_same hr x).1 (free_of_given hk hx), fun y hy => ?_, rfl, fun g l => fresh_given hk hpm g l⟩⟩
  have hxn := ((hk.given x).1 hx).2.1
  by_cases hyn : y < S'.next
  · rcases List.mem_cons.1 (hpm.mem_iff.2 (given_of_free hk ((free_same hr y).2 hy) hyn)) with e | e
    · omega
    · exact hle y e
  · omega
theorem fresh_end_next {p : Nat} {S S' : PoolS} {w wr w1 : World} (hr : PoolR p S w S' wr) (hk : PoolOK S') (hg : S'.gl = []) (hm : S'.next < S'.many) (hf : S'.fr S'.next = false) (h : PoolR p S w (S'.nx (S'.next + 1)) w1) :
    FreshR p S w (.returned (.tuple #[.int .i64 S'.next, .bool true])) w1 := by
  refine ⟨_, h, .inl ⟨S'.next, (free_same hr _).1 (free_next hk hm hf), fun y hy => ?_, rfl, fun g l => fresh_next hk hg hm hf g l⟩⟩
  by_cases hyn : y < S'.next
  · have := given_of_free hk ((free_same hr y).2 hy) hyn
    rw [hg] at this
    cases this
  · omega
theorem fresh_end_none {p : Nat} {S S' : PoolS} {w wr w1 : World} (hr : PoolR p S w S' wr) (hk : PoolOK S') (hg : S'.gl = []) (hm : S'.next = S'.many) (h : PoolR p S w S' w1) :
    FreshR p S w (.returned (.tuple #[.int .i64 0, .bool false])) w1 := by
  refine ⟨_, h, .inr ⟨fun y hy => ?_, rfl, hk⟩⟩
  have hy2 := (free_same hr y).2 hy
  have := given_of_free hk hy2 (by have := hy2.2.1; omega)
  rw [hg] at this
  cases this

set_option maxHeartbeats 2000000 in
set_option maxRecDepth 100000 in
theorem fresh_any (p : Nat) (S : PoolS) (w : World) (h : PoolAt w p S) (hok : PoolOK S) :
    Calls Tryd.prog 61 #[.pointer (some ⟨p, 0, none⟩)] w (FreshR p S w) := by
  have hR := PoolR.refl h
  have H := Lib.hid h
  have HK := Lib.hid hok
  have HR := Lib.hid hR
  clear h hok hR
  go_enter Tryd.func61, Tryd.ntmps61
  go_wp2_with fail
  go_loopw [] (fun wr => ∃ S', PoolR p S w S' wr ∧ PoolOK S') (fun wr => (S.many - nextOf wr p).toNat)
  case atStart => exact ⟨S, HR.out, HK.out⟩
  case round =>
    obtain ⟨S', hr, hk⟩ := hrel
    have hmany : S'.many = S.many := by
      obtain ⟨A', c', gl', m, rfl⟩ := hr.eq
      rfl
    have hno := hr.at_.nextOf
    obtain ⟨c0, c1, c2, c3, c4, c5, c6, c7⟩ := hr.at_.cell
    have hlf := hr.at_.lookF hk.in64
    have hfz := hr.at_.blk.frozen 4
    have hn0 := hk.next0
    have hnM : S'.next ≤ 1048576 := by have := hk.nextM; have := hk.manyM; omega
    have HR1 := Lib.hid hr
    have HK1 := Lib.hid hk
    clear hr hk
    have hgc : S'.gl = [] ∨ 0 < S'.gl.length := by
      rcases e : S'.gl with _ | ⟨y, r⟩
      · exact .inl rfl
      · exact .inr (by simp)
    by_cases hlt : S'.next < S.many
    · rcases hfr : S'.fr S'.next with _ | _
      · rw [hfr] at hlf
        go_wp2_with fail
        go_quiet (fail)
        rcases hgc with hgl | hgl
        · have hne : decide (S'.next = S.many) = false := decide_eq_false (by omega)
          go_wp2_with fail
          refine (take_pool_none (HR1.out.drewN _).at_ hgl).mono ?_
          rintro e w1 ⟨rfl, rfl⟩
          go_wp2_with fail
          go_quiet (fail)
          go_wp2_with fail
          go_ret2
          exact fresh_end_next HR1.out HK1.out hgl (by omega) hfr ((HR1.out.drewN _).setNext _)
        · go_wp2_with fail
          refine (take_pool_some (HR1.out.drewN _).at_ HK1.out hgl).mono ?_
          rintro e w1 ⟨x, gl', hpm, hle, rfl, hr2⟩
          have HF := Lib.hid (fresh_end_given HR1.out HK1.out hpm hle ((HR1.out.drewN _).then_ hr2))
          clear hpm hle hr2
          go_wp2_with fail
          go_ret2
          exact HF.out
      · rw [hfr] at hlf
        go_wp2_with fail
        go_quiet (fail)
        go_wp2_with fail
        have hs := (HR1.out.drewN nq).setNext (S'.next + 1)
        exact ⟨⟨S'.nx (S'.next + 1), hs, HK1.out.passN (by omega) hfr⟩, by rw [hno, hs.at_.nextOf]; show (S.many - (S'.next + 1)).toNat < _; omega⟩
    · have hdec : decide (S'.next < S.many) = false := decide_eq_false hlt
      have hnm : S'.next = S.many := by have := HK1.out.nextM; omega
      go_wp2_with fail
      go_quiet (fail)
      rcases hgc with hgl | hgl
      · go_wp2_with fail
        refine (take_pool_none (HR1.out.drewN _).at_ hgl).mono ?_
        rintro e w1 ⟨rfl, rfl⟩
        go_wp2_with fail
        go_quiet (fail)
        go_wp2_with fail
        go_ret2
        exact fresh_end_none HR1.out HK1.out hgl (by omega) ((HR1.out.drewN _).drewN _)
      · go_wp2_with fail
        refine (take_pool_some (HR1.out.drewN _).at_ HK1.out hgl).mono ?_
        rintro e w1 ⟨x, gl', hpm, hle, rfl, hr2⟩
        have HF := Lib.hid (fresh_end_given HR1.out HK1.out hpm hle ((HR1.out.drewN _).then_ hr2))
        clear hpm hle hr2
        go_wp2_with fail
        go_ret2
        exact HF.out
theorem step_map_put {w : World} {ops : Array Oper} {o : Oper} {a : Act} {K : Act → World → Prop} {Q : Exit → Act → World → Prop} {E : Prop} (hgd : o.guard = none) (m k v : Operand) (t e : TypeId) (hop : o.op = Op.mapUpdate t m k v)
    (ht : Tryd.prog.underlying t = some (.map 3 e)) (b sz : Nat) (f : Int → Option Value) (x : Int) (u : Value) (hm : a.eval m = .map (some b)) (hk : a.eval k = .int .i64 x) (hv : a.eval v = u) (h : MapV w b f sz) (hn : sz < maxLen) (hx : I64 x)
    (hK : ∀ w', MapV w' b (mput f x u) (if (f x).isSome then sz else sz + 1) → w.grownBy w' (some b) → K (a.put o.dst undef) w') :
    if Region.wanted o (yielded ops a.tmps) = true then Oper.wp Tryd.prog o a w K Q else E := by
  have hw : Region.wanted o (yielded ops a.tmps) = true := by simp [Region.wanted, hgd]
  rw [if_pos hw]
  obtain ⟨w', hrun, r1, r2⟩ := h.put ht hn hx u
  unfold Oper.wp
  simp [execOp, hop, hm, hk, hv, hrun, Result.andThen]
  exact hK w' r1 r2

/-- The cells of a new page. -/
def zc : List Value := List.replicate 500 (.int .u8 0)
def zeros (n : Nat) : List UInt8 := List.replicate n 0
theorem zeros_cells : (zeros 500).map cu8 = zc := by
  unfold zeros
  rw [List.map_replicate]
  rfl
/-- The pool with page n taken. -/
def PoolS.tk (S : PoolS) (n : Int) (g : Nat) : PoolS := { S with pg := fun x => if x = n then some (g, zeros 500) else S.pg x, tn := S.tn + 1 }

theorem PoolAt.taken {w1 w2 : World} {p : Nat} {S : PoolS} {n : Int} (h : PoolAt w1 p S) (hn : S.pg n = none)
    (hm : MapV w2 S.tb (mput (pageF S.pg) n (.slice (some ⟨w1.heap.size, 0, none⟩) 500 500)) (if (pageF S.pg n).isSome then S.tn else S.tn + 1)) (hg : (w1.alloc (.cells zc.toArray 5)).grownBy w2 (some S.tb)) : PoolAt w2 p (S.tk n w1.heap.size) := by
  have hA : PoolAt (w1.alloc (.cells zc.toArray 5)) p S := h.keep fun b hb => Below.heap_alloc w1 _ b (h.lt hb)
  have hk : ∀ b, b < (w1.alloc (.cells zc.toArray 5)).heap.size → b ≠ S.tb → w2.heap[b]? = (w1.alloc (.cells zc.toArray 5)).heap[b]? := fun b h0 h1 => hg.block b h0 (fun e => h1 (Option.some.inj e))
  have hp : (pageF S.pg n).isSome = false := by unfold pageF; rw [hn]; rfl
  rw [hp] at hm
  have hf : mput (pageF S.pg) n (.slice (some ⟨w1.heap.size, 0, none⟩) 500 500) = pageF (S.tk n w1.heap.size).pg := by
    funext x
    unfold mput pageF PoolS.tk
    dsimp only
    by_cases e : x = n
    · rw [if_pos e, if_pos e]; rfl
    · rw [if_neg e, if_neg e]
  rw [hf] at hm
  have hnew : Blk (w1.alloc (.cells zc.toArray 5)) w1.heap.size 5 zc := Blk.new _ _ _
  refine ⟨(hk p hA.blk.lt (blk_map hA.tm hA.blk)).trans hA.blk, hA.row.keep fun b hb => hk b (hA.row.lt b hb) (fun e => hA.row.ne_map hA.tm (e ▸ hb)), h.heap, hm, hA.fm.keep (hk _ hA.fm.lt h.tf.symm), hA.lm.keep (hk _ hA.lm.lt h.tl.symm), fun x g l hx => ?_, fun x y g l m hx hy => ?_, h.tf, h.tl, h.fl⟩
  · have hx' : (if x = n then some (w1.heap.size, zeros 500) else S.pg x) = some (g, l) := hx
    by_cases e : x = n
    · rw [if_pos e] at hx'
      cases hx'
      refine ⟨(hk _ hnew.lt (blk_map hA.tm hnew)).trans ?_, List.length_replicate⟩
      rw [zeros_cells]
      exact hnew
    · rw [if_neg e] at hx'
      obtain ⟨h1, h2⟩ := hA.page x g l hx'
      exact ⟨(hk g h1.lt (blk_map hA.tm h1)).trans h1, h2⟩
  · have hx' : (if x = n then some (w1.heap.size, zeros 500) else S.pg x) = some (g, l) := hx
    have hy' : (if y = n then some (w1.heap.size, zeros 500) else S.pg y) = some (g, m) := hy
    by_cases e : x = n <;> by_cases e2 : y = n
    · rw [e, e2]
    · rw [if_pos e] at hx'
      rw [if_neg e2] at hy'
      cases hx'
      have := (h.page y _ m hy').1.lt
      omega
    · rw [if_neg e] at hx'
      rw [if_pos e2] at hy'
      cases hy'
      have := (h.page x _ l hx').1.lt
      omega
    · rw [if_neg e] at hx'
      rw [if_neg e2] at hy'
      exact h.inj x y g l m hx' hy'
/-- What Take leaves. -/
def TakePR (p : Nat) (S : PoolS) (w : World) (e : Ending) (w' : World) : Prop :=
  ((∀ x, ¬ S.free x) ∧ e = .returned (.tuple #[.int .i64 0, .int .i64 131]) ∧ ∃ S', PoolR p S w S' w' ∧ PoolOK S') ∨
  ∃ n S' w1, S.free n ∧ (∀ x, S.free x → n ≤ x) ∧ e = .returned (.tuple #[.int .i64 n, .int .i64 0]) ∧ PoolR p S w S' w1 ∧ PoolAt w' p (S'.tk n w1.heap.size) ∧ PoolOK (S'.tk n w1.heap.size) ∧ Turn (S.fp p) w w'

theorem Turn.mk2 {p : Nat} {S S' : PoolS} {w w1 w2 : World} {o : Obj} (h : PoolR p S w S' w1) (hg : (w1.alloc o).grownBy w2 (some S'.tb)) : Turn (S.fp p) w w2 :=
  (h.turn.alloc o).trans (Turn.of_grown hg) fun b hb => by
    have e : S'.tb = b := Option.some.inj hb
    exact h.fp b (.inr (.inl e.symm))

set_option maxHeartbeats 2000000 in
set_option maxRecDepth 100000 in
theorem take_any (p : Nat) (S : PoolS) (w : World) (h : PoolAt w p S) (hok : PoolOK S) :
    Calls Tryd.prog 35 #[.pointer (some ⟨p, 0, none⟩)] w (TakePR p S w) := by
  have hmk : ∀ W, (Instr.makeSlice 23 (.int .i64 500) (.int .i64 500)).run Tryd.prog W = .ok (.slice (some ⟨W.heap.size, 0, none⟩) 500 500) (W.alloc (.cells zc.toArray 5)) := fun W => make_bytes 500 (by omega) W
  have hfr := fresh_any p S w h hok
  have hM : S.many ≤ 1048576 := hok.manyM
  have hT := hok.tnLe
  have HFR := Lib.hid hfr
  clear h hok hfr
  go_enter Tryd.func35, Tryd.ntmps35
  go_wp2_with fail
  refine HFR.out.mono ?_
  rintro e w1 ⟨S', hr, ⟨n, hn, hle, rfl, hf⟩ | ⟨hno, rfl, hk⟩⟩
  · have hn2 := (free_same hr n).2 hn
    have hnb : 0 ≤ n ∧ n < S.many := ⟨hn.1, hn.2.1⟩
    obtain ⟨c0, c1, c2, c3, c4, c5, c6, c7⟩ := hr.at_.cell
    have htn := tn_same hr
    have HR := Lib.hid hr
    have HN := Lib.hid hn
    have HN2 := Lib.hid hn2
    have HLE := Lib.hid hle
    have HF := Lib.hid hf
    clear hr hn hn2 hle hf
    obtain ⟨w2, hrun, hm2, hg2⟩ := ((HR.out.at_.tm.alloc (.cells zc.toArray 5)).drew).put Tryd.underlying88 (by rw [htn]; unfold maxLen; omega) (i64_of (x := n) (by omega) (by omega)) (.slice (some ⟨w1.heap.size, 0, none⟩) 500 500)
    have c5' : (w1.alloc (.cells zc.toArray 5)).cell? ⟨p, 5, none⟩ = some (.map (some S'.tb)) := by rw [World.cell?_alloc_lt _ _ ⟨p, 5, none⟩ HR.out.at_.blk.lt]; exact c5
    have HM2 := Lib.hid hm2
    have HG2 : Hid ((w1.alloc (.cells zc.toArray 5)).grownBy w2 (some S'.tb)) := ⟨hg2.os, hg2.tape, hg2.output, hg2.size, hg2.block⟩
    clear hm2 hg2
    go_wp2_with fail
    go_region
    all_goals go_wp2_with fail
    go_ret2
    exact .inr ⟨n, S', w1, HN.out, HLE.out, rfl, HR.out, HR.out.at_.taken HN2.out.2.2.1 HM2.out HG2.out, HF.out _ _, Turn.mk2 HR.out HG2.out⟩
  · have HR := Lib.hid hr
    have HNO := Lib.hid hno
    have HK := Lib.hid hk
    clear hr hno hk
    go_wp2_with fail
    go_ret2
    exact .inl ⟨HNO.out, rfl, S', HR.out, HK.out⟩
end Go.Proofs.YteediemhcocgdaaDoor
