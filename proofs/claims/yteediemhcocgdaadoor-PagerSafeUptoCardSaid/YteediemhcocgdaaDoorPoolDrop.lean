/-
  pager's Pool: Drop.
-/
import Derived.Test.YteediemhcocgdaaDoorPoolTake
namespace Go.Proofs.YteediemhcocgdaaDoor
open Go.RowKit

/-- Page x is no longer taken. -/
def PoolS.rmT (S : PoolS) (x : Int) : PoolS := { S with pg := fun y => if y = x then none else S.pg y, tn := S.tn - 1 }
/-- Page x is no longer frozen, but left. -/
def PoolS.rmF (S : PoolS) (x : Int) : PoolS := { S with fr := fun y => if y = x then false else S.fr y, fn := S.fn - 1, lf := fun y => if y = x then true else S.lf y, ln := S.ln + 1 }

theorem mdel_page (f : Int → Option (Nat × List UInt8)) (x : Int) : mdel (pageF f) x = pageF (fun y => if y = x then none else f y) := by
  funext y
  unfold mdel pageF
  by_cases e : y = x <;> simp [e]
theorem mdel_set (f : Int → Bool) (x : Int) : mdel (setF f) x = setF (fun y => if y = x then false else f y) := by
  funext y
  unfold mdel setF
  by_cases e : y = x <;> simp [e]
theorem mput_set (f : Int → Bool) (x : Int) : mput (setF f) x (.bool true) = setF (fun y => if y = x then true else f y) := by
  funext y
  unfold mput setF
  by_cases e : y = x <;> simp [e]

theorem PoolAt.rmT {w w1 : World} {p : Nat} {S : PoolS} {x : Int} {q : Nat × List UInt8} (h : PoolAt w p S) (hx : S.pg x = some q) (hm : MapV w1 S.tb (mdel (pageF S.pg) x) (if (pageF S.pg x).isSome then S.tn - 1 else S.tn)) (hg : w.grownBy w1 (some S.tb)) : PoolAt w1 p (S.rmT x) := by
  have hk : ∀ b, b < w.heap.size → b ≠ S.tb → w1.heap[b]? = w.heap[b]? := fun b h0 h1 => hg.block b h0 (fun e => h1 (Option.some.inj e))
  have hp : (pageF S.pg x).isSome = true := by unfold pageF; rw [hx]; rfl
  rw [hp, mdel_page] at hm
  refine ⟨(hk p h.blk.lt (blk_map h.tm h.blk)).trans h.blk, h.row.keep fun b hb => hk b (h.row.lt b hb) (fun e => h.row.ne_map h.tm (e ▸ hb)), h.heap, hm, h.fm.keep (hk _ h.fm.lt h.tf.symm), h.lm.keep (hk _ h.lm.lt h.tl.symm), fun y g l hy => ?_, fun y z g l m hy hz => ?_, h.tf, h.tl, h.fl⟩
  · have hy' : (if y = x then none else S.pg y) = some (g, l) := hy
    by_cases e : y = x
    · rw [if_pos e] at hy'; cases hy'
    · rw [if_neg e] at hy'
      obtain ⟨h1, h2⟩ := h.page y g l hy'
      exact ⟨(hk g h1.lt (blk_map h.tm h1)).trans h1, h2⟩
  · have hy' : (if y = x then none else S.pg y) = some (g, l) := hy
    have hz' : (if z = x then none else S.pg z) = some (g, m) := hz
    by_cases e : y = x
    · rw [if_pos e] at hy'; cases hy'
    · by_cases e2 : z = x
      · rw [if_pos e2] at hz'; cases hz'
      · rw [if_neg e] at hy'
        rw [if_neg e2] at hz'
        exact h.inj y z g l m hy' hz'
theorem PoolAt.rmF {w w1 w2 : World} {p : Nat} {S : PoolS} {x : Int} (h : PoolAt w p S) (hx : S.fr x = true) (hl : S.lf x = false) (hm : MapV w1 S.fb (mdel (setF S.fr) x) (if (setF S.fr x).isSome then S.fn - 1 else S.fn)) (hg : w.grownBy w1 (some S.fb))
    (hm2 : MapV w2 S.lb (mput (setF S.lf) x (.bool true)) (if (setF S.lf x).isSome then S.ln else S.ln + 1)) (hg2 : w1.grownBy w2 (some S.lb)) : PoolAt w2 p (S.rmF x) := by
  have hk : ∀ b, b < w.heap.size → b ≠ S.fb → b ≠ S.lb → w2.heap[b]? = w.heap[b]? := fun b h0 h1 h2 => (hg2.block b (Nat.lt_of_lt_of_le h0 hg.size) (fun e => h2 (Option.some.inj e))).trans (hg.block b h0 (fun e => h1 (Option.some.inj e)))
  have hp : (setF S.fr x).isSome = true := by unfold setF; rw [hx]; rfl
  have hp2 : (setF S.lf x).isSome = false := by unfold setF; rw [hl]; rfl
  rw [hp, mdel_set] at hm
  rw [hp2, mput_set] at hm2
  have hfm : MapV w2 S.fb (setF (fun y => if y = x then false else S.fr y)) (S.fn - 1) := hm.keep (hg2.block _ hm.lt (fun e => h.fl (Option.some.inj e)))
  exact ⟨(hk p h.blk.lt (blk_map h.fm h.blk) (blk_map h.lm h.blk)).trans h.blk, h.row.keep fun b hb => hk b (h.row.lt b hb) (fun e => h.row.ne_map h.fm (e ▸ hb)) (fun e => h.row.ne_map h.lm (e ▸ hb)), h.heap, h.tm.keep (hk _ h.tm.lt h.tf h.tl), hfm, hm2,
    fun y g l hy => ⟨(hk g (h.page y g l hy).1.lt (blk_map h.fm (h.page y g l hy).1) (blk_map h.lm (h.page y g l hy).1)).trans (h.page y g l hy).1, (h.page y g l hy).2⟩, h.inj, h.tf, h.tl, h.fl⟩

/-- A page that was taken, given back. -/
theorem PoolOKx.rmT {S : PoolS} {x : Int} {q : Nat × List UInt8} {A' : Option Addr} {c' : Nat} {gl' : List Int} (h : PoolOK S) (hx : S.pg x = some q) (hp : gl'.Perm (x :: S.gl)) : PoolOK ((S.rmT x).row A' c' gl') := by
  have hxb := h.pgB x (by rw [hx]; simp)
  refine ⟨h.next0, h.nextM, h.manyM, fun y => ⟨fun hy => ?_, fun hy => ?_⟩, ?_, fun y hy => ?_, h.frB, h.lfB, ?_, h.fnB, h.lnB⟩
  · rcases List.mem_cons.1 (hp.mem_iff.1 hy) with rfl | hy
    · exact ⟨hxb.1, hxb.2.1, by show (if y = y then none else S.pg y) = none; rw [if_pos rfl], hxb.2.2⟩
    · obtain ⟨a, b, c, d⟩ := (h.given y).1 hy
      exact ⟨a, b, by show (if y = x then none else S.pg y) = none; rw [c]; split <;> rfl, d⟩
  · obtain ⟨a, b, c, d⟩ := hy
    have c2 : (if y = x then none else S.pg y) = none := c
    refine hp.mem_iff.2 ?_
    by_cases e : y = x
    · exact List.mem_cons.2 (.inl e)
    · rw [if_neg e] at c2
      exact List.mem_cons_of_mem _ ((h.given y).2 ⟨a, b, c2, d⟩)
  · refine hp.nodup_iff.2 (List.nodup_cons.2 ⟨fun hm => ?_, h.nodup⟩)
    have := ((h.given x).1 hm).2.2.1
    rw [hx] at this
    cases this
  · have hy2 : (if y = x then none else S.pg y) ≠ none := hy
    by_cases e : y = x
    · rw [if_pos e] at hy2; exact absurd rfl hy2
    · rw [if_neg e] at hy2
      exact h.pgB y hy2
  · refine h.tnB.del (x := x) (by rw [hx]; simp) fun y => ?_
    show (if y = x then none else S.pg y) ≠ none ↔ _
    by_cases e : y = x
    · rw [if_pos e]; simp [e]
    · rw [if_neg e]; simp [e]
/-- A page that was frozen, left. -/
theorem PoolOKx.rmF {S : PoolS} {x : Int} (h : PoolOK S) (hx : S.fr x = true) (hi : Int) (h1 : x < hi) (h2 : S.next ≤ hi) : PoolOKx hi (S.rmF x) := by
  have hxb := h.frB x hx
  have hpn : S.pg x = none := by
    rcases e : S.pg x with _ | q
    · rfl
    · have := (h.pgB x (by rw [e]; simp)).2.2.1
      rw [hx] at this
      cases this
  refine ⟨h.next0, h.nextM, h.manyM, fun y => ⟨fun hy => ?_, fun hy => ?_⟩, h.nodup, fun y hy => ?_, fun y hy => ?_, fun y hy => ?_, h.tnB, ?_, ?_⟩
  · obtain ⟨a, b, c, d, e⟩ := (h.given y).1 hy
    have hne : y ≠ x := fun e2 => by rw [e2, hx] at d; cases d
    exact ⟨a, b, c, by show (if y = x then false else S.fr y) = false; rw [if_neg hne]; exact d, by show (if y = x then true else S.lf y) = false; rw [if_neg hne]; exact e⟩
  · obtain ⟨a, b, c, d, e⟩ := hy
    have e2 : (if y = x then true else S.lf y) = false := e
    have d2 : (if y = x then false else S.fr y) = false := d
    by_cases e3 : y = x
    · rw [if_pos e3] at e2; cases e2
    · rw [if_neg e3] at e2 d2
      exact (h.given y).2 ⟨a, b, c, d2, e2⟩
  · obtain ⟨a, b, c, d⟩ := h.pgB y hy
    have hne : y ≠ x := fun e2 => by rw [e2, hx] at c; cases c
    exact ⟨a, b, by show (if y = x then false else S.fr y) = false; rw [if_neg hne]; exact c, by show (if y = x then true else S.lf y) = false; rw [if_neg hne]; exact d⟩
  · have hy2 : (if y = x then false else S.fr y) = true := hy
    by_cases e : y = x
    · rw [if_pos e] at hy2; cases hy2
    · rw [if_neg e] at hy2
      obtain ⟨a, b, c⟩ := h.frB y hy2
      exact ⟨a, b, by show (if y = x then true else S.lf y) = false; rw [if_neg e]; exact c⟩
  · have hy2 : (if y = x then true else S.lf y) = true := hy
    by_cases e : y = x
    · subst e; exact ⟨hxb.1, h1⟩
    · rw [if_neg e] at hy2
      have := h.lfB y hy2
      omega
  · refine h.fnB.del (x := x) hx fun y => ?_
    show (if y = x then false else S.fr y) = true ↔ _
    by_cases e : y = x
    · rw [if_pos e]; simp [e]
    · rw [if_neg e]; simp [e]
  · refine h.lnB.add (x := x) (by rw [hxb.2.2]; simp) fun y => ?_
    show (if y = x then true else S.lf y) = true ↔ _
    by_cases e : y = x
    · rw [if_pos e]; simp [e]
    · rw [if_neg e]; simp [e]

/-- What Drop leaves. -/
structure DropI (p : Nat) (S : PoolS) (w : World) (S1 S' : PoolS) (w' : World) : Prop where
  eq : ∃ A' c' gl' m, S' = (S1.row A' c' gl').nx m
  at_ : PoolAt w' p S'
  ok : PoolOK S'
  turn : Turn (S.fp p) w w'
  fp : ∀ b, S'.fp p b → S.fp p b ∨ w.heap.size ≤ b
def DropPR (p : Nat) (S : PoolS) (x : Int) (w : World) (e : Ending) (w' : World) : Prop :=
  (∃ q S', S.pg x = some q ∧ e = .returned (.int .i64 0) ∧ DropI p S w (S.rmT x) S' w') ∨ (∃ S', S.pg x = none ∧ S.fr x = true ∧ e = .returned (.int .i64 0) ∧ DropI p S w (S.rmF x) S' w') ∨
  (S.pg x = none ∧ S.fr x = false ∧ e = .returned (.int .i64 130) ∧ w = w')
theorem fp_rmT {S : PoolS} {x : Int} {p b : Nat} (h : (S.rmT x).fp p b) : S.fp p b := by
  rcases h with h | h | h | h | h | ⟨y, l, h⟩
  · exact .inl h
  · exact .inr (.inl h)
  · exact .inr (.inr (.inl h))
  · exact .inr (.inr (.inr (.inl h)))
  · exact .inr (.inr (.inr (.inr (.inl h))))
  · have h2 : (if y = x then none else S.pg y) = some (b, l) := h
    by_cases e : y = x
    · rw [if_pos e] at h2; cases h2
    · rw [if_neg e] at h2
      exact .inr (.inr (.inr (.inr (.inr ⟨y, l, h2⟩))))
theorem fp_rmF {S : PoolS} {x : Int} {p b : Nat} (h : (S.rmF x).fp p b) : S.fp p b := h
theorem DropI.of_pool {p : Nat} {S S1 S' : PoolS} {w w1 w' : World} (ht : Turn (S.fp p) w w1) (hf : ∀ b, S1.fp p b → S.fp p b) (h : PoolR p S1 w1 S' w') (hk : PoolOK S') : DropI p S w S1 S' w' :=
  ⟨h.eq, h.at_, hk, ht.trans h.turn fun b hb => .inl (hf b hb), fun b hb => by
    rcases h.fp b hb with h1 | h1
    · exact .inl (hf b h1)
    · exact .inr (Nat.le_trans ht.size h1)⟩

set_option maxHeartbeats 2000000 in
set_option maxRecDepth 100000 in
theorem drop_any (p : Nat) (S : PoolS) (x : Int) (w : World) (h : PoolAt w p S) (hok : PoolOK S) (hx : I64 x) :
    Calls Tryd.prog 34 #[.pointer (some ⟨p, 0, none⟩), .int .i64 x] w (DropPR p S x w) := by
  obtain ⟨c0, c1, c2, c3, c4, c5, c6, c7⟩ := h.cell
  have hlf := h.lookF hx 0
  have hlt := h.lookT hx 0
  rw [show w.drewN 0 = w from rfl] at hlf hlt
  have hgl := hok.glLen
  have H := Lib.hid h
  have HK := Lib.hid hok
  clear h hok
  rcases hpg : S.pg x with _ | q
  · have hp : pageF S.pg x = none := by unfold pageF; rw [hpg]; rfl
    rw [hp] at hlt
    rcases hfr : S.fr x with _ | _
    · rw [hfr] at hlf
      go_enter Tryd.func34, Tryd.ntmps34
      go_wp2_with fail
      go_ret
      exact .inr (.inr ⟨hpg, hfr, rfl, rfl⟩)
    · rw [hfr] at hlf
      have hl : S.lf x = false := (HK.out.frB x hfr).2.2
      have hxb := HK.out.frB x hfr
      have hM := HK.out.manyM
      have hnM := HK.out.nextM
      have hfn : (if (setF S.fr x).isSome then S.fn - 1 else S.fn) = S.fn - 1 := by unfold setF; rw [hfr]; rfl
      have hHX := Lib.hid hx
      have HPG := Lib.hid hpg
      have HFR := Lib.hid hfr
      have HL := Lib.hid hl
      clear hpg hfr hl
      by_cases hnx : S.next ≤ x
      · have hbx : x < S.many := hxb.2.1
        go_enter Tryd.func34, Tryd.ntmps34
        go_wp2_with (at_delete; refine wp_map_del rfl (.tmp 35) (.tmp 36) 94 4 rfl Tryd.underlying94 S.fb S.fn (setF S.fr) x rfl rfl H.out.fm hx ?_; intro w1 hm1 hg1; have hlm := H.out.lm.keep (hg1.block _ H.out.lm.lt (fun e => H.out.fl (Option.some.inj e).symm)); have hc7 : w1.cell? ⟨p, 7, none⟩ = some (.map (some S.lb)) := (hg1.cell c7 (fun e => blk_map H.out.fm H.out.blk (Option.some.inj e))); obtain ⟨w2, hrun, hm2, hg2⟩ := hlm.put Tryd.underlying94 (by have := HK.out.lnLe (show S.next ≤ 1048576 by omega); unfold maxLen; omega) hx (.bool true); have HP := Lib.hid (H.out.rmF HFR.out HL.out hm1 hg1 hm2 hg2); have HG1 := Lib.hid hg1; have HG2 := Lib.hid hg2; have hd4 : w2.cell? ⟨p, 4, none⟩ = some (.int .i64 S.next) := HP.out.cell.2.2.2.2.1; have HT : Hid (Turn (S.fp p) w w2) := Lib.hid (((Turn.of_grown hg1).mono fun b hb => .inr (.inr (.inl (Option.some.inj hb).symm))).trans (Turn.of_grown hg2) fun b hb => .inl (.inr (.inr (.inr (.inl (Option.some.inj hb).symm))))); clear hm1 hm2 hg1 hg2 hlm)
        refine (pass_any p (S.rmF x) x w2 HP.out (HK.out.rmF HFR.out (x + 1) (by omega) (by omega)) hbx hnx).mono ?_
        rintro e w3 ⟨rfl, S', hr, hk, _⟩
        have HR := Lib.hid hr
        have HK2 := Lib.hid hk
        clear hr hk
        go_wp2_with fail
        go_ret
        exact .inr (.inl ⟨S', HPG.out, HFR.out, rfl, DropI.of_pool HT.out (fun b hb => fp_rmF hb) HR.out HK2.out⟩)
      · have hlt2 : x < S.next := by omega
        clear hnx
        go_enter Tryd.func34, Tryd.ntmps34
        go_wp2_with (at_delete; refine wp_map_del rfl (.tmp 35) (.tmp 36) 94 4 rfl Tryd.underlying94 S.fb S.fn (setF S.fr) x rfl rfl H.out.fm hx ?_; intro w1 hm1 hg1; have hlm := H.out.lm.keep (hg1.block _ H.out.lm.lt (fun e => H.out.fl (Option.some.inj e).symm)); have hc7 : w1.cell? ⟨p, 7, none⟩ = some (.map (some S.lb)) := (hg1.cell c7 (fun e => blk_map H.out.fm H.out.blk (Option.some.inj e))); obtain ⟨w2, hrun, hm2, hg2⟩ := hlm.put Tryd.underlying94 (by have := HK.out.lnLe (show S.next ≤ 1048576 by omega); unfold maxLen; omega) hx (.bool true); have HP := Lib.hid (H.out.rmF HFR.out HL.out hm1 hg1 hm2 hg2); have HG1 := Lib.hid hg1; have HG2 := Lib.hid hg2; have hd4 : w2.cell? ⟨p, 4, none⟩ = some (.int .i64 S.next) := HP.out.cell.2.2.2.2.1; have HT : Hid (Turn (S.fp p) w w2) := Lib.hid (((Turn.of_grown hg1).mono fun b hb => .inr (.inr (.inl (Option.some.inj hb).symm))).trans (Turn.of_grown hg2) fun b hb => .inl (.inr (.inr (.inr (.inl (Option.some.inj hb).symm))))); clear hm1 hm2 hg1 hg2 hlm)
        go_ret
        exact .inr (.inl ⟨_, HPG.out, HFR.out, rfl, DropI.of_pool HT.out (fun b hb => fp_rmF hb) (PoolR.refl HP.out) (HK.out.rmF HFR.out S.next hlt2 (Int.le_refl _))⟩)
  · have hp : pageF S.pg x = some (.slice (some ⟨q.1, 0, none⟩) 500 500) := by unfold pageF; rw [hpg]; rfl
    rw [hp] at hlt
    have hxb := HK.out.pgB x (by rw [hpg]; simp)
    have hlt2 : x < S.next := hxb.2.1
    have HPG := Lib.hid hpg
    clear hpg
    go_enter Tryd.func34, Tryd.ntmps34
    go_wp2_with (at_delete; refine wp_map_del rfl (.tmp 20) (.tmp 21) 88 23 rfl Tryd.underlying88 S.tb S.tn (pageF S.pg) x rfl rfl H.out.tm hx ?_; intro w1 hm1 hg1; have HP := Lib.hid (H.out.rmT HPG.out hm1 hg1); have HT : Hid (Turn (S.fp p) w w1) := Lib.hid ((Turn.of_grown hg1).mono fun b hb => .inr (.inl (Option.some.inj hb).symm)); clear hm1 hg1)
    refine (give_any p (S.rmT x) x w1 HP.out hlt2 hgl).mono ?_
    rintro e w3 ⟨rfl, A', c', gl', hpm, hat, htu, hfp⟩
    have HR : Hid (PoolR p (S.rmT x) w1 ((S.rmT x).row A' c' gl') w3) := Lib.hid ⟨⟨A', c', gl', S.next, rfl⟩, hat, htu, fun b hb => PoolS.fp_row hfp hb⟩
    have HPM := Lib.hid hpm
    clear hpm hat htu hfp
    go_wp2_with fail
    go_ret
    exact .inl ⟨q, _, HPG.out, rfl, DropI.of_pool HT.out (fun b hb => fp_rmT hb) HR.out (PoolOKx.rmT HK.out HPG.out HPM.out)⟩
end Go.Proofs.YteediemhcocgdaaDoor
