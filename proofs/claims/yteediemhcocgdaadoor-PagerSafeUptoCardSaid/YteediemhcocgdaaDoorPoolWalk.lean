/-
  pager's Pool: give, pass, fresh, Take, Drop, Frozen.
-/
import Derived.Test.YteediemhcocgdaaDoorPool
import Derived.Deep.RegionWith
namespace Go.Proofs.YteediemhcocgdaaDoor
open Go.RowKit
open HeapP (at_ IsHeap)

def nextOf (w : World) (p : Nat) : Int := match w.cell? ⟨p, 4, none⟩ with | some (.int _ m) => m | _ => 0
theorem PoolAt.nextOf {w : World} {p : Nat} {S : PoolS} (h : PoolAt w p S) : nextOf w p = S.next := by
  unfold Go.Proofs.YteediemhcocgdaaDoor.nextOf
  rw [h.cell.2.2.2.2.1]

/-- The pool with another row of free pages. -/
def PoolS.row (S : PoolS) (A' : Option Addr) (c' : Nat) (gl' : List Int) : PoolS := { S with A := A', c := c', gl := gl' }
theorem PoolS.fp_row {S : PoolS} {A' : Option Addr} {c' : Nat} {gl' : List Int} {p b : Nat} {w : World} (h : ∀ b, blkOf A' = some b → b ≠ p ∧ (blkOf S.A = some b ∨ w.heap.size ≤ b)) (hb : (S.row A' c' gl').fp p b) : S.fp p b ∨ w.heap.size ≤ b := by
  rcases hb with h1 | h1 | h1 | h1 | h1 | h1
  · exact .inl (.inl h1)
  · exact .inl (.inr (.inl h1))
  · exact .inl (.inr (.inr (.inl h1)))
  · exact .inl (.inr (.inr (.inr (.inl h1))))
  · rcases (h b h1).2 with h2 | h2
    · exact .inl (.inr (.inr (.inr (.inr (.inl h2)))))
    · exact .inr h2
  · exact .inl (.inr (.inr (.inr (.inr (.inr h1)))))
theorem fp_sub {S : PoolS} {p b : Nat} (h : b = p ∨ blkOf S.A = some b) : S.fp p b := by
  rcases h with h | h
  · exact .inl h
  · exact .inr (.inr (.inr (.inr (.inl h))))

/-- What give leaves, when the page is below next. -/
def GiveR (p : Nat) (S : PoolS) (x : Int) (w : World) (e : Ending) (w' : World) : Prop :=
  e = .returned (.tuple #[]) ∧ ∃ A' c' gl', gl'.Perm (x :: S.gl) ∧ PoolAt w' p (S.row A' c' gl') ∧ Turn (S.fp p) w w' ∧ ∀ b, blkOf A' = some b → b ≠ p ∧ (blkOf S.A = some b ∨ w.heap.size ≤ b)

theorem give_of_put {p : Nat} {S : PoolS} {x : Int} {w w' : World} {e : Ending} (h : PoolAt w p S) (hp : PutR p 3 98 S.cells S.A S.gl x w e w') : GiveR p S x w e w' := by
  obtain ⟨h1, A', c', l', h2, h3, h4, h5, h6, h7⟩ := hp
  exact ⟨h1, A', c', l', h2, h.setRow h3 h4 h5 h7, h7.mono fun b hb => fp_sub hb, h6⟩

theorem put_pool {p : Nat} {S : PoolS} {x : Int} {w : World} (h : PoolAt w p S) (hl : S.gl.length ≤ 1048576) : Calls Tryd.prog 79 #[.pointer (some ⟨p, 3, none⟩), .int .i64 x] w (GiveR p S x w) :=
  (put_any p 3 98 S.cells S.A S.c S.gl x w h.blk rfl h.row (h.row.ne h.blk (by decide)) h.heap (by omega)).mono fun _ _ hp => give_of_put h hp

set_option maxRecDepth 100000 in
theorem give_any (p : Nat) (S : PoolS) (x : Int) (w : World) (h : PoolAt w p S) (hx : x < S.next) (hl : S.gl.length ≤ 1048576) :
    Calls Tryd.prog 59 #[.pointer (some ⟨p, 0, none⟩), .int .i64 x] w (GiveR p S x w) := by
  obtain ⟨c0, c1, c2, c3, c4, c5, c6, c7⟩ := h.cell
  have H := Lib.hid h
  clear h
  go_enter Tryd.func59, Tryd.ntmps59
  go_wp2_with fail
  refine (put_any p 3 98 S.cells S.A S.c S.gl x w H.out.blk rfl H.out.row (H.out.row.ne H.out.blk (by decide)) H.out.heap (by omega)).mono ?_
  intro e w1 hp
  have hg := give_of_put H.out hp
  obtain ⟨rfl, hr⟩ := hg
  have HR := Lib.hid hr
  clear hr hp
  go_wp2_with fail
  go_end0
  exact ⟨rfl, HR.out⟩

/-- The pool with another next. -/
def PoolS.nx (S : PoolS) (m : Int) : PoolS := { S with next := m }

/-- The next page passed: it is in use, or given. -/
theorem PoolOKx.pass1 {hi : Int} {S : PoolS} (h : PoolOKx hi S) (hm : S.next < S.many) (hu : S.fr S.next = true ∨ S.lf S.next = true) : PoolOKx hi (S.nx (S.next + 1)) := by
  refine ⟨by have := h.next0; show 0 ≤ S.next + 1; omega, by show S.next + 1 ≤ S.many; omega, h.manyM, fun x => ⟨fun hx => ?_, fun hx => ?_⟩, h.nodup, fun x hx => ?_, h.frB, h.lfB, h.tnB, h.fnB, h.lnB⟩
  · obtain ⟨a, b, r⟩ := (h.given x).1 hx
    exact ⟨a, by show x < S.next + 1; omega, r⟩
  · obtain ⟨a, b, h1, h2, h3⟩ := hx
    have b' : x < S.next + 1 := b
    refine (h.given x).2 ⟨a, ?_, h1, h2, h3⟩
    by_cases e : x = S.next
    · subst e
      rcases hu with hu | hu
      · have h2' : S.fr S.next = false := h2
        rw [hu] at h2'; cases h2'
      · have h3' : S.lf S.next = false := h3
        rw [hu] at h3'; cases h3'
    · omega
  · obtain ⟨a, b, r⟩ := h.pgB x hx
    exact ⟨a, by show x < S.next + 1; omega, r⟩
theorem PoolOKx.pass2 {hi : Int} {S : PoolS} {A' : Option Addr} {c' : Nat} {gl' : List Int} (h : PoolOKx hi S) (hm : S.next < S.many) (hp : gl'.Perm (S.next :: S.gl)) (hf : S.fr S.next = false) (hl : S.lf S.next = false) : PoolOKx hi ((S.row A' c' gl').nx (S.next + 1)) := by
  have hpn : S.pg S.next = none := by
    rcases e : S.pg S.next with _ | q
    · rfl
    · have := (h.pgB S.next (by rw [e]; simp)).2.1; omega
  refine ⟨by have := h.next0; show 0 ≤ S.next + 1; omega, by show S.next + 1 ≤ S.many; omega, h.manyM, fun x => ⟨fun hx => ?_, fun hx => ?_⟩, ?_, fun x hx => ?_, h.frB, h.lfB, h.tnB, h.fnB, h.lnB⟩
  · rcases List.mem_cons.1 (hp.mem_iff.1 hx) with rfl | hx
    · exact ⟨h.next0, by show S.next < S.next + 1; omega, hpn, hf, hl⟩
    · obtain ⟨a, b, r⟩ := (h.given x).1 hx
      exact ⟨a, by show x < S.next + 1; omega, r⟩
  · obtain ⟨a, b, r⟩ := hx
    have b' : x < S.next + 1 := b
    refine hp.mem_iff.2 ?_
    by_cases e : x = S.next
    · exact List.mem_cons.2 (.inl e)
    · exact List.mem_cons_of_mem _ ((h.given x).2 ⟨a, by omega, r⟩)
  · refine hp.nodup_iff.2 (List.nodup_cons.2 ⟨fun hm => ?_, h.nodup⟩)
    have := ((h.given S.next).1 hm).2.1
    omega
  · obtain ⟨a, b, r⟩ := h.pgB x hx
    exact ⟨a, by show x < S.next + 1; omega, r⟩

/-- What a walk over a pool may leave: the same but for the row and next. -/
structure PoolR (p : Nat) (S : PoolS) (w : World) (S' : PoolS) (w' : World) : Prop where
  eq : ∃ A' c' gl' m, S' = (S.row A' c' gl').nx m
  at_ : PoolAt w' p S'
  turn : Turn (S.fp p) w w'
  fp : ∀ b, S'.fp p b → S.fp p b ∨ w.heap.size ≤ b
theorem PoolR.refl {p : Nat} {S : PoolS} {w : World} (h : PoolAt w p S) : PoolR p S w S w := ⟨⟨S.A, S.c, S.gl, S.next, rfl⟩, h, Turn.refl _ _, fun _ hb => .inl hb⟩
theorem PoolR.drewN {p : Nat} {S S' : PoolS} {w w' : World} (h : PoolR p S w S' w') (n : Nat) : PoolR p S w S' (w'.drewN n) := ⟨h.eq, h.at_.drewN n, h.turn.drewN n, h.fp⟩
theorem PoolR.setNext {p : Nat} {S S' : PoolS} {w w' : World} (h : PoolR p S w S' w') (m : Int) : PoolR p S w (S'.nx m) (w'.setCell ⟨p, 4, none⟩ (.int .i64 m)) := by
  refine ⟨?_, h.at_.setNext m, h.turn.setCell (.inl (.inl rfl)) _, fun b hb => h.fp b hb⟩
  obtain ⟨A', c', gl', m', rfl⟩ := h.eq
  exact ⟨A', c', gl', m, rfl⟩
theorem PoolR.give {p : Nat} {S S' : PoolS} {w w1 w2 : World} {A' : Option Addr} {c' : Nat} {gl' : List Int} (h : PoolR p S w S' w1) (ha : PoolAt w2 p (S'.row A' c' gl')) (ht : Turn (S'.fp p) w1 w2) (hA : ∀ b, blkOf A' = some b → b ≠ p ∧ (blkOf S'.A = some b ∨ w1.heap.size ≤ b)) : PoolR p S w (S'.row A' c' gl') w2 := by
  refine ⟨?_, ha, h.turn.trans ht h.fp, fun b hb => ?_⟩
  · obtain ⟨_, _, _, m, rfl⟩ := h.eq
    exact ⟨A', c', gl', m, rfl⟩
  · rcases PoolS.fp_row (w := w1) hA hb with h1 | h1
    · exact h.fp b h1
    · exact .inr (Nat.le_trans h.turn.size h1)

set_option maxHeartbeats 2000000 in
set_option maxRecDepth 100000 in
theorem pass_any (p : Nat) (S : PoolS) (n : Int) (w : World) (h : PoolAt w p S) (hok : PoolOKx (n + 1) S) (hn : n < S.many) (hnx : S.next ≤ n) :
    Calls Tryd.prog 60 #[.pointer (some ⟨p, 0, none⟩), .int .i64 n] w fun e w' => e = .returned (.tuple #[]) ∧ ∃ S', PoolR p S w S' w' ∧ PoolOK S' ∧ S'.next = n + 1 := by
  have hR := PoolR.refl h
  have H := Lib.hid h
  have HK := Lib.hid hok
  have HR := Lib.hid hR
  clear h hok hR
  go_enter Tryd.func60, Tryd.ntmps60
  go_wp2_with fail
  go_loopw [] (fun wr => ∃ S', PoolR p S w S' wr ∧ PoolOKx (n + 1) S' ∧ S'.next ≤ n + 1 ∧ S'.many = S.many) (fun wr => (n + 1 - nextOf wr p).toNat)
  case atStart => exact ⟨S, HR.out, HK.out, by omega, rfl⟩
  case round =>
    obtain ⟨S', hr, hk, hle, hmany⟩ := hrel
    have hno := hr.at_.nextOf
    obtain ⟨c0, c1, c2, c3, c4, c5, c6, c7⟩ := hr.at_.cell
    have hlf := hr.at_.lookF hk.in64
    have hll := hr.at_.lookL hk.in64
    have HR1 := Lib.hid hr
    have HK1 := Lib.hid hk
    clear hr hk
    by_cases hlt : S'.next ≤ n
    · have hlt2 : S'.next ≤ n := hlt
      have hgl := HK1.out.glLen
      have hfz := (HR1.out.at_.blk).frozen 4
      have hn0 := HK1.out.next0
      have hnM : S'.next ≤ 1048576 := by have := HK1.out.nextM; have := HK1.out.manyM; omega
      rcases hfr : S'.fr S'.next with _ | _
      · rcases hlfe : S'.lf S'.next with _ | _
        · rw [hfr] at hlf
          rw [hlfe] at hll
          go_wp2_with fail
          go_quiet (fail)
          go_wp2_with fail
          go_region_with (go_at_call 79; refine (put_pool (HR1.out.drewN _).at_ hgl).mono ?_; rintro e w1 ⟨rfl, A', c', gl', hpm, hat, htu, hfp⟩; have HR2 : Hid (PoolR p S w (S'.row A' c' gl') w1) := Lib.hid ((HR1.out.drewN _).give hat htu hfp); have HPM := Lib.hid hpm; have hc4 : w1.cell? ⟨p, 4, none⟩ = some (.int .i64 S'.next) := hat.cell.2.2.2.2.1; have hfz2 := hat.blk.frozen 4; clear hpm hat htu hfp)
          all_goals go_wp2_with fail
          have hs := HR2.out.setNext (S'.next + 1)
          exact ⟨⟨_, hs, HK1.out.pass2 (by omega) HPM.out hfr hlfe, by show S'.next + 1 ≤ n + 1; omega, hmany⟩, by rw [hno, hs.at_.nextOf]; show (n + 1 - (S'.next + 1)).toNat < _; omega⟩
        · rw [hfr] at hlf
          rw [hlfe] at hll
          go_wp2_with fail
          go_quiet (fail)
          go_wp2_with fail
          have hs := (HR1.out.drewN nq).setNext (S'.next + 1)
          exact ⟨⟨S'.nx (S'.next + 1), hs, HK1.out.pass1 (by omega) (.inr hlfe), by show S'.next + 1 ≤ n + 1; omega, hmany⟩, by rw [hno, hs.at_.nextOf]; show (n + 1 - (S'.next + 1)).toNat < _; omega⟩
      · rw [hfr] at hlf
        go_wp2_with fail
        go_quiet (fail)
        go_wp2_with fail
        have hs := (HR1.out.drewN nq).setNext (S'.next + 1)
        exact ⟨⟨S'.nx (S'.next + 1), hs, HK1.out.pass1 (by omega) (.inl hfr), by show S'.next + 1 ≤ n + 1; omega, hmany⟩, by rw [hno, hs.at_.nextOf]; show (n + 1 - (S'.next + 1)).toNat < _; omega⟩
    · go_wp2_with fail
      go_end0
      exact ⟨rfl, S', HR1.out, by
        have e : S'.next = n + 1 := by omega
        unfold PoolOK
        rw [e]
        exact HK1.out, by omega⟩
end Go.Proofs.YteediemhcocgdaaDoor
