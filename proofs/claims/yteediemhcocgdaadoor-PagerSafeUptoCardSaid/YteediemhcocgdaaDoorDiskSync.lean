/-
  block.Disk's Sync: what waits is made safe.
-/
import Derived.Test.YteediemhcocgdaaDoorDiskAct
import Derived.Test.YteediemhcocgdaaDoorMapR
import Derived.Test.YteediemhcocgdaaDoorDiskPlain
namespace Go.Proofs.YteediemhcocgdaaDoor
open Go.RowKit

/-- Sectors laid over what stands. -/
def sfW (f : Int → Option SecV) : List (Int × SecV) → Int → Option SecV := List.foldl (fun g e y => if y = e.1 then some e.2 else g y) f
theorem sfW_snoc (f : Int → Option SecV) (l : List (Int × SecV)) (e : Int × SecV) : sfW f (l ++ [e]) = fun y => if y = e.1 then some e.2 else sfW f l y := by
  unfold sfW
  rw [List.foldl_append]
  rfl
theorem sfW_mem (f : Int → Option SecV) : ∀ (l : List (Int × SecV)) (x : Int) (q : SecV), sfW f l x = some q → f x = some q ∨ (x, q) ∈ l := by
  intro l
  induction l using snocInd with
  | nil => intro x q h; exact .inl h
  | snoc l e ih =>
    intro x q h
    rw [sfW_snoc] at h
    by_cases hx : x = e.1
    · simp only [if_pos hx] at h
      cases h
      right
      subst hx
      simp
    · simp only [if_neg hx] at h
      exact (ih x q h).imp id fun h => List.mem_append_left _ h
/-- Other sectors are safe. -/
def DiskS.sv (S : DiskS) (g : Int → Option SecV) (n : Nat) : DiskS := { S with sf := g, sn := n }
theorem DiskS.sv_fp {S : DiskS} {g : Int → Option SecV} {n bb b : Nat} (hg : ∀ x q, g x = some q → S.sf x = some q ∨ (x, q) ∈ S.wt) (h : (S.sv g n).fp bb b) : S.fp bb b := by
  rcases h with h | h | h | h | ⟨x, q, h, e⟩ | h | h
  · exact .inl h
  · exact .inr (.inl h)
  · exact .inr (.inr (.inl h))
  · exact .inr (.inr (.inr (.inl h)))
  · rcases hg x q h with h2 | h2
    · exact .inr (.inr (.inr (.inr (.inl ⟨x, q, h2, e⟩))))
    · exact .inr (.inr (.inr (.inr (.inr (.inr ⟨_, h2, e⟩)))))
  · exact .inr (.inr (.inr (.inr (.inr (.inl h)))))
  · exact .inr (.inr (.inr (.inr (.inr (.inr h)))))
theorem DiskOK.sput {S : DiskS} {g : Int → Option SecV} {n : Nat} {x : Int} {q : SecV} (h : DiskOK (S.sv g n)) (h0 : 0 ≤ x) (hn : x < S.n) : DiskOK (S.sv (fun y => if y = x then some q else g y) (if (g x).isSome then n else n + 1)) := by
  refine ⟨h.n0, h.nM, fun y hy => ?_, h.nB, h.wB, ?_, h.nC, h.a0, h.aM⟩
  · have hy' : (if y = x then some q else g y) ≠ none := hy
    by_cases e : y = x
    · subst e; exact ⟨h0, hn⟩
    · rw [if_neg e] at hy'; exact h.sB y hy'
  · show Card (fun y => (if y = x then some q else g y) ≠ none) (if (g x).isSome then n else n + 1)
    rcases hx : g x with _ | q'
    · refine Card.add h.sC (x := x) (fun e => e hx) fun y => ?_
      show _ ↔ g y ≠ none ∨ y = x
      by_cases e : y = x <;> simp [e]
    · obtain ⟨l, h1, h2, h3⟩ := h.sC
      refine ⟨l, h1, fun y => (h2 y).trans ?_, h3⟩
      show g y ≠ none ↔ _
      by_cases e : y = x <;> simp [e, hx]
theorem DiskAt.sput {w w1 : World} {bb : Nat} {S : DiskS} {g : Int → Option SecV} {n : Nat} {x : Int} {q : SecV} (h : DiskAt w bb (S.sv g n)) (hq : SecAt w q) (hm : MapV w1 S.sb (mput (secF g) x q.val) (if (secF g x).isSome then n else n + 1)) (hg : w.grownBy w1 (some S.sb)) :
    DiskAt w1 bb (S.sv (fun y => if y = x then some q else g y) (if (g x).isSome then n else n + 1)) := by
  have k1 : ∀ b, b < w.heap.size → b ≠ S.sb → w1.heap[b]? = w.heap[b]? := fun b hb hn => hg.block b hb fun e => hn (Option.some.inj e)
  have hsec : ∀ r, SecAt w r → SecAt w1 r := fun r hr => hr.keep (k1 _ hr.lt (hr.ne_map h.sm))
  rw [mput_sec] at hm
  have hm2 : MapV w1 S.sb (secF fun y => if y = x then some q else g y) (if (g x).isSome then n else n + 1) := by
    unfold secF at hm ⊢
    simpa using hm
  refine ⟨(k1 bb h.box.lt (blk_map h.sm h.box)).trans h.box, hm2, h.nm.keep (k1 _ h.nm.lt fun e => h.ne e.symm), h.ne, h.row.keep fun b hb => k1 b (h.row.lt b hb) fun e => h.row.ne_map h.sm (by rw [hb, e]; rfl), fun y r hy => ?_, fun y r hy => hsec r (h.nat y r hy), fun e he => hsec _ (h.wat e he)⟩
  have hy' : (if y = x then some q else g y) = some r := hy
  by_cases e : y = x
  · rw [if_pos e] at hy'
    cases hy'
    exact hsec _ hq
  · rw [if_neg e] at hy'
    exact hsec _ (h.sat y r hy')
theorem wcells_at : ∀ (l : List (Int × SecV)) (i : Nat) (hi : i < l.length), (wcells l)[i * 2]? = some (.int .i64 l[i].1) ∧ (wcells l)[i * 2 + 1]? = some l[i].2.val
  | x :: l, 0, _ => ⟨rfl, rfl⟩
  | x :: l, i + 1, hi => by
    have := wcells_at l i (by simp at hi; omega)
    rw [show (i + 1) * 2 = i * 2 + 2 by omega, show i * 2 + 2 + 1 = i * 2 + 1 + 2 by omega]
    exact this
/-- A write among those that wait. -/
theorem WRow.at_ {w : World} {A : Option Addr} {c : Nat} {l : List (Int × SecV)} (h : WRow w A c l) (i : Nat) (hi : i < l.length) : ∃ g, A = some ⟨g, 0, none⟩ ∧ w.cell? ⟨g, i * 2, none⟩ = some (.int .i64 l[i].1) ∧ w.cell? ⟨g, i * 2 + 1, none⟩ = some l[i].2.val := by
  obtain ⟨_, ⟨hv, h0⟩ | ⟨g, cap, cur, hv, hg, hh, r⟩⟩ := h
  · omega
  · injection hv with hA
    refine ⟨g, hA, ?_⟩
    have h3 := r.2.2.2
    have hw : (wcells l)[i * 2]? = some (.int .i64 l[i].1) ∧ (wcells l)[i * 2 + 1]? = some l[i].2.val := wcells_at l i hi
    have hl := wcells_length l
    rw [cell_of_row w g _ cur _ (0, 0) hh, cell_of_row w g _ cur _ (0, 0) hh]
    rw [← h3, List.getElem?_take_of_lt (by omega), List.getElem?_take_of_lt (by omega), Array.getElem?_toList, Array.getElem?_toList] at hw
    exact hw

/-- Nothing waits any more. -/
def DiskS.none (S : DiskS) : DiskS := { S with wt := [], WA := Option.none, wc := 0 }
theorem DiskAt.nowait {w : World} {bb : Nat} {S : DiskS} (h : DiskAt w bb S) : DiskAt (w.setCell ⟨bb, 3, Option.none⟩ (.slice Option.none 0 0)) bb S.none := by
  have hk : ∀ b, b ≠ bb → (w.setCell ⟨bb, 3, Option.none⟩ (.slice Option.none 0 0)).heap[b]? = w.heap[b]? := fun b hb => Below.heap_setCell _ _ _ _ hb
  exact ⟨h.box.set_ 3 _, h.sm.keep (hk _ fun e => blk_map h.sm h.box e.symm), h.nm.keep (hk _ fun e => blk_map h.nm h.box e.symm), h.ne, WRow.nil _, fun x q hx => (h.sat x q hx).keep (hk _ ((h.sat x q hx).ne_blk h.box (by decide))),
    fun x q hx => (h.nat x q hx).keep (hk _ ((h.nat x q hx).ne_blk h.box (by decide))), fun e he => (by cases he)⟩
theorem DiskOK.nowait {S : DiskS} (h : DiskOK S) : DiskOK S.none := ⟨h.n0, h.nM, h.sB, h.nB, fun e he => (by cases he), h.sC, h.nC, h.a0, h.aM⟩
theorem DiskS.none_fp {S : DiskS} {bb b : Nat} (h : S.none.fp bb b) : S.fp bb b := by
  rcases h with h | h | h | h | h | h | ⟨e, he, _⟩
  · exact .inl h
  · exact .inr (.inl h)
  · exact .inr (.inr (.inl h))
  · cases h
  · exact .inr (.inr (.inr (.inr (.inl h))))
  · exact .inr (.inr (.inr (.inr (.inr (.inl h)))))
  · cases he
/-- The state behind a sync. -/
def DiskS.synced (S : DiskS) (n : Nat) : DiskS := (S.sv (sfW S.sf S.wt) n).none
set_option maxHeartbeats 2000000 in
set_option maxRecDepth 100000 in
theorem dsync1_any (bb : Nat) (S : DiskS) (db dbx : Nat) (w : World) (h : DiskAt w bb S) (hok : DiskOK S) (hl : S.wt.length ≤ 1000000000)
    (hd : w.cell? ⟨dbx, 0, none⟩ = some (.pointer (some ⟨db, 0, none⟩))) (hdb : w.cell? ⟨db, 0, none⟩ = some (.pointer (some ⟨bb, 0, none⟩))) (fd : ¬ S.fp bb dbx) (fdb : ¬ S.fp bb db) :
    Calls Tryd.prog 76 #[.pointer (some ⟨dbx, 0, none⟩)] w fun e w' => e = .returned (.tuple #[]) ∧ ∃ n, DiskAt w' bb (S.synced n) ∧ DiskOK (S.synced n) ∧ Turn (S.fp bb) w w' := by
  have H := Lib.hid h
  have HOK := Lib.hid hok
  have c3 := h.cell.2.2.2.1
  clear h hok
  go_enter Tryd.func76, Tryd.ntmps76
  go_wp2_with fail
  go_loopw [11] (fun s11 wr => ∃ (k n : Nat), k ≤ S.wt.length ∧ s11 = .int .i64 k ∧ DiskAt wr bb (S.sv (sfW S.sf (S.wt.take k)) n) ∧ DiskOK (S.sv (sfW S.sf (S.wt.take k)) n) ∧ Turn (S.fp bb) w wr) (fun s11 _ => S.wt.length - (intOf s11).toNat)
  case atStart => exact ⟨0, S.sn, Nat.zero_le _, rfl, H.out, HOK.out, Turn.refl _ _⟩
  case round =>
    obtain ⟨k, n, hk, rfl, h1, h2, h3⟩ := hrel
    have H1 := Lib.hid h1
    have H2 := Lib.hid h2
    have H3 := Lib.hid h3
    clear h1 h2 h3
    have e1 : wr.cell? ⟨dbx, 0, none⟩ = some (.pointer (some ⟨db, 0, none⟩)) := (World.cell?_of_block (H3.out.block _ (cell_lt hd) fd)).trans hd
    have e2 : wr.cell? ⟨db, 0, none⟩ = some (.pointer (some ⟨bb, 0, none⟩)) := (World.cell?_of_block (H3.out.block _ (cell_lt hdb) fdb)).trans hdb
    have hc := H1.out.cell
    have e3 : wr.cell? ⟨bb, 1, none⟩ = some (.map (some S.sb)) := hc.2.1
    have e4 : wr.cell? ⟨bb, 3, none⟩ = some (.slice S.WA S.wt.length S.wc) := hc.2.2.2.1
    clear hc
    by_cases hlt : k < S.wt.length
    · have hrow : WRow wr S.WA S.wc S.wt := H1.out.row
      obtain ⟨g, hA, r1, r2⟩ := hrow.at_ k hlt
      have HA := Lib.hid hA
      rw [hA] at e4
      clear hA hrow
      generalize hx : S.wt[k].1 = x at *
      generalize hq : S.wt[k].2 = q at *
      have HX := Lib.hid hx
      have HQ := Lib.hid hq
      clear hx hq
      obtain ⟨qg, qc, ql⟩ := q
      have r2' : wr.cell? ⟨g, k * 2 + 1, none⟩ = some (.slice (some ⟨qg, 0, none⟩) 512 qc) := r2
      clear r2
      have hmem : (x, ((qg, qc, ql) : SecV)) ∈ S.wt := by rw [← HX.out, ← HQ.out]; exact List.getElem_mem hlt
      have hwB := HOK.out.wB _ hmem
      have hnM := HOK.out.nM
      have hI : I64 x := i64_of (by have := hwB.1; show (_ : Int) ≤ _; omega) (by have := hwB.2; show (_ : Int) ≤ _; omega)
      have hsec : SecAt wr (qg, qc, ql) := H1.out.wat _ hmem
      have hsm : MapV wr S.sb (secF (sfW S.sf (S.wt.take k))) n := H1.out.sm
      have hal : Below wr.heap.size wr (wr.alloc (.cells #[.int .i64 x, .slice (some ⟨qg, 0, none⟩) 512 qc] 117)) := (Below.refl _ _).alloc (Nat.le_refl _) _
      obtain ⟨w1, hrun1, hm1, hg1⟩ := ((hsm.alloc (.cells #[.int .i64 x, .slice (some ⟨qg, 0, none⟩) 512 qc] 117)).drew).put Tryd.underlying88 (by have := H2.out.snLe; unfold maxLen; show n < _; have h5 : n ≤ 1099511627776 := this; omega) hI (.slice (some ⟨qg, 0, none⟩) 512 qc)
      have hg2 : (wr.alloc (.cells #[.int .i64 x, .slice (some ⟨qg, 0, none⟩) 512 qc] 117)).grownBy w1 (some S.sb) := ⟨hg1.os, hg1.tape, hg1.output, hg1.size, hg1.block⟩
      have hput := DiskAt.sput (S := S) (x := x) (q := (qg, qc, ql)) (H1.out.below hal) (hsec.keep (hal.block _ hsec.lt)) hm1 hg2
      have hok2 := H2.out.sput (x := x) (q := (qg, qc, ql)) hwB.1 hwB.2
      have htk : S.wt.take (k + 1) = S.wt.take k ++ [(x, (qg, qc, ql))] := by rw [List.take_succ_eq_append_getElem hlt, ← HX.out, ← HQ.out]
      have hsf : (fun y => if y = x then some ((qg, qc, ql) : SecV) else sfW S.sf (S.wt.take k) y) = sfW S.sf (S.wt.take (k + 1)) := by rw [htk, sfW_snoc]
      rw [hsf] at hput hok2
      have hturn : Turn (S.fp bb) w w1 := (H3.out.trans (Turn.of_below hal) (fun b hb => .inr (by have := H3.out.size; omega))).trans (fq := fun b => some S.sb = some b) (Turn.of_grown hg2) (fun b hb => .inl (.inr (.inl (Option.some.inj hb).symm)))
      have HP := Lib.hid (And.intro hput (And.intro hok2 hturn))
      have d1 := (hal.cell (p := ⟨dbx, 0, none⟩) (cell_lt e1)).trans e1
      have d2 := (hal.cell (p := ⟨db, 0, none⟩) (cell_lt e2)).trans e2
      have d3 := (hal.cell (p := ⟨bb, 1, none⟩) (cell_lt e3)).trans e3
      clear hmem hwB hnM hI hsec hsm hal hm1 hg1 hg2 hput hok2 htk hsf hturn
      rw [HA.out]
      go_wp2_with fail
      go_region
      go_wp2_with fail
      refine ⟨⟨k + 1, _, by omega, by go_num, HP.out.1, HP.out.2.1, HP.out.2.2⟩, by simp [intOf]; omega⟩
    · obtain rfl : k = S.wt.length := by omega
      have hbx : Blk wr bb 91 (S.sv (sfW S.sf (S.wt.take S.wt.length)) n).cells := H1.out.box
      have hfz := hbx.frozen 3
      rw [List.take_length] at H1 H2
      have hnew : DiskAt (wr.setCell ⟨bb, 3, none⟩ (.slice none 0 0)) bb (S.synced n) := H1.out.nowait
      have HN := Lib.hid hnew
      clear hnew hbx
      go_wp2_with fail
      go_end0
      refine ⟨rfl, n, HN.out, ?_, ?_⟩
      · exact H2.out.nowait
      · exact H3.out.setCell (p := ⟨bb, 3, none⟩) (.inl (.inl rfl)) _
set_option maxHeartbeats 1000000 in
set_option maxRecDepth 100000 in
theorem actS_v {K : Nat → Prop} {w : World} {bb : Nat} {V : DV} (h : Dk K w bb V) (F : DV → DV) (c0 : Value)
    (hdo : ∀ w1 V1, Dk K w1 bb V1 → Turn (fun b => b = bb) w w1 → V1.n = V.n → V1.wait = V.wait → Calls Tryd.prog 76 #[c0] w1 fun e w' => e = .returned (.tuple #[]) ∧ Dk K w' bb (F V1) ∧ Kept K w1 w') :
    Calls Tryd.prog 75 #[.pointer (some ⟨bb, 0, none⟩), .func (.func 76) #[] #[c0]] w (ActR K bb (V.act F) w) := by
  obtain ⟨e4, e5, e6, e7, hfz⟩ := h.cells
  obtain ⟨a0, aM, _, _⟩ := h.ok
  have hfz5 := hfz 5
  have hfz7 := hfz 7
  have H := Lib.hid h
  have HD := Lib.hid hdo
  clear h hdo hfz
  rcases harm : V.armed with _ | _
  · rw [harm] at e4
    go_enter Tryd.func75, Tryd.ntmps75
    go_wp2_with fail
    refine (HD.out w V H.out (Turn.refl _ _) rfl rfl).mono ?_
    rintro e w1 ⟨rfl, hd1, hk1⟩
    have HX := Lib.hid (And.intro hd1 hk1)
    have HA := Lib.hid (act_free (F := F) harm)
    clear hd1 hk1 harm
    go_wp2_with fail
    go_ret
    rw [HA.out]
    exact ⟨rfl, HX.out.1, HX.out.2⟩
  · rw [harm] at e4
    by_cases ha : V.acts = 0
    · rw [ha] at e5
      have HA := Lib.hid (act_down (F := F) harm ha)
      clear harm ha
      rcases hdn : V.done with _ | _
      · rw [hdn] at e6
        clear aM a0
        go_enter Tryd.func75, Tryd.ntmps75
        go_wp2_with fail
        go_ret
        rw [HA.out, hdn]
        exact ⟨rfl, H.out.setDown true, (Kept.refl K w).set H.out.notK 7 _⟩
      · rw [hdn] at e6
        clear aM a0
        go_enter Tryd.func75, Tryd.ntmps75
        go_wp2_with fail
        refine (HD.out w V H.out (Turn.refl _ _) rfl rfl).mono ?_
        rintro e w1 ⟨rfl, hd1, hk1⟩
        have hfz1 := hd1.cells.2.2.2.2 7
        have hc1 := hd1.cells.2.2.2.1
        have HX := Lib.hid (And.intro hd1 hk1)
        clear hd1 hk1
        go_wp2_with fail
        go_ret
        rw [HA.out, hdn]
        exact ⟨rfl, HX.out.1.setDown true, HX.out.2.set H.out.notK 7 _⟩
    · have HA := Lib.hid (act_less (F := F) harm ha)
      have hn : decide (V.acts = 0) = false := by simp [ha]
      have s1 : IntKind.i64.wrap (V.acts - 1) = V.acts - 1 := IntWalk.i64_in _ (by omega)
      have a1 : 0 ≤ V.acts - 1 := by omega
      have a2 : V.acts - 1 ≤ 9223372036854775807 := by omega
      clear harm
      go_enter Tryd.func75, Tryd.ntmps75
      go_wp2_with fail
      refine (HD.out _ _ (H.out.setActs (V.acts - 1) a1 a2) ((Turn.refl (fun b => b = bb) w).setCell (p := ⟨bb, 5, none⟩) (.inl rfl) _) rfl rfl).mono ?_
      rintro e w1 ⟨rfl, hd1, hk1⟩
      have HX := Lib.hid (And.intro hd1 hk1)
      clear hd1 hk1
      go_wp2_with fail
      go_ret
      rw [HA.out]
      exact ⟨rfl, HX.out.1, ((Kept.refl K w).set H.out.notK 5 _).trans HX.out.2⟩

theorem secL_sfW (f : Int → Option SecV) (l : List (Int × SecV)) (x : Int) : secL (sfW f l x) = laidW (fun y => secL (f y)) (l.map fun e => (e.1, e.2.2.2)) x := by
  induction l using snocInd with
  | nil => rfl
  | snoc l e ih =>
    rw [sfW_snoc, List.map_append, List.map_cons, List.map_nil, laidW_snoc]
    by_cases h : x = e.1
    · simp [h, secL]
    · simp only [if_neg h]
      exact ih
theorem view_synced {S : DiskS} {n : Nat} : (S.synced n).view = S.view.sync := by
  unfold DiskS.synced DiskS.none DiskS.view DV.sync DiskS.sv
  simp only [DV.mk.injEq, true_and, and_true, List.map_nil]
  funext x
  exact secL_sfW _ _ _
theorem synced_fp {S : DiskS} {n bb b : Nat} (h : (S.synced n).fp bb b) : S.fp bb b := DiskS.sv_fp (fun _ _ hq => sfW_mem _ _ _ _ hq) (DiskS.none_fp h)
set_option maxHeartbeats 1000000 in
set_option maxRecDepth 100000 in
theorem dsync_v {K : Nat → Prop} {w : World} {bb : Nat} {V : DV} (h : Dk K w bb V) (db : Nat) (hdn : V.down = false) (hl : V.wait.length ≤ 1000000000)
    (hdb : w.cell? ⟨db, 0, none⟩ = some (.pointer (some ⟨bb, 0, none⟩))) (kdb : K db) :
    Calls Tryd.prog 51 #[.pointer (some ⟨db, 0, none⟩)] w (ActR K bb (V.act DV.sync) w) := by
  have e7 := h.cells.2.2.2.1
  rw [hdn] at e7
  have hdbl := cell_lt hdb
  have hal : Below w.heap.size w (w.alloc (.cells #[.pointer (some ⟨db, 0, none⟩)] 49)) := (Below.refl _ _).alloc (Nat.le_refl _) _
  have hKlt := h.lt
  have HKK : Hid (Dk (fun b => K b ∨ b = w.heap.size) (w.alloc (.cells #[.pointer (some ⟨db, 0, none⟩)] 49)) bb V) := Lib.hid (h.more hal fun b hb => by
    rcases hb with e | e
    · exact .inl e
    · exact .inr ⟨by omega, by simp; omega⟩)
  have c0 : (w.alloc (.cells #[.pointer (some ⟨db, 0, none⟩)] 49)).cell? ⟨w.heap.size, 0, none⟩ = some (.pointer (some ⟨db, 0, none⟩)) := by simp
  have c1 : (w.alloc (.cells #[.pointer (some ⟨db, 0, none⟩)] 49)).cell? ⟨db, 0, none⟩ = some (.pointer (some ⟨bb, 0, none⟩)) := (hal.cell (p := ⟨db, 0, none⟩) hdbl).trans hdb
  have c7 : (w.alloc (.cells #[.pointer (some ⟨db, 0, none⟩)] 49)).cell? ⟨bb, 7, none⟩ = some (.bool false) := (hal.cell (p := ⟨bb, 7, none⟩) (cell_lt e7)).trans e7
  have HAL := Lib.hid hal
  have HC0 := Lib.hid c0
  have HC1 := Lib.hid c1
  clear h hal
  go_enter Tryd.func51, Tryd.ntmps51
  go_wp2_with fail
  refine (actS_v HKK.out DV.sync _ ?hdo).mono ?_
  case hdo =>
    intro w2 V1 hd1 ht1 hn1 hw1
    have hk2 : ∀ b, (K b ∨ b = w.heap.size) → w2.heap[b]? = (w.alloc (.cells #[.pointer (some ⟨db, 0, none⟩)] 49)).heap[b]? := fun b hb => ht1.block b (HKK.out.lt b hb) fun e => HKK.out.notK (e ▸ hb)
    obtain ⟨⟨S, rfl, ha, hok, hf⟩, hl2⟩ := hd1
    have hwl : S.wt.length = V.wait.length := by rw [← hw1]; simp [DiskS.view]
    refine (dsync1_any bb S db w.heap.size w2 ha hok (by omega) ((World.cell?_of_block (hk2 _ (.inr rfl))).trans HC0.out) ((World.cell?_of_block (hk2 _ (.inl kdb))).trans HC1.out) (fun h => hf _ h (.inr rfl)) (fun h => hf _ h (.inl kdb))).mono ?_
    rintro e w3 ⟨rfl, n, h1, h2, h3⟩
    refine ⟨rfl, ?_, h3.mono hf⟩
    rw [← view_synced (n := n)]
    exact Dk.of hf hl2 h3.size h1 h2 fun b hb => .inl (synced_fp hb)
  rintro e w3 ⟨rfl, hd3, hk3⟩
  have HX3 : Hid (Dk K w3 bb (V.act DV.sync).2) := Lib.hid (hd3.less fun b hb => .inl hb)
  have HK3 : Hid (Kept K w w3) := Lib.hid ((Kept.of_below HAL.out hKlt).trans (hk3.mono fun b hb => .inl hb))
  clear hd3 hk3
  rcases hr : (V.act DV.sync).1 with _ | _
  all_goals
    go_wp2_with fail
    go_ret
    exact ⟨by rw [hr]; rfl, HX3.out, HK3.out⟩
end Go.Proofs.YteediemhcocgdaaDoor
