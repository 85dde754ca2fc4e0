/-
  block.Disk's Write: what is carried out.
-/
import Derived.Test.YteediemhcocgdaaDoorDisk
import Derived.Test.YteediemhcocgdaaDoorAppRun
import Derived.Deep.RegionHeld3
import Derived.Deep.AppendLies
namespace Go.Proofs.YteediemhcocgdaaDoor
open Go.RowKit
attribute [local go_sem ↓] appSem_eq

/-- A write laid down. -/
def DiskS.put (S : DiskS) (x : Int) (q : SecV) (A' : Option Addr) (c' : Nat) : DiskS :=
  { S with nw := fun y => if y = x then some q else S.nw y, nn := if (S.nw x).isSome then S.nn else S.nn + 1, wt := S.wt ++ [(x, q)], WA := A', wc := c' }
def DV.put (V : DV) (x : Int) (l : List UInt8) : DV := { V with now := fun y => if y = x then l else V.now y, wait := V.wait ++ [(x, l)] }
theorem view_put {S : DiskS} {x : Int} {q : SecV} {A' : Option Addr} {c' : Nat} : (S.put x q A' c').view = S.view.put x q.2.2 := by
  unfold DiskS.view DV.put DiskS.put
  simp only [List.map_append, List.map_cons, List.map_nil, DV.mk.injEq, true_and, and_true]
  funext y
  by_cases e : y = x <;> simp [e, secL]
theorem mput_sec (f : Int → Option SecV) (x : Int) (q : SecV) : mput (secF f) x q.val = secF (fun y => if y = x then some q else f y) := by
  funext y
  unfold mput secF
  by_cases e : y = x <;> simp [e]
theorem DiskOK.put {S : DiskS} {x : Int} {q : SecV} {A' : Option Addr} {c' : Nat} (h : DiskOK S) (h0 : 0 ≤ x) (hn : x < S.n) : DiskOK (S.put x q A' c') := by
  refine ⟨h.n0, h.nM, h.sB, fun y hy => ?_, fun e he => ?_, h.sC, ?_, h.a0, h.aM⟩
  · have hy' : (if y = x then some q else S.nw y) ≠ none := hy
    by_cases e : y = x
    · subst e; exact ⟨h0, hn⟩
    · rw [if_neg e] at hy'; exact h.nB y hy'
  · rcases List.mem_append.1 he with h1 | h1
    · exact h.wB e h1
    · rw [List.mem_singleton.1 h1]; exact ⟨h0, hn⟩
  · show Card (fun y => (if y = x then some q else S.nw y) ≠ none) (if (S.nw x).isSome then S.nn else S.nn + 1)
    rcases hx : S.nw x with _ | q'
    · refine h.nC.add (x := x) (fun e => e hx) fun y => ?_
      by_cases e : y = x <;> simp [e]
    · obtain ⟨l, h1, h2, h3⟩ := h.nC
      refine ⟨l, h1, fun y => (h2 y).trans ?_, h3⟩
      by_cases e : y = x <;> simp [e, hx]

theorem write_info : (Tryd.prog.info? 117).map (fun i => (i.zero, i.size, i.bytes)) = some (some (.agg #[.int .i64 0, .slice none 0 0]), 2, 32) := by kernel_rfl

/-- One more write that waits. -/
theorem WRow.more {w : World} {A : Option Addr} {c : Nat} {l : List (Int × SecV)} (h : WRow w A c l) (b : Nat) (x : Int) (q : SecV) (h0 : w.cell? ⟨b, 0, none⟩ = some (.int .i64 x)) (h1 : w.cell? ⟨b, 1, none⟩ = some q.val) (hl : l.length ≤ 1000000000) (ty : TypeId) (H : Nat) (hH : w.heap.size = H) :
    ∃ g c' w', (Builtin.append_ #[89, 89] ty #[.slice A l.length c, .slice (some ⟨b, 0, none⟩) 1 1]).run Tryd.prog w = .ok (.slice (some ⟨g, 0, none⟩) (l.length + 1) c') w' ∧
      WRow w' (some ⟨g, 0, none⟩) c' (l ++ [(x, q)]) ∧ w.grownBy w' (blkOf A) ∧ (blkOf A = some g ∨ g = H) := by
  obtain ⟨i0, hi, hz0, hz1, hz2⟩ := info_parts write_info
  obtain ⟨g, cap, w', hrun, hown, hg, hlie, _⟩ := run_append_lies (P := Tryd.prog) (w := w) 89 ty 0 117 i0 (.agg #[.int .i64 0, .slice none 0 0]) 2 32 Tryd.underlying89 hi hz0 hz1 hz2 rfl (by decide) _ _ _ h ⟨b, 0, none⟩ 1 1 [.int .i64 x, q.val] rfl
    (fun j u hj => by
      rcases j with _ | _ | j
      · simp at hj; subst hj; simpa [Addr.add] using h0
      · simp at hj; subst hj; simpa [Addr.add] using h1
      · simp at hj) (by simp [Value.oneCell', SecV.val]) (by omega) (by unfold maxLen; omega) (by omega) (Nat.zero_le _) H hH
  rw [ownBlock_slice] at hg hlie
  refine ⟨g, cap, w', hrun, ?_, hg, hlie⟩
  unfold WRow
  rw [wcells_append, List.length_append, List.length_singleton]
  exact hown

/-- .. in a region that draws its order. -/
theorem step_append_write {w : World} {ops : Array Oper} {o : Oper} {a : Act} {K : Act → World → Prop} {Q : Exit → Act → World → Prop} {E : Prop} (hgd : o.guard = none) (s y : Operand)
    (ho : o.op = .call { callee := .builtin .append, args := #[s, y], argTypes := #[89, 89] }) (A : Option Addr) (c : Nat) (l : List (Int × SecV)) (b : Nat) (x : Int) (q : SecV)
    (hs : a.eval s = .slice A l.length c) (hy : a.eval y = .slice (some ⟨b, 0, none⟩) 1 1) (hr : WRow w A c l) (h0 : w.cell? ⟨b, 0, none⟩ = some (.int .i64 x)) (h1 : w.cell? ⟨b, 1, none⟩ = some q.val) (hl : l.length ≤ 1000000000) (H : Nat) (hH : w.heap.size = H)
    (h : ∀ g c' w', WRow w' (some ⟨g, 0, none⟩) c' (l ++ [(x, q)]) → w.grownBy w' (blkOf A) → (blkOf A = some g ∨ g = H) → K (a.put o.dst (.slice (some ⟨g, 0, none⟩) (l.length + 1) c')) w') :
    if Region.wanted o (yielded ops a.tmps) = true then Oper.wp Tryd.prog o a w K Q else E := by
  obtain ⟨g, c', w', hrun, r1, r2, r3⟩ := hr.more b x q h0 h1 hl o.type H hH
  have hw : Region.wanted o (yielded ops a.tmps) = true := by simp [Region.wanted, hgd]
  rw [if_pos hw]
  exact Lib.wp_append_run w s y _ _ ho _ _ hs hy _ w' hrun (h g c' w' r1 r2 r3)

theorem far2 {w1 w2 : World} {o : Obj} {A : Option Addr} {a : Addr} {v : Value} (hg : (w1.alloc o).drew.grownBy w2 (blkOf A)) (h : w1.cell? a = some v) (hn : blkOf A ≠ some a.block) : w2.cell? a = some v :=
  (World.cell?_of_block ((hg.block a.block (by have := cell_lt h; simp; omega) fun e => hn e.symm).trans (Below.heap_alloc w1 o a.block (cell_lt h)))).trans h

/-- What a write leaves. -/
def PutD (bb : Nat) (S : DiskS) (x : Int) (q : SecV) (w : World) (e : Ending) (w' : World) : Prop :=
  e = .returned (.tuple #[]) ∧ ∃ A' c', DiskAt w' bb (S.put x q A' c') ∧ Turn (S.fp bb) w w' ∧ ∀ b, blkOf A' = some b → blkOf S.WA = some b ∨ w.heap.size ≤ b

theorem WRow.ne {w : World} {A : Option Addr} {c : Nat} {l : List (Int × SecV)} (h : WRow w A c l) {g : Nat} {t : TypeId} {cs : List Value} (hb : Blk w g t cs) (hne : t ≠ 117) : blkOf A ≠ some g := fun e => by
  obtain ⟨ds, hd, _⟩ := h.blk g e
  exact blk_type hb hd hne rfl
theorem WRow.ne_map {w : World} {A : Option Addr} {c : Nat} {l : List (Int × SecV)} (h : WRow w A c l) {b : Nat} {f : Int → Option Value} {n : Nat} (hb : MapV w b f n) : blkOf A ≠ some b := fun e => by
  obtain ⟨ds, hd, _⟩ := h.blk b e
  exact blk_map hb hd rfl
theorem SecAt.ne_map {w : World} {q : SecV} (h : SecAt w q) {b : Nat} {f : Int → Option Value} {n : Nat} (hb : MapV w b f n) : q.1 ≠ b := by
  obtain ⟨_, cs, hk, _⟩ := h
  exact blk_map hb hk
theorem SecAt.ne_blk {w : World} {q : SecV} (h : SecAt w q) {g : Nat} {t : TypeId} {cs : List Value} (hb : Blk w g t cs) (hne : t ≠ 5) : q.1 ≠ g := by
  obtain ⟨_, ds, hk, _⟩ := h
  exact blk_type hk hb (Ne.symm hne)
theorem SecAt.ne_row {w : World} {q : SecV} (h : SecAt w q) {A : Option Addr} {c : Nat} {l : List (Int × SecV)} (hr : WRow w A c l) : blkOf A ≠ some q.1 := by
  obtain ⟨_, ds, hk, _⟩ := h
  exact hr.ne hk (by decide)

theorem DiskAt.putd {w w1 w2 : World} {bb : Nat} {S : DiskS} {x : Int} {q : SecV} {A' : Option Addr} {c' : Nat} {o : Obj} (h : DiskAt w bb S) (hq : SecAt w q)
    (hm : MapV w1 S.nb (mput (secF S.nw) x q.val) (if (secF S.nw x).isSome then S.nn else S.nn + 1)) (hg : w.drew.grownBy w1 (some S.nb)) (hr : WRow w2 A' c' (S.wt ++ [(x, q)])) (hg2 : (w1.alloc o).drew.grownBy w2 (blkOf S.WA)) (hA : ∀ b, blkOf A' = some b → blkOf S.WA = some b ∨ w1.heap.size + 1 = b) :
    PutD bb S x q w (.returned (.tuple #[])) (w2.setCell ⟨bb, 3, none⟩ (.slice A' (S.wt ++ [(x, q)]).length c')) := by
  have hs1 : w.heap.size ≤ w1.heap.size := hg.size
  have hs2 : w1.heap.size + 1 ≤ w2.heap.size := by have := hg2.size; simp at this; omega
  have k1 : ∀ b, b < w.heap.size → b ≠ S.nb → w1.heap[b]? = w.heap[b]? := fun b hb hn => hg.block b hb fun e => hn (Option.some.inj e)
  have k2 : ∀ b, b < w1.heap.size → blkOf S.WA ≠ some b → w2.heap[b]? = w1.heap[b]? := fun b hb hn => (hg2.block b (by simp; omega) fun e => hn e.symm).trans (Below.heap_alloc w1 o b hb)
  have k3 : ∀ b, b ≠ bb → (w2.setCell ⟨bb, 3, none⟩ (.slice A' (S.wt ++ [(x, q)]).length c')).heap[b]? = w2.heap[b]? := fun b hb => Below.heap_setCell _ _ _ _ hb
  have kk : ∀ b, b < w.heap.size → b ≠ S.nb → blkOf S.WA ≠ some b → b ≠ bb → (w2.setCell ⟨bb, 3, none⟩ (.slice A' (S.wt ++ [(x, q)]).length c')).heap[b]? = w.heap[b]? := fun b hb n1 n2 n3 => (k3 b n3).trans ((k2 b (by omega) n2).trans (k1 b hb n1))
  have hsec : ∀ r, SecAt w r → SecAt (w2.setCell ⟨bb, 3, none⟩ (.slice A' (S.wt ++ [(x, q)]).length c')) r := fun r hr => hr.keep (kk _ hr.lt (hr.ne_map h.nm) (hr.ne_row h.row) (hr.ne_blk h.box (by decide)))
  have hbox : Blk w2 bb 91 S.cells := (k2 bb (by have := h.box.lt; omega) (h.row.ne h.box (by decide))).trans ((k1 bb h.box.lt (blk_map h.nm h.box)).trans h.box)
  have hrow2 : WRow (w2.setCell ⟨bb, 3, none⟩ (.slice A' (S.wt ++ [(x, q)]).length c')) A' c' (S.wt ++ [(x, q)]) := hr.keep fun b hb => k3 b fun e => hr.ne hbox (by decide) (e ▸ hb)
  refine ⟨rfl, A', c', ⟨hbox.set_ 3 _, ?_, ?_, h.ne, hrow2, fun y r hy => hsec r (h.sat y r hy), fun y r hy => ?_, fun e he => ?_⟩, ⟨?_, ?_, ?_, ?_, fun b hb hn => ?_⟩, fun b hb => ?_⟩
  · exact h.sm.keep (kk _ h.sm.lt h.ne (h.row.ne_map h.sm) (fun e => blk_map h.sm h.box e.symm))
  · rw [mput_sec] at hm
    have hm2 : MapV w1 S.nb (secF fun y => if y = x then some q else S.nw y) (if (S.nw x).isSome then S.nn else S.nn + 1) := by
      unfold secF at hm ⊢
      simpa using hm
    exact hm2.keep ((k3 _ (fun e => blk_map h.nm h.box e.symm)).trans (k2 _ hm.lt (h.row.ne_map h.nm)))
  · have hy' : (if y = x then some q else S.nw y) = some r := hy
    by_cases e : y = x
    · rw [if_pos e] at hy'
      cases hy'
      exact hsec _ hq
    · rw [if_neg e] at hy'
      exact hsec _ (h.nat y r hy')
  · rcases List.mem_append.1 he with h1 | h1
    · exact hsec _ (h.wat e h1)
    · rw [List.mem_singleton.1 h1]
      exact hsec _ hq
  · exact hg2.os.trans hg.os
  · exact hg2.tape.trans hg.tape
  · exact hg2.output.trans hg.output
  · simp [World.setCell]; omega
  · exact kk b hb (fun e => hn (.inr (.inr (.inl e)))) (fun e => hn (.inr (.inr (.inr (.inl e))))) (fun e => hn (.inl e))
  · rcases hA b hb with h1 | h1
    · exact .inl h1
    · exact .inr (by omega)

set_option maxHeartbeats 2000000 in
set_option maxRecDepth 100000 in
theorem dwrite1_any (bb : Nat) (S : DiskS) (x : Int) (q : SecV) (db : Nat) (xb dbx ab : Nat) (w : World) (h : DiskAt w bb S) (hok : DiskOK S) (h0 : 0 ≤ x) (hn : x < S.n) (hq : SecAt w q) (hl : S.wt.length ≤ 1000000000)
    (hx : w.cell? ⟨xb, 0, none⟩ = some q.val) (hd : w.cell? ⟨dbx, 0, none⟩ = some (.pointer (some ⟨db, 0, none⟩))) (ha : w.cell? ⟨ab, 0, none⟩ = some (.int .i64 x)) (hdb : w.cell? ⟨db, 0, none⟩ = some (.pointer (some ⟨bb, 0, none⟩)))
    (fx : ¬ S.fp bb xb) (fd : ¬ S.fp bb dbx) (fa : ¬ S.fp bb ab) (fdb : ¬ S.fp bb db) :
    Calls Tryd.prog 83 #[.pointer (some ⟨xb, 0, none⟩), .pointer (some ⟨dbx, 0, none⟩), .pointer (some ⟨ab, 0, none⟩)] w (PutD bb S x q w) := by
  have hI : I64 x := i64_of (by omega) (by have := hok.nM; omega)
  obtain ⟨qg, qc, ql⟩ := q
  have hx' : w.cell? ⟨xb, 0, none⟩ = some (.slice (some ⟨qg, 0, none⟩) 512 qc) := hx
  clear hx
  obtain ⟨c0, c1, c2, c3, c4, c5, c6, c7⟩ := h.cell
  obtain ⟨w1, hrun1, hm1, hg1⟩ := (h.nm.drew).put Tryd.underlying88 (by have := hok.nnLe; unfold maxLen; omega) hI (.slice (some ⟨qg, 0, none⟩) 512 qc)
  have H := Lib.hid h
  have HM1 := Lib.hid hm1
  have HG1 := Lib.hid hg1
  clear h hg1
  have k1 : ∀ b, b < w.heap.size → ¬ S.fp bb b → w1.heap[b]? = w.heap[b]? := fun b hb hn => HG1.out.block b hb fun e => hn (.inr (.inr (.inl (Option.some.inj e))))
  have e1 : w1.cell? ⟨xb, 0, none⟩ = some (.slice (some ⟨qg, 0, none⟩) 512 qc) := (World.cell?_of_block (k1 _ (cell_lt hx') fx)).trans hx'
  have e2 : w1.cell? ⟨dbx, 0, none⟩ = some (.pointer (some ⟨db, 0, none⟩)) := (World.cell?_of_block (k1 _ (cell_lt hd) fd)).trans hd
  have e3 : w1.cell? ⟨ab, 0, none⟩ = some (.int .i64 x) := (World.cell?_of_block (k1 _ (cell_lt ha) fa)).trans ha
  have e4 : w1.cell? ⟨db, 0, none⟩ = some (.pointer (some ⟨bb, 0, none⟩)) := (World.cell?_of_block (k1 _ (cell_lt hdb) fdb)).trans hdb
  have hbox1 : Blk w1 bb 91 S.cells := (HG1.out.block bb H.out.box.lt fun e => blk_map H.out.nm H.out.box (Option.some.inj e)).trans H.out.box
  have e5 : w1.cell? ⟨bb, 3, none⟩ = some (.slice S.WA S.wt.length S.wc) := hbox1.cell 3
  have hrow1 : WRow w1 S.WA S.wc S.wt := H.out.row.keep fun b hb => HG1.out.block b (H.out.row.lt b hb) fun e => H.out.row.ne_map H.out.nm (by rw [hb, Option.some.inj e])
  have b1 : xb < w1.heap.size := cell_lt e1
  have b2 : dbx < w1.heap.size := cell_lt e2
  have b3 : ab < w1.heap.size := cell_lt e3
  have b4 : db < w1.heap.size := cell_lt e4
  have b5 : bb < w1.heap.size := hbox1.lt
  have hfz : w1.frozen? ⟨bb, 3, none⟩ = false := hbox1.frozen 3
  have hrow2 : WRow (w1.alloc (.cells #[.int .i64 x, .slice (some ⟨qg, 0, none⟩) 512 qc] 117)).drew S.WA S.wc S.wt := hrow1.keep fun b hb => Below.heap_alloc w1 _ b (hrow1.lt b hb)
  have d1 := (World.cell?_alloc_lt w1 (.cells #[.int .i64 x, .slice (some ⟨qg, 0, none⟩) 512 qc] 117) ⟨xb, 0, none⟩ b1).trans e1
  have d2 := (World.cell?_alloc_lt w1 (.cells #[.int .i64 x, .slice (some ⟨qg, 0, none⟩) 512 qc] 117) ⟨dbx, 0, none⟩ b2).trans e2
  have d3 := (World.cell?_alloc_lt w1 (.cells #[.int .i64 x, .slice (some ⟨qg, 0, none⟩) 512 qc] 117) ⟨ab, 0, none⟩ b3).trans e3
  have d4 := (World.cell?_alloc_lt w1 (.cells #[.int .i64 x, .slice (some ⟨qg, 0, none⟩) 512 qc] 117) ⟨db, 0, none⟩ b4).trans e4
  have d5 := (World.cell?_alloc_lt w1 (.cells #[.int .i64 x, .slice (some ⟨qg, 0, none⟩) 512 qc] 117) ⟨bb, 3, none⟩ b5).trans e5
  obtain ⟨g, c', w2, hrun2, hr2, hg2, hl2⟩ := hrow2.more w1.heap.size x (qg, qc, ql) (by simp) (by simp [SecV.val]) hl 89 (w1.heap.size + 1) (by simp)
  rw [appSem_eq] at hrun2
  have g1 := far2 hg2 e1 (fun e => fx (.inr (.inr (.inr (.inl e)))))
  have g2 := far2 hg2 e2 (fun e => fd (.inr (.inr (.inr (.inl e)))))
  have g3 := far2 hg2 e3 (fun e => fa (.inr (.inr (.inr (.inl e)))))
  have g4 := far2 hg2 e4 (fun e => fdb (.inr (.inr (.inr (.inl e)))))
  have g5 := far2 hg2 e5 (hrow1.ne hbox1 (by decide))
  have hfz2 : w2.frozen? ⟨bb, 3, none⟩ = false := (World.frozen?_of_block ((hg2.block bb (by simp; omega) fun e => hrow1.ne hbox1 (by decide) e.symm).trans (Below.heap_alloc w1 _ bb b5))).trans hfz
  have HP := Lib.hid (H.out.putd (q := (qg, qc, ql)) hq HM1.out HG1.out hr2 hg2 (fun b hb => hl2.imp (fun h => by rw [h, ← hb]; rfl) (fun h => by have : g = b := Option.some.inj hb; omega)))
  clear hrow1 hrow2 hr2 hg2 hl2 hbox1 hm1 hok k1
  rw [List.length_append, List.length_singleton] at HP
  clear c0 c1 c3 c4 c5 c6 c7 hl h0 hn hq hfz
  go_enter Tryd.func83, Tryd.ntmps83
  go_wp2_with fail
  go_region
  clear hx' hd ha hdb c2 hrun1
  go_wp2_with fail
  go_region
  go_end0
  exact HP.out
end Go.Proofs.YteediemhcocgdaaDoor
