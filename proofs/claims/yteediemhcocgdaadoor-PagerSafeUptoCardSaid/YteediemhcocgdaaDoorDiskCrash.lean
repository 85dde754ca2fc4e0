/-
  block.Hand's Arm and Crash.
-/
import Derived.Test.YteediemhcocgdaaDoorDiskSync
import Derived.BigRegion
namespace Go.Proofs.YteediemhcocgdaaDoor
open Go.RowKit

theorem Dk.setArmed {K : Nat → Prop} {w : World} {bb : Nat} {V : DV} (h : Dk K w bb V) (a : Bool) : Dk K (w.setCell ⟨bb, 4, none⟩ (.bool a)) bb { V with armed := a } := by
  obtain ⟨⟨S, rfl, ha, hok, hf⟩, hl⟩ := h
  exact ⟨⟨{ S with armed := a }, rfl, ha.flag 4 (.bool a) rfl rfl rfl rfl rfl rfl rfl rfl rfl rfl, ⟨hok.n0, hok.nM, hok.sB, hok.nB, hok.wB, hok.sC, hok.nC, hok.a0, hok.aM⟩, hf⟩, fun b hb => by simp [World.setCell]; exact hl b hb⟩
theorem Dk.setDone {K : Nat → Prop} {w : World} {bb : Nat} {V : DV} (h : Dk K w bb V) (a : Bool) : Dk K (w.setCell ⟨bb, 6, none⟩ (.bool a)) bb { V with done := a } := by
  obtain ⟨⟨S, rfl, ha, hok, hf⟩, hl⟩ := h
  exact ⟨⟨{ S with done := a }, rfl, ha.flag 6 (.bool a) rfl rfl rfl rfl rfl rfl rfl rfl rfl rfl, ⟨hok.n0, hok.nM, hok.sB, hok.nB, hok.wB, hok.sC, hok.nC, hok.a0, hok.aM⟩, hf⟩, fun b hb => by simp [World.setCell]; exact hl b hb⟩

set_option maxHeartbeats 1000000 in
set_option maxRecDepth 100000 in
theorem arm_v {K : Nat → Prop} {w : World} {bb : Nat} {V : DV} (h : Dk K w bb V) (hb : Nat) (a : Int) (d : Bool) (hh : Blk w hb 93 [.pointer (some ⟨bb, 0, none⟩)]) (haM : a ≤ 9223372036854775807) :
    Calls Tryd.prog 44 #[.pointer (some ⟨hb, 0, none⟩), .int .i64 a, .bool d] w fun e w' => e = .returned (.tuple #[]) ∧ Dk K w' bb (V.arm a d) ∧ Kept K w w' := by
  obtain ⟨e4, e5, e6, e7, hfz⟩ := h.cells
  have f4 := hfz 4
  have f5 := hfz 5
  have f6 := hfz 6
  have hc := hh.cell 0
  have hc' : w.cell? ⟨hb, 0, none⟩ = some (.pointer (some ⟨bb, 0, none⟩)) := hc
  have hne : hb ≠ bb := by
    rintro rfl
    have := h.cell0
    rw [hc'] at this
    cases this
  have hmx : (if a < 0 then 0 else a) = max a 0 := by split <;> omega
  have HMX := Lib.hid hmx
  have hm1 : 0 ≤ (if a < 0 then 0 else a) := by rw [hmx]; omega
  have hm2 : (if a < 0 then 0 else a) ≤ 9223372036854775807 := by rw [hmx]; omega
  generalize (if a < 0 then 0 else a) = m at hmx hm1 hm2 HMX
  have HR := Lib.hid (show Dk K (((w.setCell ⟨bb, 4, none⟩ (.bool true)).setCell ⟨bb, 5, none⟩ (.int .i64 m)).setCell ⟨bb, 6, none⟩ (.bool d)) bb (V.arm a d) from by rw [show V.arm a d = { ({ ({ V with armed := true } : DV) with acts := m } : DV) with done := d } by unfold DV.arm; rw [HMX.out]]; exact ((h.setArmed true).setActs m hm1 hm2).setDone d)
  have HK := Lib.hid (show Kept K w (((w.setCell ⟨bb, 4, none⟩ (.bool true)).setCell ⟨bb, 5, none⟩ (.int .i64 m)).setCell ⟨bb, 6, none⟩ (.bool d)) from ((((Kept.refl K w).set h.notK 4 _).set h.notK 5 _).set h.notK 6 _))
  have HM : Hid ((if a < 0 then 0 else a) = m) := Lib.hid (by rw [HMX.out]; split <;> omega)
  clear h hh hc hfz hmx HMX hm1 hm2
  go_enter Tryd.func44, Tryd.ntmps44
  go_wp2_with fail
  go_region
  rw [HM.out]
  go_end0
  exact ⟨rfl, HR.out.keep ⟨rfl, rfl, rfl, Nat.le_refl _, fun _ _ => rfl⟩, Turn.drew HK.out⟩

/-- A row of bools. -/
def BIn (w : World) (A : Option Addr) (l : List Bool) (K : Nat → Prop) : Prop := 0 < l.length → ∃ g off, A = some ⟨g, off, none⟩ ∧ K g ∧ ∀ i, i < l.length → w.cell? ⟨g, off + i, none⟩ = some (.bool (l.getD i false))
theorem BIn.kept {w w' : World} {A : Option Addr} {l : List Bool} {K : Nat → Prop} (h : BIn w A l K) (hk : ∀ g, K g → g < w.heap.size → w'.heap[g]? = w.heap[g]?) : BIn w' A l K := fun hl => by
  obtain ⟨g, off, hA, hK, hc⟩ := h hl
  exact ⟨g, off, hA, hK, fun i hi => (World.cell?_of_block (hk g hK (cell_lt (hc i hi)))).trans (hc i hi)⟩

/-- Another map of what is read. -/
def DiskS.nv (S : DiskS) (b : Nat) (g : Int → Option SecV) (n : Nat) : DiskS := { S with nb := b, nw := g, nn := n }
theorem DiskOK.nput {S : DiskS} {b : Nat} {g : Int → Option SecV} {n : Nat} {x : Int} {q : SecV} (h : DiskOK (S.nv b g n)) (h0 : 0 ≤ x) (hn : x < S.n) : DiskOK (S.nv b (fun y => if y = x then some q else g y) (if (g x).isSome then n else n + 1)) := by
  refine ⟨h.n0, h.nM, h.sB, fun y hy => ?_, h.wB, h.sC, ?_, h.a0, h.aM⟩
  · have hy' : (if y = x then some q else g y) ≠ none := hy
    by_cases e : y = x
    · subst e; exact ⟨h0, hn⟩
    · rw [if_neg e] at hy'; exact h.nB y hy'
  · show Card (fun y => (if y = x then some q else g y) ≠ none) (if (g x).isSome then n else n + 1)
    rcases hx : g x with _ | q'
    · refine Card.add h.nC (x := x) (fun e => e hx) fun y => ?_
      show _ ↔ g y ≠ none ∨ y = x
      by_cases e : y = x <;> simp [e]
    · obtain ⟨l, h1, h2, h3⟩ := h.nC
      refine ⟨l, h1, fun y => (h2 y).trans ?_, h3⟩
      show g y ≠ none ↔ _
      by_cases e : y = x <;> simp [e, hx]
theorem DiskAt.nput {w w1 : World} {bb : Nat} {S : DiskS} {b : Nat} {g : Int → Option SecV} {n : Nat} {x : Int} {q : SecV} (h : DiskAt w bb (S.nv b g n)) (hq : SecAt w q) (hm : MapV w1 b (mput (secF g) x q.val) (if (secF g x).isSome then n else n + 1)) (hg : w.grownBy w1 (some b)) :
    DiskAt w1 bb (S.nv b (fun y => if y = x then some q else g y) (if (g x).isSome then n else n + 1)) := by
  have k1 : ∀ c, c < w.heap.size → c ≠ b → w1.heap[c]? = w.heap[c]? := fun c hc hn => hg.block c hc fun e => hn (Option.some.inj e)
  have hsec : ∀ r, SecAt w r → SecAt w1 r := fun r hr => hr.keep (k1 _ hr.lt (hr.ne_map h.nm))
  rw [mput_sec] at hm
  have hm2 : MapV w1 b (secF fun y => if y = x then some q else g y) (if (g x).isSome then n else n + 1) := by
    unfold secF at hm ⊢
    simpa using hm
  refine ⟨(k1 bb h.box.lt (blk_map h.nm h.box)).trans h.box, h.sm.keep (k1 _ h.sm.lt h.ne), hm2, h.ne, h.row.keep fun c hc => k1 c (h.row.lt c hc) fun e => h.row.ne_map h.nm (by rw [hc, e]; rfl), fun y r hy => hsec r (h.sat y r hy), fun y r hy => ?_, fun e he => hsec _ (h.wat e he)⟩
  have hy' : (if y = x then some q else g y) = some r := hy
  by_cases e : y = x
  · rw [if_pos e] at hy'
    cases hy'
    exact hsec _ hq
  · rw [if_neg e] at hy'
    exact hsec _ (h.nat y r hy')
/-- A new map of what is read: nothing yet. -/
theorem DiskAt.nnew {w : World} {bb : Nat} {S : DiskS} (h : DiskAt w bb S) : DiskAt ((w.alloc (.map #[] 0)).setCell ⟨bb, 2, none⟩ (.map (some w.heap.size))) bb (S.nv w.heap.size (fun _ => none) 0) := by
  have hb := h.box.lt
  have hk : ∀ c, c < w.heap.size → c ≠ bb → ((w.alloc (.map #[] 0)).setCell ⟨bb, 2, none⟩ (.map (some w.heap.size))).heap[c]? = w.heap[c]? := fun c hc hn => (Below.heap_setCell _ _ _ _ hn).trans (Below.heap_alloc w _ c hc)
  have hsec : ∀ r, SecAt w r → SecAt ((w.alloc (.map #[] 0)).setCell ⟨bb, 2, none⟩ (.map (some w.heap.size))) r := fun r hr => hr.keep (hk _ hr.lt (hr.ne_blk h.box (by decide)))
  refine ⟨(h.box.alloc (.map #[] 0)).set_ 2 _, h.sm.keep (hk _ h.sm.lt fun e => blk_map h.sm h.box e.symm), ?_, ?_, h.row.keep fun b hb => hk b (h.row.lt b hb) fun e => h.row.ne h.box (by decide) (e ▸ hb), fun x q hx => hsec q (h.sat x q hx), fun x q hx => (by cases hx), fun e he => hsec _ (h.wat e he)⟩
  · exact (MapV.made w).keep (Below.heap_setCell _ _ _ _ (by show w.heap.size ≠ bb; omega))
  · show S.sb ≠ w.heap.size
    have := h.sm.lt
    omega
theorem DiskOK.nnew {S : DiskS} {b : Nat} (h : DiskOK S) : DiskOK (S.nv b (fun _ => none) 0) := ⟨h.n0, h.nM, h.sB, fun x hx => absurd rfl hx, h.wB, h.sC, ⟨[], List.nodup_nil, fun x => by simp [DiskS.nv], rfl⟩, h.a0, h.aM⟩

theorem DiskS.nv_fp {S : DiskS} {b : Nat} {g : Int → Option SecV} {n bb c : Nat} (hg : ∀ x q, g x = some q → S.sf x = some q) (h : (S.nv b g n).fp bb c) : S.fp bb c ∨ c = b := by
  rcases h with h | h | h | h | h | ⟨x, q, h, e⟩ | h
  · exact .inl (.inl h)
  · exact .inl (.inr (.inl h))
  · exact .inr h
  · exact .inl (.inr (.inr (.inr (.inl h))))
  · exact .inl (.inr (.inr (.inr (.inr (.inl h)))))
  · exact .inl (.inr (.inr (.inr (.inr (.inl ⟨x, q, hg x q h, e⟩)))))
  · exact .inl (.inr (.inr (.inr (.inr (.inr (.inr h))))))
/-- So far as a range has come. -/
def come (g : Int → Option SecV) (left : Int → Bool) : Int → Option SecV := fun x => if left x = true then none else g x
theorem come_sub {g : Int → Option SecV} {left : Int → Bool} {x : Int} {q : SecV} (h : come g left x = some q) : g x = some q := by
  unfold come at h
  split at h
  · cases h
  · exact h
theorem come_start (g : Int → Option SecV) : come g (fun x => (secF g x).isSome) = fun _ => none := by
  funext x
  unfold come secF
  cases h : g x <;> simp [h]
theorem come_step {g : Int → Option SecV} {left : Int → Bool} {x : Int} {q : SecV} (h : g x = some q) : (fun y => if y = x then some q else come g left y) = come g (fun y => left y && !decide (y = x)) := by
  funext y
  unfold come
  by_cases e : y = x
  · subst e; simp [h]
  · simp [e]
theorem come_end {g : Int → Option SecV} {left : Int → Bool} (h : ∀ x, g x ≠ none → left x = false) : come g left = g := by
  funext x
  unfold come
  by_cases e : left x = true
  · rw [if_pos e]
    by_cases h2 : g x = none
    · exact h2.symm
    · rw [h x h2] at e; cases e
  · rw [if_neg e]

set_option maxHeartbeats 4000000 in
set_option maxRecDepth 100000 in
theorem crash_any (bb : Nat) (S : DiskS) (hb : Nat) (A : Option Addr) (c : Nat) (keep : List Bool) (w : World) (h : DiskAt w bb S) (hok : DiskOK S) (hl : S.wt.length ≤ 1000000000) (hh : Blk w hb 93 [.pointer (some ⟨bb, 0, none⟩)])
    (hk : BIn w A keep (fun g => ¬ S.fp bb g)) (hkl : keep.length ≤ 140737488355328) :
    Calls Tryd.prog 46 #[.pointer (some ⟨hb, 0, none⟩), .slice A keep.length c] w fun e w' => e = .returned (.tuple #[]) ∧ ∃ S', S'.view = S.view.crash keep ∧ DiskAt w' bb S' ∧ DiskOK S' ∧ (∀ b, S'.fp bb b → S.fp bb b ∨ w.heap.size ≤ b) ∧ Turn (S.fp bb) w w' := by
  have hc0 : w.cell? ⟨hb, 0, none⟩ = some (.pointer (some ⟨bb, 0, none⟩)) := hh.cell 0
  have c3 := h.cell.2.2.2.1
  have H := Lib.hid h
  have HOK := Lib.hid hok
  have HKB := Lib.hid hk
  clear h hok hk
  go_enter Tryd.func46, Tryd.ntmps46
  go_wp2_with fail
  go_loopw [18] (fun s18 wr => ∃ (k n : Nat), k ≤ S.wt.length ∧ s18 = .int .i64 k ∧ DiskAt wr bb (S.sv (sfW S.sf (keptW (S.wt.take k) keep)) n) ∧ DiskOK (S.sv (sfW S.sf (keptW (S.wt.take k) keep)) n) ∧ Turn (S.fp bb) w wr) (fun s18 _ => S.wt.length - (intOf s18).toNat)
  case atStart => exact ⟨0, S.sn, Nat.zero_le _, rfl, H.out, HOK.out, Turn.refl _ _⟩
  case round =>
    obtain ⟨k, n, hk, rfl, h1, h2, h3⟩ := hrel
    have H1 := Lib.hid h1
    have H2 := Lib.hid h2
    have H3 := Lib.hid h3
    clear h1 h2 h3
    have hc := H1.out.cell
    have e3 : wr.cell? ⟨bb, 1, none⟩ = some (.map (some S.sb)) := hc.2.1
    have e4 : wr.cell? ⟨bb, 3, none⟩ = some (.slice S.WA S.wt.length S.wc) := hc.2.2.2.1
    clear hc
    by_cases hlt : k < S.wt.length
    · have hrow : WRow wr S.WA S.wc S.wt := H1.out.row
      obtain ⟨g, hA, r1, r2⟩ := hrow.at_ k hlt
      have HA := Lib.hid hA
      rw [hA] at e4
      clear hA hrow
      generalize hx : S.wt[k].1 = x at *
      generalize hq : S.wt[k].2 = q at *
      have HX := Lib.hid hx
      have HQ := Lib.hid hq
      clear hx hq
      obtain ⟨qg, qc, ql⟩ := q
      have r2' : wr.cell? ⟨g, k * 2 + 1, none⟩ = some (.slice (some ⟨qg, 0, none⟩) 512 qc) := r2
      clear r2
      have hal : Below wr.heap.size wr (wr.alloc (.cells #[.int .i64 x, .slice (some ⟨qg, 0, none⟩) 512 qc] 117)) := (Below.refl _ _).alloc (Nat.le_refl _) _
      have hturn0 : Turn (S.fp bb) w (wr.alloc (.cells #[.int .i64 x, .slice (some ⟨qg, 0, none⟩) 512 qc] 117)) := H3.out.trans (Turn.of_below hal) (fun b hb => .inr (by have := H3.out.size; omega))
      have hskip : keep.getD k false = false → keptW (S.wt.take (k + 1)) keep = keptW (S.wt.take k) keep := fun e => by rw [keptW_take _ _ k hlt, e]; simp
      have HS := Lib.hid hskip
      have HAL := Lib.hid hal
      have HT0 := Lib.hid hturn0
      clear hskip hal hturn0
      by_cases hkl2 : k < keep.length
      · obtain ⟨gk, ok, rfl, hgk, hck⟩ := HKB.out (by omega)
        have hck0 := hck k hkl2
        have hck1 : (wr.alloc (.cells #[.int .i64 x, .slice (some ⟨qg, 0, none⟩) 512 qc] 117)).cell? ⟨gk, ok + k, none⟩ = some (.bool (keep.getD k false)) := (World.cell?_of_block (HT0.out.block _ (cell_lt hck0) hgk)).trans hck0
        have d0 : decide ((k : Int) < (keep.length : Int)) = true := by simp; omega
        clear hck hck0
        rcases hkv : keep.getD k false with _ | _
        · rw [hkv] at hck1
          have HKV := Lib.hid hkv
          clear hkv
          rw [HA.out]
          go_wp2_with fail
          refine ⟨⟨k + 1, n, by omega, by go_num, ?_, ?_, HT0.out⟩, by simp [intOf]; omega⟩
          · rw [HS.out HKV.out]; exact H1.out.below HAL.out
          · rw [HS.out HKV.out]; exact H2.out
        · rw [hkv] at hck1
          have HKV := Lib.hid hkv
          clear hkv
          have hmem : (x, ((qg, qc, ql) : SecV)) ∈ S.wt := by rw [← HX.out, ← HQ.out]; exact List.getElem_mem hlt
          have hwB := HOK.out.wB _ hmem
          have hnM := HOK.out.nM
          have hI : I64 x := i64_of (by have := hwB.1; show (_ : Int) ≤ _; omega) (by have := hwB.2; show (_ : Int) ≤ _; omega)
          have hsec : SecAt wr (qg, qc, ql) := H1.out.wat _ hmem
          have hsm : MapV wr S.sb (secF (sfW S.sf (keptW (S.wt.take k) keep))) n := H1.out.sm
          obtain ⟨w1, hrun1, hm1, hg1⟩ := ((hsm.alloc (.cells #[.int .i64 x, .slice (some ⟨qg, 0, none⟩) 512 qc] 117)).drew).put Tryd.underlying88 (by have := H2.out.snLe; unfold maxLen; show n < _; have h5 : n ≤ 1099511627776 := this; omega) hI (.slice (some ⟨qg, 0, none⟩) 512 qc)
          have hg2 : (wr.alloc (.cells #[.int .i64 x, .slice (some ⟨qg, 0, none⟩) 512 qc] 117)).grownBy w1 (some S.sb) := ⟨hg1.os, hg1.tape, hg1.output, hg1.size, hg1.block⟩
          have hput := DiskAt.sput (S := S) (x := x) (q := (qg, qc, ql)) (H1.out.below HAL.out) (hsec.keep (HAL.out.block _ hsec.lt)) hm1 hg2
          have hok2 := H2.out.sput (x := x) (q := (qg, qc, ql)) hwB.1 hwB.2
          have htk : keptW (S.wt.take (k + 1)) keep = keptW (S.wt.take k) keep ++ [(x, (qg, qc, ql))] := by rw [keptW_take _ _ k hlt, HKV.out, if_pos rfl, ← HX.out, ← HQ.out]
          have hsf : (fun y => if y = x then some ((qg, qc, ql) : SecV) else sfW S.sf (keptW (S.wt.take k) keep) y) = sfW S.sf (keptW (S.wt.take (k + 1)) keep) := by rw [htk, sfW_snoc]
          rw [hsf] at hput hok2
          have hturn : Turn (S.fp bb) w w1 := HT0.out.trans (fq := fun b => some S.sb = some b) (Turn.of_grown hg2) (fun b hb => .inl (.inr (.inl (Option.some.inj hb).symm)))
          have HP := Lib.hid (And.intro hput (And.intro hok2 hturn))
          have d3 := (HAL.out.cell (p := ⟨bb, 1, none⟩) (cell_lt e3)).trans e3
          clear hmem hwB hnM hI hsec hsm hm1 hg1 hg2 hput hok2 htk hsf hturn
          rw [HA.out]
          go_wp2_with fail
          go_region
          go_wp2_with fail
          refine ⟨⟨k + 1, _, by omega, by go_num, HP.out.1, HP.out.2.1, HP.out.2.2⟩, by simp [intOf]; omega⟩
      · have d0 : decide ((k : Int) < (keep.length : Int)) = false := by simp; omega
        have hkv : keep.getD k false = false := by rw [List.getD_eq_getElem?_getD, List.getElem?_eq_none (by omega)]; rfl
        have HKV := Lib.hid hkv
        clear hkv
        rw [HA.out]
        go_wp2_with fail
        refine ⟨⟨k + 1, n, by omega, by go_num, ?_, ?_, HT0.out⟩, by simp [intOf]; omega⟩
        · rw [HS.out HKV.out]; exact H1.out.below HAL.out
        · rw [HS.out HKV.out]; exact H2.out
    · obtain rfl : k = S.wt.length := by omega
      rw [List.take_length] at H1 H2
      generalize hgd : sfW S.sf (keptW S.wt keep) = gs at *
      have HGD := Lib.hid hgd
      clear hgd
      have hbx : Blk wr bb 91 (S.sv gs n).cells := H1.out.box
      have hfz3 := hbx.frozen 3
      have hfz2 := hbx.frozen 2
      have hc1 : wr.cell? ⟨bb, 2, none⟩ = some (.map (some S.nb)) := hbx.cell 2
      have hmm : ∀ W, (Instr.makeMap 88 none).run Tryd.prog W = .ok (.map (some W.heap.size)) (W.alloc (.map #[] 0)) := fun W => run_makeMap _ W
      have h5 := H1.out.nowait
      have h6 := h5.nnew
      have hs6 : (wr.setCell ⟨bb, 3, none⟩ (.slice none 0 0)).heap.size = wr.heap.size := by simp [World.setCell]
      rw [hs6] at h6
      have hok6 := (H2.out.nowait).nnew (b := wr.heap.size)
      have hb7 : Blk ((wr.setCell ⟨bb, 3, none⟩ (.slice none 0 0)).alloc (.map #[] 0)) bb 91 (S.sv gs n).none.cells := h5.box.alloc _
      have g2 := hb7.frozen 2
      have g3 : ((wr.setCell ⟨bb, 3, none⟩ (.slice none 0 0)).alloc (.map #[] 0)).cell? ⟨bb, 2, none⟩ = some (.map (some S.nb)) := hb7.cell 2
      have hcM : (((wr.setCell ⟨bb, 3, none⟩ (.slice none 0 0)).alloc (.map #[] 0)).setCell ⟨bb, 2, none⟩ (.map (some wr.heap.size))).cell? ⟨bb, 1, none⟩ = some (.map (some S.sb)) := h6.cell.2.1
      have hsm6 : MapV (((wr.setCell ⟨bb, 3, none⟩ (.slice none 0 0)).alloc (.map #[] 0)).setCell ⟨bb, 2, none⟩ (.map (some wr.heap.size))) S.sb (secF gs) n := h6.sm
      have hT6 : Turn (S.fp bb) w (((wr.setCell ⟨bb, 3, none⟩ (.slice none 0 0)).alloc (.map #[] 0)).setCell ⟨bb, 2, none⟩ (.map (some wr.heap.size))) :=
        (((H3.out.setCell (p := ⟨bb, 3, none⟩) (.inl (.inl rfl)) _).alloc _).setCell (p := ⟨bb, 2, none⟩) (.inl (.inl rfl)) _)
      have hsM : (((wr.setCell ⟨bb, 3, none⟩ (.slice none 0 0)).alloc (.map #[] 0)).setCell ⟨bb, 2, none⟩ (.map (some wr.heap.size))).heap.size = wr.heap.size + 1 := by simp [World.setCell]
      have H6 := Lib.hid h6
      have HO6 := Lib.hid hok6
      have HT6 := Lib.hid hT6
      have HSM := Lib.hid hsM
      clear h5 h6 hok6 hT6 hbx hb7 hsM
      go_wp2_with (at_range; refine wp_map_range rfl (.tmp 52) 88 23 rfl Tryd.underlying88 S.sb n (secF gs) rfl hsm6 ?_; intro w7 hr7 hg7 hs7)
      go_frame
      rw [HSM.out] at hr7 hs7 ⊢
      have hfpR : ∀ (f : Int → Option SecV) (nn b : Nat), (∀ x q, f x = some q → gs x = some q) → ((S.sv gs n).none.nv wr.heap.size f nn).fp bb b → b < wr.heap.size + 1 := fun f nn b hf hb => by
        rcases DiskS.nv_fp (S := (S.sv gs n).none) hf hb with h | h
        · have := H1.out.lt (DiskS.none_fp h)
          omega
        · omega
      have HFP := Lib.hid hfpR
      have h8 : DiskAt w7 bb ((S.sv gs n).none.nv wr.heap.size (come gs fun x => (secF gs x).isSome) 0) := by
        rw [come_start]
        exact H6.out.keep fun b hb => hg7.block b (H6.out.lt hb) (by simp)
      have ho8 : DiskOK ((S.sv gs n).none.nv wr.heap.size (come gs fun x => (secF gs x).isSome) 0) := by
        rw [come_start]
        exact HO6.out
      have ht8 : Turn (S.fp bb) w w7 := HT6.out.trans (fq := fun b => none = some b) (Turn.of_grown hg7) (fun b hb => by cases hb)
      have H8 := Lib.hid h8
      have HO8 := Lib.hid ho8
      have HT8 := Lib.hid ht8
      have HR8 := Lib.hid hr7
      clear h8 ho8 ht8 hr7 hg7 hfpR H6 HO6 HT6 HSM hsm6 hcM g3 g2 hs6 hmm hc1 hfz2 hfz3 hs7
      have hNR : wr.heap.size ≠ S.sb := by have := H1.out.sm.lt; exact fun e => by have h2 : S.sb < wr.heap.size := this; omega
      have hNz := H3.out.size
      clear e3 e4 c3
      generalize wr.heap.size = N at *
      clear hk hlt
      have hgB : ∀ x, gs x ≠ none → 0 ≤ x ∧ x < S.n := H2.out.sB
      have hnM := H2.out.nM
      have hnM' : S.n ≤ 1099511627776 := hnM
      have HGB := Lib.hid hgB
      clear H1 H2 H3 hgB hnM
      clear wr
      go_loopw [7] (fun _ wx => ∃ (left : Int → Bool) (cnt nn : Nat), RangeV wx S.sb (N + 1) (secF gs) n left cnt ∧ DiskAt wx bb ((S.sv gs n).none.nv N (come gs left) nn) ∧ DiskOK ((S.sv gs n).none.nv N (come gs left) nn) ∧ Turn (S.fp bb) w wx) (fun _ wx => wx.rangeLeft S.sb (N + 1))
      case atStart => exact ⟨_, _, _, HR8.out, H8.out, HO8.out, HT8.out⟩
      case round =>
        obtain ⟨left, cnt, nn, hr, h1, h2, h3⟩ := hrel
        have H1 := Lib.hid h1
        have H2 := Lib.hid h2
        have H3 := Lib.hid h3
        clear h1 h2 h3 H8 HO8 HT8 HR8
        have e2 : wr.cell? ⟨bb, 2, none⟩ = some (.map (some N)) := H1.out.cell.2.2.1
        have hbx : Blk wr bb 91 ((S.sv gs n).none.nv N (come gs left) nn).cells := H1.out.box
        have f4 := hbx.frozen 4
        have f7 := hbx.frozen 7
        have e4 : wr.cell? ⟨bb, 4, none⟩ = some (.bool S.armed) := H1.out.cell.2.2.2.2.1
        have e7 : wr.cell? ⟨bb, 7, none⟩ = some (.bool S.down) := H1.out.cell.2.2.2.2.2.2.2
        clear hbx
        go_wp2_with (at_next; refine wp_map_next rfl (.tmp 53) rfl S.sb (N + 1) n (secF gs) left cnt rfl hr ?_ ?_)
        · intro _ hdone
          have hfin : DiskAt ((wr.setCell ⟨bb, 4, none⟩ (.bool false)).setCell ⟨bb, 7, none⟩ (.bool false)) bb { (S.sv gs n).none.nv N (come gs left) nn with armed := false, down := false } :=
            DiskAt.flag (S := { (S.sv gs n).none.nv N (come gs left) nn with armed := false }) (H1.out.flag 4 (.bool false) rfl rfl rfl rfl rfl rfl rfl rfl rfl rfl) 7 (.bool false) rfl rfl rfl rfl rfl rfl rfl rfl rfl rfl
          have HFIN := Lib.hid hfin
          clear hfin
          have hce : come gs left = gs := come_end fun x hx => hdone x (i64_of (by have := (HGB.out x hx).1; show (_ : Int) ≤ _; omega) (by have := (HGB.out x hx).2; show (_ : Int) ≤ _; omega))
          have HCE := Lib.hid hce
          clear hce hdone
          go_wp2_with fail
          go_end0
          refine ⟨rfl, _, ?_, HFIN.out, ⟨H2.out.n0, H2.out.nM, H2.out.sB, H2.out.nB, H2.out.wB, H2.out.sC, H2.out.nC, H2.out.a0, H2.out.aM⟩, fun b hb => ?_, (H3.out.setCell (p := ⟨bb, 4, none⟩) (.inl (.inl rfl)) _).setCell (p := ⟨bb, 7, none⟩) (.inl (.inl rfl)) _⟩
          · have hview : (fun x => secL (gs x)) = laidW S.view.safe (keptW S.view.wait keep) := by
              funext x
              rw [← HGD.out, secL_sfW]
              unfold DiskS.view
              rw [keptW_map]
            unfold DiskS.view DV.crash
            simp only [DV.mk.injEq, and_true, true_and]
            refine ⟨rfl, ?_, ?_, rfl, rfl, rfl⟩
            · show (fun x => secL (come gs left x)) = _
              rw [HCE.out]
              exact hview
            · exact hview
          · have hb' : ((S.sv gs n).none.nv N (come gs left) nn).fp bb b := hb
            rcases DiskS.nv_fp (S := (S.sv gs n).none) (fun x q h => come_sub h) hb' with h | h
            · refine .inl (DiskS.sv_fp (fun x q hq => ?_) (DiskS.none_fp h))
              rw [← HGD.out] at hq
              exact (sfW_mem _ _ _ _ hq).imp id fun h => keptW_mem _ _ _ h
            · exact .inr (by omega)
        · intro x v w8 cnt8 hI hleft hf hr8 hlt8 hg8 hs8 hen
          have hnotR : ∀ b, ((S.sv gs n).none.nv N (come gs left) nn).fp bb b → b ≠ N + 1 := fun b hb e => by
            have := HFP.out _ _ b (fun x q h => come_sub h) hb
            omega
          have h18 : DiskAt w8 bb ((S.sv gs n).none.nv N (come gs left) nn) := H1.out.keep fun b hb => hg8.block b (H1.out.lt hb) fun e => hnotR b hb (Option.some.inj e)
          obtain ⟨q, hq, rfl⟩ : ∃ q, gs x = some q ∧ v = q.val := by
            unfold secF at hf
            cases hgx : gs x with
            | none => rw [hgx] at hf; cases hf
            | some q => rw [hgx] at hf; exact ⟨q, rfl, (Option.some.inj hf).symm⟩
          have e28 : w8.cell? ⟨bb, 2, none⟩ = some (.map (some N)) := h18.cell.2.2.1
          have hm8 : MapV w8 N (secF (come gs left)) nn := h18.nm
          have hq8 : SecAt w8 q := h18.sat x q hq
          have hxB := HGB.out x (by rw [hq]; simp)
          have hnn : nn < maxLen := by
            have := H2.out.nnLe
            have h5 : nn ≤ 1099511627776 := this
            unfold maxLen
            omega
          have H18 := Lib.hid h18
          have HQ8 := Lib.hid (And.intro hq hq8)
          have HG8 := Lib.hid hg8
          have HXB := Lib.hid hxB
          clear h18 hq hq8 hf hg8 hxB
          obtain ⟨qg, qc, ql⟩ := q
          have hen' : (Instr.entry (.pointer (some ⟨N + 1, 0, none⟩))).run Tryd.prog w8 = .ok (.tuple #[.int .i64 x, .slice (some ⟨qg, 0, none⟩) 512 qc]) w8 := hen
          clear hen
          go_wp2_with (at_mapUpdate; refine wp_map_put rfl (.tmp 62) (.tmp 63) (.tmp 64) 88 23 rfl Tryd.underlying88 N nn (secF (come gs left)) x (.slice (some ⟨qg, 0, none⟩) 512 qc) rfl rfl rfl hm8 hnn hI ?_; intro w9 hm9 hg9; go_frame)
          have hx2 : I64 x := hI
          have hput := DiskAt.nput (S := (S.sv gs n).none) (x := x) (q := (qg, qc, ql)) H18.out HQ8.out.2 hm9 hg9
          have hok2 := H2.out.nput (x := x) (q := (qg, qc, ql)) HXB.out.1 HXB.out.2
          rw [come_step HQ8.out.1] at hput hok2
          have hr9 := hr8.kept hg9 (fun e => hNR (Option.some.inj e).symm) (fun e => by have := Option.some.inj e; omega)
          have ht9 : Turn (S.fp bb) w w9 := (H3.out.trans (Turn.of_grown HG8.out) (fun b hb => .inr (by have := Option.some.inj hb; omega))).trans (fq := fun b => some N = some b) (Turn.of_grown hg9) (fun b hb => .inr (by have := Option.some.inj hb; omega))
          exact ⟨⟨_, cnt8, _, hr9, hput, hok2, ht9⟩, by rw [hr9.left_eq, hr.left_eq]; exact hlt8⟩
/-- A loss of power. -/
theorem crash_v {K : Nat → Prop} {w : World} {bb : Nat} {V : DV} (h : Dk K w bb V) (hb : Nat) (A : Option Addr) (c : Nat) (keep : List Bool) (hl : V.wait.length ≤ 1000000000) (hh : Blk w hb 93 [.pointer (some ⟨bb, 0, none⟩)]) (hk : BIn w A keep K) (hkl : keep.length ≤ 140737488355328) :
    Calls Tryd.prog 46 #[.pointer (some ⟨hb, 0, none⟩), .slice A keep.length c] w fun e w' => e = .returned (.tuple #[]) ∧ Dk K w' bb (V.crash keep) ∧ Kept K w w' := by
  obtain ⟨⟨S, rfl, ha, hok, hf⟩, hl2⟩ := h
  have hwl : S.wt.length = S.view.wait.length := by simp [DiskS.view]
  refine (crash_any bb S hb A c keep w ha hok (by omega) hh (fun hp => ?_) hkl).mono ?_
  · obtain ⟨g, off, hA, hg, hc⟩ := hk hp
    exact ⟨g, off, hA, fun hfp => hf g hfp hg, hc⟩
  · rintro e w' ⟨rfl, S', hv, h1, h2, h3, h4⟩
    refine ⟨rfl, ?_, h4.mono hf⟩
    rw [← hv]
    exact Dk.of hf hl2 h4.size h1 h2 h3
end Go.Proofs.YteediemhcocgdaaDoor
