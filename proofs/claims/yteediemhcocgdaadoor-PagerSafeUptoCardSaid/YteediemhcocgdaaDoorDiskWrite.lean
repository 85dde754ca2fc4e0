/-
  block.Disk's Write.
-/
import Derived.Test.YteediemhcocgdaaDoorDiskAct
import Derived.BigQuiet
import Derived.Deep.QuietTactic
namespace Go.Proofs.YteediemhcocgdaaDoor
open Go.RowKit

theorem fp_put {S : DiskS} {x : Int} {q : SecV} {A' : Option Addr} {c' bb b : Nat} (h : (S.put x q A' c').fp bb b) : S.fp bb b ∨ blkOf A' = some b ∨ b = q.1 := by
  rcases h with e | e | e | e | ⟨y, r, e, e2⟩ | ⟨y, r, e, e2⟩ | ⟨r, e, e2⟩
  · exact .inl (.inl e)
  · exact .inl (.inr (.inl e))
  · exact .inl (.inr (.inr (.inl e)))
  · exact .inr (.inl e)
  · exact .inl (.inr (.inr (.inr (.inr (.inl ⟨y, r, e, e2⟩)))))
  · have e' : (if y = x then some q else S.nw y) = some r := e
    by_cases h : y = x
    · rw [if_pos h] at e'
      cases e'
      exact .inr (.inr e2.symm)
    · rw [if_neg h] at e'
      exact .inl (.inr (.inr (.inr (.inr (.inr (.inl ⟨y, r, e', e2⟩))))))
  · rcases List.mem_append.1 e with h1 | h1
    · exact .inl (.inr (.inr (.inr (.inr (.inr (.inr ⟨r, h1, e2⟩))))))
    · rw [List.mem_singleton.1 h1] at e2
      exact .inr (.inr e2.symm)
theorem dwrite1_v {K : Nat → Prop} {w : World} {bb : Nat} {V : DV} (h : Dk K w bb V) (x : Int) (q : SecV) (db xb dbx ab : Nat) (h0 : 0 ≤ x) (hn : x < V.n) (hq : SecAt w q) (hqK : ¬ K q.1) (hl : V.wait.length ≤ 1000000000)
    (hx : w.cell? ⟨xb, 0, none⟩ = some q.val) (hd : w.cell? ⟨dbx, 0, none⟩ = some (.pointer (some ⟨db, 0, none⟩))) (ha : w.cell? ⟨ab, 0, none⟩ = some (.int .i64 x)) (hdb : w.cell? ⟨db, 0, none⟩ = some (.pointer (some ⟨bb, 0, none⟩)))
    (kx : K xb) (kd : K dbx) (ka : K ab) (kdb : K db) :
    Calls Tryd.prog 83 #[.pointer (some ⟨xb, 0, none⟩), .pointer (some ⟨dbx, 0, none⟩), .pointer (some ⟨ab, 0, none⟩)] w fun e w' => e = .returned (.tuple #[]) ∧ Dk K w' bb (V.put x q.2.2) ∧ Kept K w w' := by
  obtain ⟨⟨S, rfl, hat, hok, hf⟩, hlt⟩ := h
  have hl' : S.wt.length ≤ 1000000000 := by
    have : S.view.wait.length = S.wt.length := List.length_map _
    omega
  refine (dwrite1_any bb S x q db xb dbx ab w hat hok h0 hn hq hl' hx hd ha hdb (fun e => hf _ e kx) (fun e => hf _ e kd) (fun e => hf _ e ka) (fun e => hf _ e kdb)).mono ?_
  rintro e w' ⟨rfl, A', c', h1, h2, h3⟩
  refine ⟨rfl, ?_, h2.mono hf⟩
  rw [← view_put (A' := A') (c' := c')]
  refine ⟨⟨_, rfl, h1, hok.put h0 hn, fun b hb hk => ?_⟩, fun b hb => Nat.lt_of_lt_of_le (hlt b hb) h2.size⟩
  rcases fp_put hb with e | e | e
  · exact hf b e hk
  · rcases h3 b e with e | e
    · exact hf b (.inr (.inr (.inr (.inl e)))) hk
    · have := hlt b hk; omega
  · exact hqK (e ▸ hk)

theorem Own.sec {w : World} {base c : Nat} {A : Option Addr} {l : List UInt8} (h : Own w base A c l) (hl : l.length = 512) : ∃ g, A = some ⟨g, 0, none⟩ ∧ base ≤ g ∧ SecAt w (g, c, l) := by
  obtain ⟨_, ⟨hv, h0⟩ | ⟨g, cap, cur, hv, hg, hh, r⟩⟩ := h
  · omega
  · injection hv with hA _ hc
    subst hA hc
    refine ⟨g, rfl, hg, hl, cur.toList, by simpa [Blk] using hh, ?_⟩
    have h3 := r.2.2.2
    rw [Nat.mul_one, hl] at h3
    exact h3

set_option maxHeartbeats 1000000 in
set_option maxRecDepth 100000 in
theorem dwrite_v {K : Nat → Prop} {w : World} {bb : Nat} {V : DV} (h : Dk K w bb V) (x : Int) (db B : Nat) (A : Option Addr) (c : Nat) (l : List UInt8) (hb : Byt w B A l) (hB : B ≤ w.heap.size) (hl5 : l.length = 512) (h0 : 0 ≤ x) (hn : x < V.n) (hdn : V.down = false) (hl : V.wait.length ≤ 1000000000)
    (hdb : w.cell? ⟨db, 0, none⟩ = some (.pointer (some ⟨bb, 0, none⟩))) (kdb : K db) :
    Calls Tryd.prog 66 #[.pointer (some ⟨db, 0, none⟩), .int .i64 x, .slice A 512 c] w (ActR K bb (V.act fun V' => V'.put x l) w) := by
  have e7 := h.cells.2.2.2.1
  rw [hdn] at e7
  have e0 := h.cell0
  have hdbl := cell_lt hdb
  have hbl := cell_lt e0
  have k1 : decide (x < 0) = false := by simp; omega
  have k2 : decide (V.n ≤ x) = false := by simp; omega
  have HX := Lib.hid h
  have HB := Lib.hid hb
  clear h
  go_enter Tryd.func66, Tryd.ntmps66
  go_wp2_with fail
  go_quiet (fail)
  have HL5 := Lib.hid hl5
  clear hl5 hb
  have hbw : Below w.heap.size w ((((w.alloc (.cells #[.pointer (some ⟨db, 0, none⟩)] 49)).alloc (.cells #[.int .i64 x] 3)).drewN nq)) := below_drewN (((Below.refl _ w).alloc (Nat.le_refl _) _).alloc (by simp) _) nq
  have hz0 : w.heap.size + 2 ≤ ((((w.alloc (.cells #[.pointer (some ⟨db, 0, none⟩)] 49)).alloc (.cells #[.int .i64 x] 3)).drewN nq)).heap.size := by show _ ≤ (((w.alloc (.cells #[.pointer (some ⟨db, 0, none⟩)] 49)).alloc (.cells #[.int .i64 x] 3))).heap.size; simp
  have HBW := Lib.hid hbw
  clear hbw
  go_wp2_with (at_builtin; refine wp_append_bytes rfl (.const (.slice none 0 0)) (.tmp 37) rfl (w.heap.size + 2) none 0 [] B A c l ?h1 ?h2 ?h3 ?h4 ?h5 ?h6 ?_)
  case h1 => rfl
  case h2 => rw [HL5.out]; rfl
  case h3 => exact Own.none_ _ _
  case h4 => exact HB.out.below (HBW.out.mono hB)
  case h5 => rw [HL5.out]; decide
  case h6 => exact hz0
  intro A1 n1 w1 hown1 hg1 hat1
  rw [HL5.out]
  have hown2 : Own w1 (w.heap.size + 2) A1 n1 l := hown1
  obtain ⟨g, rfl, hgb, hsec⟩ := hown2.sec HL5.out
  have hg1' : Below w.heap.size w w1 := HBW.out.grown hg1 (by omega) (fun k hk => by cases hk)
  have hc1 : w1.cell? ⟨w.heap.size, 0, none⟩ = some (.pointer (some ⟨db, 0, none⟩)) := hg1.cell (a := ⟨w.heap.size, 0, none⟩) (by simp) (by simp [blkOf])
  have hc2 : w1.cell? ⟨w.heap.size + 1, 0, none⟩ = some (.int .i64 x) := hg1.cell (a := ⟨w.heap.size + 1, 0, none⟩) (by simp) (by simp [blkOf])
  have HS := Lib.hid hsec
  have HG1 := Lib.hid hg1'
  have HX1 := Lib.hid (HX.out.keep hg1')
  have hz1 : w.heap.size + 2 ≤ w1.heap.size := Nat.le_trans hz0 hg1.size
  clear hown1 hown2 hg1 hat1 hsec hg1'
  have hc0 : w1.cell? ⟨db, 0, none⟩ = some (.pointer (some ⟨bb, 0, none⟩)) := (HG1.out.cell (p := ⟨db, 0, none⟩) hdbl).trans hdb
  have hal : Below w1.heap.size w1 (w1.alloc (.cells #[.slice (some ⟨g, 0, none⟩) 512 n1] 23)) := (Below.refl _ _).alloc (Nat.le_refl _) _
  have hgl : g < w1.heap.size := HS.out.lt
  have HKK : Hid (Dk (fun b => K b ∨ b = w.heap.size ∨ b = w.heap.size + 1 ∨ b = w1.heap.size) (w1.alloc (.cells #[.slice (some ⟨g, 0, none⟩) 512 n1] 23)) bb V) := by
    have h1 := HX.out.more (w' := w1.alloc (.cells #[.slice (some ⟨g, 0, none⟩) 512 n1] 23)) (K' := fun b => K b ∨ b = w.heap.size ∨ b = w.heap.size + 1 ∨ b = w1.heap.size) (HG1.out.trans (hal.mono HG1.out.size)) (fun b hb => by
      rcases hb with e | e | e | e
      · exact .inl e
      · exact .inr ⟨by omega, by simp; omega⟩
      · exact .inr ⟨by omega, by simp; omega⟩
      · exact .inr ⟨by omega, by simp; omega⟩)
    exact Lib.hid h1
  have hKlt : ∀ b, K b → b < w.heap.size := HX.out.lt
  have HSA := Lib.hid (HS.out.keep (w' := w1.alloc (.cells #[.slice (some ⟨g, 0, none⟩) 512 n1] 23)) (Below.heap_alloc w1 _ g hgl))
  have hb2 : w1.cell? ⟨bb, 0, none⟩ = some (.int .i64 V.n) := (HG1.out.cell (p := ⟨bb, 0, none⟩) hbl).trans e0
  have d1 := (World.cell?_alloc_lt w1 (.cells #[.slice (some ⟨g, 0, none⟩) 512 n1] 23) ⟨w.heap.size, 0, none⟩ (by show w.heap.size < _; omega)).trans hc1
  have d3 := (World.cell?_alloc_lt w1 (.cells #[.slice (some ⟨g, 0, none⟩) 512 n1] 23) ⟨db, 0, none⟩ (by show db < _; omega)).trans hc0
  clear hal
  go_wp2_with fail
  refine (act_v HKK.out (fun V' => V'.put x l) _ _ _ ?hdo).mono ?_
  case hdo =>
    intro w2 V1 hd1 ht1 hn1 hw1
    have hk2 : ∀ b, (K b ∨ b = w.heap.size ∨ b = w.heap.size + 1 ∨ b = w1.heap.size) → w2.heap[b]? = (w1.alloc (.cells #[.slice (some ⟨g, 0, none⟩) 512 n1] 23)).heap[b]? := fun b hb => ht1.block b (HKK.out.lt b hb) fun e => HKK.out.notK (e ▸ hb)
    have f0 : w2.cell? ⟨w1.heap.size, 0, none⟩ = some (SecV.val (g, n1, l)) := (World.cell?_of_block (hk2 _ (.inr (.inr (.inr rfl))))).trans (by simp [SecV.val])
    have f1 : w2.cell? ⟨w.heap.size, 0, none⟩ = some (.pointer (some ⟨db, 0, none⟩)) := (World.cell?_of_block (hk2 _ (.inr (.inl rfl)))).trans ((World.cell?_alloc_lt w1 _ ⟨w.heap.size, 0, none⟩ (by show w.heap.size < _; omega)).trans hc1)
    have f2 : w2.cell? ⟨w.heap.size + 1, 0, none⟩ = some (.int .i64 x) := (World.cell?_of_block (hk2 _ (.inr (.inr (.inl rfl))))).trans ((World.cell?_alloc_lt w1 _ ⟨w.heap.size + 1, 0, none⟩ (by show w.heap.size + 1 < _; omega)).trans hc2)
    have f3 : w2.cell? ⟨db, 0, none⟩ = some (.pointer (some ⟨bb, 0, none⟩)) := (World.cell?_of_block (hk2 _ (.inl kdb))).trans ((World.cell?_alloc_lt w1 _ ⟨db, 0, none⟩ (by show db < _; omega)).trans hc0)
    have hgb2 : g ≠ bb := by omega
    refine dwrite1_v hd1 x (g, n1, l) db _ _ _ h0 (by omega) (HSA.out.keep (ht1.block g (by simp; omega) hgb2)) ?_ (by rw [hw1]; exact hl) f0 f1 f2 f3 (.inr (.inr (.inr rfl))) (.inr (.inl rfl)) (.inr (.inr (.inl rfl))) (.inl kdb)
    rintro (e | e | e | e)
    · have := hKlt g e; omega
    · have e' : g = w.heap.size := e; omega
    · have e' : g = w.heap.size + 1 := e; omega
    · have e' : g = w1.heap.size := e; omega
  rintro e w3 ⟨rfl, hd3, hk3⟩
  have HX3 : Hid (Dk K w3 bb (V.act fun V' => V'.put x l).2) := Lib.hid (hd3.less fun b hb => .inl hb)
  have HK3 : Hid (Kept K w w3) := Lib.hid (((Kept.of_below HG1.out hKlt).trans (Kept.of_below ((Below.refl w1.heap.size w1).alloc (Nat.le_refl _) (.cells #[.slice (some ⟨g, 0, none⟩) 512 n1] 23)) fun b hb => Nat.lt_of_lt_of_le (hKlt b hb) HG1.out.size)).trans (hk3.mono fun b hb => .inl hb))
  clear hd3 hk3
  rcases hr : (V.act fun V' => V'.put x l).1 with _ | _
  all_goals
    go_wp2_with fail
    go_ret
    exact ⟨by rw [hr]; rfl, HX3.out, HK3.out⟩
end Go.Proofs.YteediemhcocgdaaDoor
