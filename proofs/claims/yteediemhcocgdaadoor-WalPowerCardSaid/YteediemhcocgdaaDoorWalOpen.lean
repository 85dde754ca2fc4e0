/-
  wal's Open.
-/
import Derived.Test.YteediemhcocgdaaDoorBlk
import Derived.Test.YteediemhcocgdaaDoorWalRound
namespace Go.Proofs.YteediemhcocgdaaDoor
open Go.RowKit Go.Shelf
open WalP (Stamp secs readR)
attribute [local go_sem] Oper.semAt_some

theorem Dk.now_len {K : Nat → Prop} {w : World} {bb : Nat} {V : DV} (h : Dk K w bb V) (x : Int) : (V.now x).length = 512 := by
  obtain ⟨⟨S, rfl, ha, hok, hf⟩, hl⟩ := h
  show (secL (S.nw x)).length = 512
  cases hx : S.nw x with
  | none => exact z512_length
  | some q => exact (ha.nat x q hx).1

/-- What Open answers, where it is carried out. -/
def OpenR (w : World) (L : LV) (ls : List (List UInt8)) (e : Ending) (w' : World) : Prop :=
  Below w.heap.size w w' ∧ ∃ lg v B Br, e = .returned (.tuple #[.pointer (some ⟨lg, 0, none⟩), v, .nilIface]) ∧ w.heap.size ≤ lg ∧ Blk w' lg 105 L.cells ∧ w.heap.size ≤ B ∧ lg < B ∧ Br ≤ w'.heap.size ∧ RowsAt w' B Br v ls

theorem Blk.newAt {w w' : World} {n : Nat} {t : TypeId} {cs : List Value} (hw : w.alloc (.cells cs.toArray t) = w') (hs : w.heap.size = n) : Blk w' n t cs := by
  rw [← hw, ← hs]
  exact Blk.new w t cs
set_option maxRecDepth 100000 in
theorem sects_make (db frm many x n : Nat) (w : World) (hn : w.heap.size = n) :
    Calls Tryd.prog 62 #[.pointer (some ⟨db, 0, none⟩), .int .i64 frm, .int .i64 many, .pointer (some ⟨x, 0, none⟩)] w fun e w' =>
      e = .returned (.func (.func 81) #[] #[.pointer (some ⟨n + 2, 0, none⟩), .pointer (some ⟨n, 0, none⟩), .pointer (some ⟨n + 1, 0, none⟩), .pointer (some ⟨n + 3, 0, none⟩)]) ∧
        Below n w w' ∧ w'.heap.size = n + 4 ∧ Blk w' n 49 [.pointer (some ⟨db, 0, none⟩)] ∧ Blk w' (n + 1) 3 [.int .i64 frm] ∧ Blk w' (n + 2) 3 [.int .i64 many] := by
  obtain ⟨a1, ha1⟩ : ∃ a1, w.alloc (.cells #[.pointer (some ⟨db, 0, none⟩)] 49) = a1 := ⟨_, rfl⟩
  have hs1 : a1.heap.size = n + 1 := by rw [← ha1]; simp [hn]
  obtain ⟨a2, ha2⟩ : ∃ a2, a1.alloc (.cells #[.int .i64 frm] 3) = a2 := ⟨_, rfl⟩
  have hs2 : a2.heap.size = n + 2 := by rw [← ha2]; simp [hs1]
  obtain ⟨a3, ha3⟩ : ∃ a3, a2.alloc (.cells #[.int .i64 many] 3) = a3 := ⟨_, rfl⟩
  have hs3 : a3.heap.size = n + 3 := by rw [← ha3]; simp [hs2]
  go_enter Tryd.func62, Tryd.ntmps62
  go_wp2_with fail
  go_ret
  refine ⟨rfl, ?_, by simp [hs3], ?_, ?_, ?_⟩
  · rw [← ha3, ← ha2, ← ha1]
    exact ((((Below.refl n w).alloc (by omega) _).alloc (by simp; omega) _).alloc (by simp; omega) _).alloc (by simp; omega) _
  · have h1 := (Blk.newAt (cs := [.pointer (some ⟨db, 0, none⟩)]) ha1 hn).alloc (.cells #[.int .i64 frm] 3)
    rw [ha2] at h1
    have h2 := h1.alloc (.cells #[.int .i64 many] 3)
    rw [ha3] at h2
    exact h2.alloc _
  · have h1 := (Blk.newAt (cs := [.int .i64 frm]) ha2 hs1).alloc (.cells #[.int .i64 many] 3)
    rw [ha3] at h1
    exact h1.alloc _
  · exact (Blk.newAt (cs := [.int .i64 many]) ha3 hs2).alloc _

set_option maxHeartbeats 4000000 in
set_option maxRecDepth 100000 in
theorem wopen_v {K : Nat → Prop} {w : World} {bb : Nat} {V : DV} (h : Dk K w bb V) (db frm many ep : Nat) (hdb : w.cell? ⟨db, 0, none⟩ = some (.pointer (some ⟨bb, 0, none⟩)))
    (hn : Nib w) (h0 : 0 < w.heap.size) (hm1 : 1 ≤ many) (hmM : many ≤ 1073741824) (hfn : ((frm + many : Nat) : Int) ≤ V.n) (he1 : 1 ≤ ep) (heM : ep ≤ 1099511627776) (hdn : V.down = false) :
    Calls Tryd.prog 37 #[.pointer (some ⟨db, 0, none⟩), .int .i64 frm, .int .i64 many, .int .i64 ep] w
      (OpenR w ⟨db, frm, many, ep, (found ep (fun k => V.now ((frm + k : Nat) : Int)) many).out.length, (found ep (fun k => V.now ((frm + k : Nat) : Int)) many).used, false⟩ (found ep (fun k => V.now ((frm + k : Nat) : Int)) many).out) := by
  have hM := h.ok.2.2.2
  have hV0 := h.cell0
  have HX := Lib.hid h
  have HN := Lib.hid hn
  have hwr : IntKind.i64.wrap (V.n - (frm : Int)) = V.n - frm := IntWalk.i64_in _ (by omega)
  have hdb1 : (w.alloc (.cells #[.int .i64 ep] 3)).cell? ⟨db, 0, none⟩ = some (.pointer (some ⟨bb, 0, none⟩)) := (World.cell?_alloc_lt _ _ _ (cell_lt hdb)).trans hdb
  have hV1 : (w.alloc (.cells #[.int .i64 ep] 3)).cell? ⟨bb, 0, none⟩ = some (.int .i64 V.n) := (World.cell?_alloc_lt _ _ _ (cell_lt hV0)).trans hV0
  have hc1 : ¬ (frm : Int) < 0 := by omega
  have hc2 : ¬ (many : Int) < 1 := by omega
  have hc3 : ¬ V.n < (frm : Int) := by omega
  have hc4 : ¬ V.n - (frm : Int) < (many : Int) := by omega
  have hc5 : ¬ (ep : Int) < 1 := by omega
  have hc6 : ¬ (1099511627776 : Int) < (ep : Int) := by omega
  obtain ⟨a1, ha1⟩ : ∃ a1, w.alloc (.cells #[.int .i64 ep] 3) = a1 := ⟨_, rfl⟩
  have hs1 : a1.heap.size = w.heap.size + 1 := by rw [← ha1]; simp
  have g1 := Blk.newAt (cs := [.int .i64 ep]) ha1 rfl
  obtain ⟨a2, ha2⟩ : ∃ a2, a1.alloc (.cells #[.pointer (some ⟨db, 0, none⟩), .int .i64 frm, .int .i64 many, .int .i64 ep, .int .i64 0, .int .i64 0, .bool false] 105) = a2 := ⟨_, rfl⟩
  have hs2 : a2.heap.size = w.heap.size + 2 := by rw [← ha2]; simp [hs1]
  have g2 := Blk.newAt (cs := [.pointer (some ⟨db, 0, none⟩), .int .i64 frm, .int .i64 many, .int .i64 ep, .int .i64 0, .int .i64 0, .bool false]) ha2 hs1
  replace g1 := g1.alloc (.cells #[.pointer (some ⟨db, 0, none⟩), .int .i64 frm, .int .i64 many, .int .i64 ep, .int .i64 0, .int .i64 0, .bool false] 105)
  rw [ha2] at g1
  obtain ⟨a3, ha3⟩ : ∃ a3, a2.alloc (.cells #[.pointer (some ⟨w.heap.size + 1, 0, none⟩)] 56) = a3 := ⟨_, rfl⟩
  have hs3 : a3.heap.size = w.heap.size + 3 := by rw [← ha3]; simp [hs2]
  have g3 := Blk.newAt (cs := [.pointer (some ⟨w.heap.size + 1, 0, none⟩)]) ha3 hs2
  replace g1 := g1.alloc (.cells #[.pointer (some ⟨w.heap.size + 1, 0, none⟩)] 56)
  rw [ha3] at g1
  replace g2 := g2.alloc (.cells #[.pointer (some ⟨w.heap.size + 1, 0, none⟩)] 56)
  rw [ha3] at g2
  obtain ⟨a4, ha4⟩ : ∃ a4, a3.alloc (.cells #[.slice none 0 0] 36) = a4 := ⟨_, rfl⟩
  have hs4 : a4.heap.size = w.heap.size + 4 := by rw [← ha4]; simp [hs3]
  have g4 := Blk.newAt (cs := [.slice none 0 0]) ha4 hs3
  replace g1 := g1.alloc (.cells #[.slice none 0 0] 36)
  rw [ha4] at g1
  replace g2 := g2.alloc (.cells #[.slice none 0 0] 36)
  rw [ha4] at g2
  replace g3 := g3.alloc (.cells #[.slice none 0 0] 36)
  rw [ha4] at g3
  obtain ⟨a5, ha5⟩ : ∃ a5, a4.alloc (.cells #[.slice none 0 0] 23) = a5 := ⟨_, rfl⟩
  have hs5 : a5.heap.size = w.heap.size + 5 := by rw [← ha5]; simp [hs4]
  have g5 := Blk.newAt (cs := [.slice none 0 0]) ha5 hs4
  replace g1 := g1.alloc (.cells #[.slice none 0 0] 23)
  rw [ha5] at g1
  replace g2 := g2.alloc (.cells #[.slice none 0 0] 23)
  rw [ha5] at g2
  replace g3 := g3.alloc (.cells #[.slice none 0 0] 23)
  rw [ha5] at g3
  replace g4 := g4.alloc (.cells #[.slice none 0 0] 23)
  rw [ha5] at g4
  obtain ⟨a6, ha6⟩ : ∃ a6, a5.alloc (.cells #[.int .i64 0] 3) = a6 := ⟨_, rfl⟩
  have hs6 : a6.heap.size = w.heap.size + 6 := by rw [← ha6]; simp [hs5]
  have g6 := Blk.newAt (cs := [.int .i64 0]) ha6 hs5
  replace g1 := g1.alloc (.cells #[.int .i64 0] 3)
  rw [ha6] at g1
  replace g2 := g2.alloc (.cells #[.int .i64 0] 3)
  rw [ha6] at g2
  replace g3 := g3.alloc (.cells #[.int .i64 0] 3)
  rw [ha6] at g3
  replace g4 := g4.alloc (.cells #[.int .i64 0] 3)
  rw [ha6] at g4
  replace g5 := g5.alloc (.cells #[.int .i64 0] 3)
  rw [ha6] at g5
  obtain ⟨a7, ha7⟩ : ∃ a7, a6.alloc (.cells #[.int .i64 0] 3) = a7 := ⟨_, rfl⟩
  have hs7 : a7.heap.size = w.heap.size + 7 := by rw [← ha7]; simp [hs6]
  have g7 := Blk.newAt (cs := [.int .i64 0]) ha7 hs6
  replace g1 := g1.alloc (.cells #[.int .i64 0] 3)
  rw [ha7] at g1
  replace g2 := g2.alloc (.cells #[.int .i64 0] 3)
  rw [ha7] at g2
  replace g3 := g3.alloc (.cells #[.int .i64 0] 3)
  rw [ha7] at g3
  replace g4 := g4.alloc (.cells #[.int .i64 0] 3)
  rw [ha7] at g4
  replace g5 := g5.alloc (.cells #[.int .i64 0] 3)
  rw [ha7] at g5
  replace g6 := g6.alloc (.cells #[.int .i64 0] 3)
  rw [ha7] at g6
  obtain ⟨a8, ha8⟩ : ∃ a8, a7.alloc (.cells #[.nilIface] 46) = a8 := ⟨_, rfl⟩
  have hs8 : a8.heap.size = w.heap.size + 8 := by rw [← ha8]; simp [hs7]
  have g8 := Blk.newAt (cs := [.nilIface]) ha8 hs7
  replace g1 := g1.alloc (.cells #[.nilIface] 46)
  rw [ha8] at g1
  replace g2 := g2.alloc (.cells #[.nilIface] 46)
  rw [ha8] at g2
  replace g3 := g3.alloc (.cells #[.nilIface] 46)
  rw [ha8] at g3
  replace g4 := g4.alloc (.cells #[.nilIface] 46)
  rw [ha8] at g4
  replace g5 := g5.alloc (.cells #[.nilIface] 46)
  rw [ha8] at g5
  replace g6 := g6.alloc (.cells #[.nilIface] 46)
  rw [ha8] at g6
  replace g7 := g7.alloc (.cells #[.nilIface] 46)
  rw [ha8] at g7
  have hbel : Below w.heap.size w a8 := by
    rw [← ha8, ← ha7, ← ha6, ← ha5, ← ha4, ← ha3, ← ha2, ← ha1]
    exact ((((((((Below.refl _ w).alloc (by simp) _).alloc (by simp) _).alloc (by simp; omega) _).alloc (by simp; omega) _).alloc (by simp; omega) _).alloc (by simp; omega) _).alloc (by simp; omega) _).alloc (by simp; omega) _
  have G1 := Lib.hid g1
  have G2 := Lib.hid g2
  have G3 := Lib.hid g3
  have G4 := Lib.hid g4
  have G5 := Lib.hid g5
  have G6 := Lib.hid g6
  have G7 := Lib.hid g7
  have G8 := Lib.hid g8
  have HBEL := Lib.hid hbel
  have HA1 := Lib.hid ha1
  have HA2 := Lib.hid ha2
  have HA3 := Lib.hid ha3
  have HA4 := Lib.hid ha4
  have HA5 := Lib.hid ha5
  have HA6 := Lib.hid ha6
  have HA7 := Lib.hid ha7
  have HA8 := Lib.hid ha8
  have HS1 := Lib.hid hs1
  have HS2 := Lib.hid hs2
  have HS3 := Lib.hid hs3
  have HS4 := Lib.hid hs4
  have HS5 := Lib.hid hs5
  have HS6 := Lib.hid hs6
  have HS7 := Lib.hid hs7
  have HS8 := Lib.hid hs8
  clear hs1 hs2 hs3 hs4 hs5 hs6 hs7 hs8 ha1 ha2 ha3 ha4 ha5 ha6 ha7 ha8 h hn hbel g1 g2 g3 g4 g5 g6 g7 g8
  refine callsIn_wide.1 (callsIn_of_wp_marks (F := Fence.wide) (n := 3) Tryd.func37 rfl trivial ?_)
  simp only [Tryd.ntmps37, List.size_toArray, List.length_cons, List.length_nil, Nat.reduceAdd, Nat.reduceSub, Array.replicate_succ, Array.replicate_zero, List.push_toArray, List.append_toArray, List.nil_append, List.cons_append]
  gi_wp2
  refine ⟨trivial, ?_⟩
  refine (callsIn_wide.2 (sectors_any db bb V.n _ hdb1 hV1)).mono ?_
  rintro e w1 ⟨rfl, rfl⟩
  gi_wp2
  simp only [Nat.add_assoc, Nat.reduceAdd]
  rw [HA1.out, HA2.out, HA3.out, HA4.out, HA5.out, HA6.out, HA7.out, HA8.out]
  have hs8 := HS8.out
  refine ⟨trivial, ?_⟩
  refine (callsIn_wide.2 (sects_make db frm many (w.heap.size + 7) (w.heap.size + 8) a8 hs8)).mono ?_
  rintro e a9 ⟨rfl, k1, k2, k3, k4, k5⟩
  have HK1 := Lib.hid k1
  have HK3 := Lib.hid k3
  have HK4 := Lib.hid k4
  have HK5 := Lib.hid k5
  clear k1 k3 k4 k5 hs8
  gi_wp2
  have HB9 : Hid (Below w.heap.size w a9) := Lib.hid (HBEL.out.trans (HK1.out.mono (by omega)))
  have HST0 : Hid (St w.heap.size db frm many ep a9 .start (.slice none 0 0) none 0 (w.heap.size + 12)) := Lib.hid
    ⟨G1.out.below HK1.out (by omega), G2.out.below HK1.out (by omega), G3.out.below HK1.out (by omega), G4.out.below HK1.out (by omega), G5.out.below HK1.out (by omega), G6.out.below HK1.out (by omega), G7.out.below HK1.out (by omega), G8.out.below HK1.out (by omega), HK3.out, HK4.out, ⟨by omega, by omega⟩, Own.none_ _ _, RowsAt.nil _ _ _⟩
  exact range_v 3 (w.heap.size + 10) (w.heap.size + 8) (w.heap.size + 9) (w.heap.size + 11) many frm db bb K V (by simp [go_sem]) rfl (fun _ _ => by simp [go_sem])
    (OpenJ w.heap.size db frm many ep w (fun k => V.now ((frm + k : Nat) : Int))) (OpenX w.heap.size db frm many ep w (fun k => V.now ((frm + k : Nat) : Int)))
    (fun j W W' row hs hg hr => by
      obtain ⟨h1, s, v, A, c, Br, h2, h3⟩ := hs
      exact ⟨h1.grown hg h1.size fun x hx => by have := (hr x hx).1; have := HB9.out.size; omega, s, v, A, c, Br, h2, h3.cl (.of_grown hg fun r hrr => (hr r hrr).2)⟩)
    (fun j W W' row hs hg hr => by
      obtain ⟨h0, h1, k, s, v, h2, h3, h4, h5⟩ := hs
      exact ⟨h0, h1.grown hg h1.size fun x hx => by have := (hr x hx).1; have := HB9.out.size; omega, k, s, v, h2, h3, h4, h5.cl (.of_grown hg fun r hrr => (hr r hrr).2)⟩)
    (fun k W hs => by
      obtain ⟨h1, s, v, A, c, Br, h2, h3⟩ := hs
      exact ⟨HX.out.keep h1, h3.dx.cell 0, h3.fx.cell 0, (h1.cell (p := ⟨db, 0, none⟩) (cell_lt hdb)).trans hdb⟩)
    ⟨HB9.out, _, _, _, _, _, rfl, HST0.out⟩ (HK5.out.cell 0) hdn hfn _
    (by
      intro l k g W K' hK
      have HK := Lib.hid hK
      clear hK
      gi_wp2
      exact HK.out)
    (by
      intro l k g W hJ hk hg hb
      exact open_round _ l w.heap.size db frm many ep k g w (fun k => V.now ((frm + k : Nat) : Int)) _ _ _ _ _ _ _ _ _ _ _ _ _ _ _ _ _ _ _ _ _ _ _ _ _ _ _ _ _ _ _ _ _ _ _ _ _ _ _ _ _ _ _ _ _ _ _ _ _ _ _ _ _ _ _ _ _ _ _ _ _ _ _ _ _ _ _ _ _ _ _ _ _ _ _ _ _ _ _ _ _ _ _ _ _ _ _ _ _ _ _ _ _ _ _ _ _ _ _ _ _ _ _ _ _ _ _ _ _ _ _ _ _ _ _ _ _ _ _ _ _ _ _ _ _ _ _ _ _ _ _ _ _ _ _ _
        W (Nat.le_refl _) HN.out h0 hJ hk hmM (by have := HB9.out.size; omega) hb (HX.out.now_len _))
    (by
      intro D W hD hJ hW
      obtain ⟨h1, s, v, A, c, Br, h2, h3⟩ := hJ
      have hx := h3.x
      have hfd := found_all h2
      clear h3 h2
      have c7 : W.cell? ⟨w.heap.size + 7, 0, none⟩ = some .nilIface := hx.xb.cell 0
      have c2 : W.drew.cell? ⟨w.heap.size + 2, 0, none⟩ = some (.pointer (some ⟨w.heap.size + 1, 0, none⟩)) := hx.lx.cell 0
      have c3 : W.drew.cell? ⟨w.heap.size + 3, 0, none⟩ = some v := hx.ob.cell 0
      have HXX := Lib.hid hx
      have H1 := Lib.hid h1
      have HW := Lib.hid hW
      clear hx h1 hW
      gi_wp2
      gi_region
      all_goals gi_wp2
      have hW' : W.drew.heap[D]? = some (.deferred (some [])) := HW.out
      have hgp := grownBy_putObj' W.drew D (.deferred none)
      have hcl : Cl W.drew (W.drew.putObj D (.deferred none)) := .of_grown hgp fun r hr => by cases hr; exact ⟨_, hW', rfl⟩
      have hx9 := (HXX.out.cl (W' := W.drew) (.of_below (Below.refl _ _).drew)).cl hcl
      have hb9 : Below w.heap.size w (W.drew.putObj D (.deferred none)) := H1.out.drew.grown hgp H1.out.size fun r hr => by cases hr; have := HB9.out.size; omega
      refine ⟨by simp, .inl ⟨D, _, rfl, run_takeDeferred hW', ?_⟩⟩
      show LeavesIn _ _ _ _ _ _ _ _ _
      refine ⟨_, by simp [results, Tryd.results37, go_sem]; rfl, hb9, w.heap.size + 1, v, w.heap.size + 12, ?_⟩
      obtain ⟨Br9, hBr9, hr9⟩ := hx9.out
      rw [hfd]
      exact ⟨Br9, rfl, by omega, hx9.lg, by omega, by omega, hBr9, hr9⟩)
    (by
      intro D id W hD hJ hW
      obtain ⟨rfl, h1, k, s, v, hk, h2, h3, hx⟩ := hJ
      have hfd := found_cut h2 h3 hk
      clear h2 h3
      have c7 : W.cell? ⟨w.heap.size + 7, 0, none⟩ = some .nilIface := hx.xb.cell 0
      have c2 : W.drew.cell? ⟨w.heap.size + 2, 0, none⟩ = some (.pointer (some ⟨w.heap.size + 1, 0, none⟩)) := hx.lx.cell 0
      have c3 : W.drew.cell? ⟨w.heap.size + 3, 0, none⟩ = some v := hx.ob.cell 0
      have HXX := Lib.hid hx
      have H1 := Lib.hid h1
      have HW := Lib.hid hW
      clear hx h1 hW
      gi_wp2
      gi_region
      all_goals gi_wp2
      have hW' : W.drew.heap[D]? = some (.deferred (some [])) := HW.out
      have hgp := grownBy_putObj' W.drew D (.deferred none)
      have hcl : Cl W.drew (W.drew.putObj D (.deferred none)) := .of_grown hgp fun r hr => by cases hr; exact ⟨_, hW', rfl⟩
      have hx9 := (HXX.out.cl (W' := W.drew) (.of_below (Below.refl _ _).drew)).cl hcl
      have hb9 : Below w.heap.size w (W.drew.putObj D (.deferred none)) := H1.out.drew.grown hgp H1.out.size fun r hr => by cases hr; have := HB9.out.size; omega
      refine ⟨by simp, .inl ⟨D, _, rfl, run_takeDeferred hW', ?_⟩⟩
      show LeavesIn _ _ _ _ _ _ _ _ _
      refine ⟨_, by simp [results, Tryd.results37, go_sem]; rfl, hb9, w.heap.size + 1, v, w.heap.size + 12, ?_⟩
      obtain ⟨Br9, hBr9, hr9⟩ := hx9.out
      rw [hfd]
      exact ⟨Br9, rfl, by omega, hx9.lg, by omega, by omega, hBr9, hr9⟩)
end Go.Proofs.YteediemhcocgdaaDoor
