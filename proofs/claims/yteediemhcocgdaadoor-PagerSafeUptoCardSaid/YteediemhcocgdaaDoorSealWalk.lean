/-
  sum.tail, Seal, Open and what they call, as the walk has it.
-/
import Derived.Test.YteediemhcocgdaaDoorSumWalk
namespace Go.Proofs.YteediemhcocgdaaDoor
open Go.RowKit

theorem Nib.below {w w' : World} {B : Nat} (h : Nib w) (hb : Below B w w') (hB : 0 < B) : Nib w' := fun i hi => (hb.cell (p := ⟨0, i, none⟩) hB).trans (h i hi)

/-- The four bytes as an array's value. -/
def a4 (s : Nat) : Array Value := ((SumP.t4 s).map cu8).toArray
theorem a4_eq (s : Nat) (hs : s < 2 ^ 32) : a4 s = #[.int .u8 (((s : Int) % 256)), .int .u8 ((s : Int) / 256 % 256), .int .u8 ((s : Int) / 65536 % 256), .int .u8 ((s : Int) / 16777216)] := by
  have h : ∀ x : Nat, ((UInt8.ofNat x).toNat : Int) = (x : Int) % 256 := fun x => by rw [UInt8.toNat_ofNat']; omega
  have hx : ((s / 16777216 : Nat) : Int) % 256 = (s : Int) / 16777216 := by omega
  simp only [a4, SumP.t4, List.map_cons, List.map_nil, cu8, h, hx]
  rfl

set_option maxRecDepth 100000 in
theorem tail_any (B : Nat) (A : Option Addr) (c : Nat) (l : List UInt8) (w : World) (hb : Byt w B A l) (hB : B ≤ w.heap.size) (hn : Nib w) (hl : l.length ≤ 9223372036854775807) (h0 : 0 < w.heap.size) :
    Calls Tryd.prog 54 #[.slice A l.length c] w fun e w' => e = .returned (.agg (a4 (SumP.sum l))) ∧ Below w.heap.size w w' := by
  have hlt := SumP.sum_lt l
  go_enter Tryd.func54, Tryd.ntmps54
  go_wp2_with fail
  refine (sum_any B A c l _ (hb.below ((Below.refl B w).alloc hB _)) (hn.below ((Below.refl _ w).alloc (Nat.le_refl _) _) h0) hl).mono ?_
  rintro e w' ⟨rfl, rfl⟩
  obtain ⟨s, HS⟩ : ∃ s, Hid (SumP.sum l = s) := ⟨_, rfl⟩
  rw [HS.out] at hlt ⊢
  go_wp2_with fail
  exact bodyPost_ret (v := .agg (a4 s)) (by simp [results, Tryd.results54, go_sem, a4_eq s hlt]) rfl ⟨by rw [HS.out], (Below.refl _ _).alloc (Nat.le_refl _) _⟩

theorem clip_any (A : Option Addr) (n c : Nat) (w : World) (hn : n ≤ c) (_hc : c ≤ 9223372036854775807) :
    Calls Tryd.prog 55 #[.slice A n c] w fun e w' => e = .returned (.slice A n n) ∧ w = w' := by
  go_enter Tryd.func55, Tryd.ntmps55
  go_wp2_with fail
  go_ret
  exact ⟨rfl, rfl⟩

set_option maxRecDepth 100000 in
theorem grow_none (n : Nat) (w : World) (hn : n ≤ 140737488355328) :
    Calls Tryd.prog 77 #[.slice none 0 0, .int .i64 n] w fun e w' => ∃ A c, e = .returned (.slice A 0 c) ∧ Own w' w.heap.size A c [] ∧ Below w.heap.size w w' := by
  by_cases hz : n = 0
  · subst hz
    go_enter Tryd.func77, Tryd.ntmps77
    go_wp2_with fail
    go_ret
    exact ⟨none, 0, rfl, Own.none_ _ _, Below.refl _ _⟩
  · obtain ⟨i0, hi, hz0, hz1, hz2⟩ := info_parts u8_info
    have hrz := fun ty => Lib.run_append_grow_zeros (P := Tryd.prog) w 23 3 ty 5 i0 (.int .u8 0) .i64 .i64 Tryd.underlying23 Tryd.underlying3 hi hz0 none 0 0 []
      (by simp [Builtin.firstCells]) n (by omega) (by omega) (by omega) (by omega) (by rw [hz2]; omega) (growslice_fits (by omega) (by rw [hz2]; omega))
    have hG := grownCap_le_maxLen w (0 + n) 0 5 (by unfold maxLen; omega)
    have hGn := grownCap_ge w (0 + n) 0 5
    simp only [Nat.zero_add] at hrz hG hGn
    generalize grownCap w n 0 5 = G at hrz hG hGn
    have HG := Lib.hid hG
    clear hG hi hz0 hz1 hz2
    go_enter Tryd.func77, Tryd.ntmps77
    go_wp2_with (at_builtin; refine Lib.wpList_append_run _ rfl _ _ _ _ rfl _ _ rfl rfl _ _ (hrz _) ?_)
    go_ret
    refine ⟨_, _, rfl, ?_, ((Below.refl _ _).alloc (Nat.le_refl _) _).drew⟩
    exact World.ownsRow_made (size := 1) w _ G (Nat.le_refl _) HG.out (by simp [size_zeroCells]; omega)

/-- So many of the rows, one behind the other. -/
def cat (rs : List (Option Addr × Nat × List UInt8)) (k : Nat) : List UInt8 := ((rs.take k).map (·.2.2)).flatten
theorem cat_succ (rs : List (Option Addr × Nat × List UInt8)) (k : Nat) (r : Option Addr × Nat × List UInt8) (h : rs[k]? = some r) : cat rs (k + 1) = cat rs k ++ r.2.2 := by
  obtain ⟨hk, rfl⟩ := List.getElem?_eq_some_iff.1 h
  unfold cat
  rw [List.take_succ_eq_append_getElem hk, List.map_append, List.flatten_append]
  simp
theorem cat_le (rs : List (Option Addr × Nat × List UInt8)) (k : Nat) : (cat rs k).length ≤ (cat rs rs.length).length := by
  have h : rs = rs.take k ++ rs.drop k := (List.take_append_drop k rs).symm
  unfold cat
  rw [List.take_length]
  conv => rhs; rw [h]
  rw [List.map_append, List.flatten_append, List.length_append]
  omega

set_option maxRecDepth 100000 in
theorem concat_any (B g off : Nat) (c : Nat) (rs : List (Option Addr × Nat × List UInt8)) (w : World) (hg : g < B) (hB : B ≤ w.heap.size) (hlen : rs.length ≤ 1000)
    (hcell : ∀ k r, rs[k]? = some r → w.cell? ⟨g, off + k, none⟩ = some (.slice r.1 r.2.2.length r.2.1)) (hbyt : ∀ (k : Nat) (r : Option Addr × Nat × List UInt8), rs[k]? = some r → Byt w B r.1 r.2.2)
    (hsum : (cat rs rs.length).length ≤ 140737488355328) :
    Calls Tryd.prog 56 #[.slice (some ⟨g, off, none⟩) rs.length c] w fun e w' => ∃ A n, e = .returned (.slice A (cat rs rs.length).length n) ∧ Own w' w.heap.size A n (cat rs rs.length) ∧ Below w.heap.size w w' := by
  have HS := Lib.hid hsum
  have HC := Lib.hid hcell
  have HY := Lib.hid hbyt
  clear hsum hcell hbyt
  go_enter Tryd.func56, Tryd.ntmps56
  go_wp2_with fail
  go_loop [3, 11] (fun s i => ∃ k : Nat, k ≤ rs.length ∧ i = .int .i64 k ∧ s = .int .i64 (cat rs k).length) (fun _ i => rs.length - (intOf i).toNat)
  case atStart => exact ⟨0, Nat.zero_le _, rfl, rfl⟩
  case round =>
    obtain ⟨k, hk, rfl, rfl⟩ := hrel
    by_cases hlt : k < rs.length
    · obtain ⟨r, hr⟩ : ∃ r, rs[k]? = some r := ⟨_, List.getElem?_eq_getElem hlt⟩
      have hc := HC.out k r hr
      have h1 := cat_succ rs k r hr
      have h2 := cat_le rs (k + 1)
      have h3 := HS.out
      rw [h1, List.length_append] at h2
      have hb : (cat rs k).length + r.2.2.length ≤ 140737488355328 := by omega
      have H1 := Lib.hid h1
      have HR := Lib.hid hr
      clear h1 h2 h3 hr
      go_wp2_with fail
      exact ⟨⟨k + 1, by omega, by go_num, by rw [H1.out, List.length_append]; go_num⟩, by simp [intOf]; omega⟩
    · obtain rfl : k = rs.length := by omega
      have hb := HS.out
      go_wp2_with fail
      refine (grow_none (cat rs rs.length).length _ hb).mono ?_
      rintro e w1 ⟨A, n, rfl, hown, hbel⟩
      have HO : Hid (Own w1 w.heap.size A n (cat rs 0)) := hown
      have HB := Lib.hid hbel
      clear hown hbel hlt hk hb
      go_wp2_with fail
      go_loopw [6, 27] (fun v i wr => ∃ (k : Nat) (A : Option Addr) (n : Nat), k ≤ rs.length ∧ i = .int .i64 k ∧ v = .slice A (cat rs k).length n ∧ Own wr w.heap.size A n (cat rs k) ∧ Below w.heap.size w wr) (fun _ i _ => rs.length - (intOf i).toNat)
      case atStart => exact ⟨0, A, n, Nat.zero_le _, rfl, rfl, HO.out, HB.out⟩
      case round =>
        obtain ⟨k, A, n, hk, rfl, rfl, hown, hbel⟩ := hrel
        by_cases hlt : k < rs.length
        · obtain ⟨r, hr⟩ : ∃ r, rs[k]? = some r := ⟨_, List.getElem?_eq_getElem hlt⟩
          have hc : wr.cell? ⟨g, off + k, none⟩ = some (.slice r.1 r.2.2.length r.2.1) := (hbel.cell (p := ⟨g, off + k, none⟩) (Nat.lt_of_lt_of_le hg hB)).trans (HC.out k r hr)
          have h1 := cat_succ rs k r hr
          have h2 := cat_le rs (k + 1)
          have h3 := HS.out
          rw [h1, List.length_append] at h2
          have hb : (cat rs k).length + r.2.2.length ≤ 140737488355328 := by omega
          have hby : Byt wr B r.1 r.2.2 := (HY.out k r hr).below (hbel.mono hB)
          have H1 := Lib.hid h1
          have HR := Lib.hid hr
          have HL := Lib.hid hbel
          clear h1 h2 h3 hr
          go_wp2_with (at_builtin; refine wp_append_bytes rfl _ _ rfl w.heap.size A n (cat rs k) B r.1 r.2.1 r.2.2 rfl rfl hown hby hb HL.out.size ?_; intro A' n' w' hown' hg' hat')
          refine ⟨⟨k + 1, A', n', by omega, by go_num, by rw [H1.out, List.length_append], by rw [H1.out]; exact hown', hown.grown_below HL.out hg' HL.out.size⟩, by simp [intOf]; omega⟩
        · obtain rfl : k = rs.length := by omega
          have HO := Lib.hid hown
          have HL := Lib.hid hbel
          clear hown hbel
          go_wp2_with fail
          go_ret
          exact ⟨A, n, rfl, HO.out, HL.out⟩

theorem a4_cell (s : Nat) (i : Nat) (hi : i < 4) : (a4 s)[i]? = some (.int .u8 (((SumP.t4 s).getD i 0).toNat : Int)) := by
  have hl : (SumP.t4 s).length = 4 := rfl
  unfold a4
  rw [List.getElem?_toArray, List.getElem?_map, List.getD_eq_getElem?_getD, List.getElem?_eq_getElem (by omega)]
  rfl

set_option maxRecDepth 100000 in
theorem seal_any (B : Nat) (A : Option Addr) (c : Nat) (l : List UInt8) (w : World) (hb : Byt w B A l) (hB : B ≤ w.heap.size) (hn : Nib w) (hl : l.length ≤ 140737488355324) (h0 : 0 < w.heap.size) :
    Calls Tryd.prog 19 #[.slice A l.length c] w fun e w' =>
      ∃ A', e = .returned (.slice A' (SumP.sealed l).length (SumP.sealed l).length) ∧ Fresh w' w.heap.size A' (SumP.sealed l) ∧ Below w.heap.size w w' := by
  have hlt := SumP.sum_lt l
  go_enter Tryd.func19, Tryd.ntmps19
  go_wp2_with fail
  refine (tail_any B A c l w hb hB hn (by omega) h0).mono ?_
  rintro e w1 ⟨rfl, hb1⟩
  have HB1 := Lib.hid hb1
  clear hb1
  have h1 : w.heap.size ≤ w1.heap.size := HB1.out.size
  obtain ⟨x0, x1, x2, x3, HX⟩ : ∃ x0 x1 x2 x3 : Int, Hid (a4 (SumP.sum l) = #[.int .u8 x0, .int .u8 x1, .int .u8 x2, .int .u8 x3]) := ⟨_, _, _, _, rfl⟩
  rw [HX.out]
  go_wp2_with fail
  have hblk0 := (Blk.new w1 39 [Value.int .u8 x0, .int .u8 x1, .int .u8 x2, .int .u8 x3]).alloc (.cells #[Value.slice A l.length c, Value.slice (some ⟨w1.heap.size, 0, none⟩) 4 4] 23)
  have hblk1 := Blk.new (w1.alloc (.cells #[Value.int .u8 x0, .int .u8 x1, .int .u8 x2, .int .u8 x3] 39)) 23 [Value.slice A l.length c, Value.slice (some ⟨w1.heap.size, 0, none⟩) 4 4]
  have hbel : Below w.heap.size w ((w1.alloc (.cells #[Value.int .u8 x0, .int .u8 x1, .int .u8 x2, .int .u8 x3] 39)).alloc (.cells #[Value.slice A l.length c, Value.slice (some ⟨w1.heap.size, 0, none⟩) 4 4] 23)) :=
    (HB1.out.alloc h1 _).alloc (by simp; omega) _
  have hsz : ((w1.alloc (.cells #[Value.int .u8 x0, .int .u8 x1, .int .u8 x2, .int .u8 x3] 39)).alloc (.cells #[Value.slice A l.length c, Value.slice (some ⟨w1.heap.size, 0, none⟩) 4 4] 23)).heap.size = w1.heap.size + 2 := by simp
  have hs1 : (w1.alloc (.cells #[Value.int .u8 x0, .int .u8 x1, .int .u8 x2, .int .u8 x3] 39)).heap.size = w1.heap.size + 1 := by simp
  rw [hs1] at hblk1
  generalize (w1.alloc (.cells #[Value.int .u8 x0, .int .u8 x1, .int .u8 x2, .int .u8 x3] 39)).alloc (.cells #[Value.slice A l.length c, Value.slice (some ⟨w1.heap.size, 0, none⟩) 4 4] 23) = W at hblk0 hblk1 hbel hsz ⊢
  have hrs : cat [(A, c, l), (some ⟨w1.heap.size, 0, none⟩, 4, SumP.t4 (SumP.sum l))] 2 = SumP.sealed l := by simp [cat, SumP.sealed]
  refine (concat_any (w1.heap.size + 2) (w1.heap.size + 1) 0 2 [(A, c, l), (some ⟨w1.heap.size, 0, none⟩, 4, SumP.t4 (SumP.sum l))] W (by omega) (by omega) (by simp) ?hcell ?hbyt ?hsum).mono ?_
  case hcell =>
    intro k r hr
    rw [hblk1.cell]
    match k, hr with
    | 0, hr => obtain rfl := Option.some.inj hr; rfl
    | 1, hr => obtain rfl := Option.some.inj hr; rfl
    | k + 2, hr => simp at hr
  case hbyt =>
    intro k r hr
    match k, hr with
    | 0, hr => obtain rfl := Option.some.inj hr; exact ((hb.more hB).below hbel).more (by omega)
    | 1, hr =>
      obtain rfl := Option.some.inj hr
      intro _
      refine ⟨_, 0, rfl, by omega, fun i hi => ?_⟩
      have h4 := a4_cell (SumP.sum l) i hi
      rw [HX.out] at h4
      rw [hblk0.cell, Nat.zero_add, ← h4]
      simp
    | k + 2, hr => simp at hr
  case hsum =>
    show (cat [(A, c, l), (some ⟨w1.heap.size, 0, none⟩, 4, SumP.t4 (SumP.sum l))] 2).length ≤ _
    rw [hrs, SumP.sealed_length]
    omega
  rintro e w2 ⟨A', n, rfl, hown, hb2⟩
  replace hown : Own w2 W.heap.size A' n (SumP.sealed l) := hrs ▸ hown
  rw [show (cat [(A, c, l), (some ⟨w1.heap.size, 0, none⟩, 4, SumP.t4 (SumP.sum l))] [(A, c, l), (some ⟨w1.heap.size, 0, none⟩, 4, SumP.t4 (SumP.sum l))].length) = SumP.sealed l from hrs]
  have hle := hown.len_le
  have HO := Lib.hid hown
  have HB2 := Lib.hid (hbel.trans (hb2.mono (by have := HB1.out.size; omega)))
  clear hown hb2 hbel hblk0 hblk1 hrs
  go_wp2_with fail
  refine (clip_any A' (SumP.sealed l).length n w2 hle.1 hle.2).mono ?_
  rintro e w3 ⟨rfl, rfl⟩
  go_wp2_with fail
  go_ret
  exact ⟨A', rfl, HO.out.fresh.more (by have := HB1.out.size; omega), HB2.out⟩
end Go.Proofs.YteediemhcocgdaaDoor
