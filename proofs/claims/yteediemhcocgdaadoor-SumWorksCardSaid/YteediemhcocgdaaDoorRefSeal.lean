/-
  The document's Seal and Open of layer 9; the law's own Same, Lent, Kept.
-/
import Derived.Test.YteediemhcocgdaaDoorRefSum
namespace Go.Proofs.YteediemhcocgdaaDoor
open Go.RowKit

theorem t4_quo (s : Nat) (hs : s < 2 ^ 32) : (#[Value.int .u8 ((s : Int) % 256), .int .u8 ((s : Int) / 256 % 256), .int .u8 ((s : Int) / 65536 % 256), .int .u8 ((s : Int) / 16777216)] : Array Value) = ((SumP.t4 s).map cu8).toArray := (a4_eq s hs).symm

theorem byt_t4 (w : World) (s : Nat) (hs : s < 2 ^ 32) : Byt (w.alloc (.cells #[Value.int .u8 ((s : Int) % 256), .int .u8 ((s : Int) / 256 % 256), .int .u8 ((s : Int) / 65536 % 256), .int .u8 ((s : Int) / 16777216)] 5)) (w.heap.size + 1) (some ⟨w.heap.size, 0, none⟩) (SumP.t4 s) := by
  rw [t4_quo s hs]
  intro _
  refine ⟨_, 0, rfl, by omega, fun i hi => ?_⟩
  rw [cell_of_row _ _ _ _ _ (0, 0) (heap_alloc_new w _), Nat.zero_add, List.getElem?_toArray, List.getElem?_map, List.getElem?_eq_getElem hi]
  simp [cu8, List.getD, hi]

set_option maxHeartbeats 1000000 in
set_option maxRecDepth 100000 in
theorem refSeal_any (B : Nat) (A : Option Addr) (c : Nat) (l : List UInt8) (w : World) (hb : Byt w B A l) (hB : B ≤ w.heap.size) (hl : l.length ≤ 140737488355324) :
    Calls Tryd.prog 26 #[.slice A l.length c] w fun e w' => ∃ A' n, e = .returned (.slice A' (SumP.sealed l).length n) ∧ Own w' w.heap.size A' n (SumP.sealed l) ∧ Below w.heap.size w w' := by
  have hlt := SumP.sum_lt l
  go_enter Tryd.func26, Tryd.ntmps26
  go_wp2_with fail
  refine (refSum_any B A c l w hb (by omega)).mono ?_
  rintro e w1 ⟨rfl, rfl⟩
  obtain ⟨s, HS⟩ : ∃ s, Hid (SumP.sum l = s) := ⟨_, rfl⟩
  rw [HS.out] at hlt ⊢
  have hown0 : Own (w.alloc (.cells #[] 5)) w.heap.size (some ⟨w.heap.size, 0, none⟩) 0 [] := Own.of_blk (l := []) (Blk.new w 5 []) (Nat.le_refl _) (by simp)
  have hb0 : Byt (w.alloc (.cells #[] 5)) B A l := hb.below ((Below.refl B w).alloc hB _)
  go_wp2_with (first
    | (at_builtin; refine wp_append_bytes rfl (.tmp 7) (.tmp 8) rfl w.heap.size (some ⟨w.heap.size, 0, none⟩) 0 [] B A c l rfl rfl hown0 hb0 (by simp; omega) (by simp) ?_; intro A1 n1 w1 hown1 hg1 hat1; have HB1 : Hid (Below w.heap.size w w1) := (hown0.grown_below ((Below.refl _ _).alloc (Nat.le_refl _) _) hg1 (by simp)); have hown2 : Own (w1.alloc (.cells #[Value.int .u8 ((s : Int) % 256), .int .u8 ((s : Int) / 256 % 256), .int .u8 ((s : Int) / 65536 % 256), .int .u8 ((s : Int) / 16777216)] 5)) w.heap.size A1 n1 ([] ++ l) := World.ownsRow.alloc hown1 _; have hy2 := byt_t4 w1 s hlt; have HB2 : Hid (Below w.heap.size w (w1.alloc (.cells #[Value.int .u8 ((s : Int) % 256), .int .u8 ((s : Int) / 256 % 256), .int .u8 ((s : Int) / 65536 % 256), .int .u8 ((s : Int) / 16777216)] 5))) := HB1.out.alloc HB1.out.size _; clear hown1 hg1 hat1)
    | (at_builtin; refine wp_append_bytes rfl (.tmp 10) (.tmp 25) rfl w.heap.size A1 n1 ([] ++ l) (w1.heap.size + 1) (some ⟨w1.heap.size, 0, none⟩) 4 (SumP.t4 s) rfl rfl hown2 hy2 (by simp [SumP.t4]; omega) HB2.out.size ?_; intro A3 n3 w3 hown3 hg3 hat3; have HB3 : Hid (Below w.heap.size w w3) := (hown2.grown_below HB2.out hg3 HB2.out.size); have HO3 : Hid (Own w3 w.heap.size A3 n3 ([] ++ l ++ SumP.t4 s)) := hown3; clear hown3 hown2 hy2 hg3 hat3))
  go_ret
  have hse : SumP.sealed l = [] ++ l ++ SumP.t4 s := by unfold SumP.sealed; rw [HS.out]; rfl
  refine ⟨A3, n3, ?_, hse ▸ HO3.out, HB3.out⟩
  show Ending.returned (.slice A3 (l.length + (SumP.t4 s).length) n3) = _
  rw [hse, List.length_append]
  rfl

theorem byt_left {w : World} {B : Nat} {A : Option Addr} {l m : List UInt8} (h : Byt w B A (l ++ m)) : Byt w B A l := fun hl => by
  obtain ⟨b, off, rfl, hb, hc⟩ := h (by simp; omega)
  refine ⟨b, off, rfl, hb, fun i hi => ?_⟩
  rw [hc i (by simp; omega)]
  simp [List.getD, hi, List.getElem?_append_left hi]

theorem byt_two (w : World) : Byt (w.alloc (.cells #[Value.int .u8 171, .int .u8 172] 5)) (w.heap.size + 1) (some ⟨w.heap.size, 0, none⟩) [171, 172] := fun _ => by
  refine ⟨_, 0, rfl, by omega, fun i hi => ?_⟩
  rw [cell_of_row _ _ _ _ _ (0, 0) (heap_alloc_new w _)]
  match i, hi with
  | 0, _ => rfl
  | 1, _ => rfl

set_option maxRecDepth 100000 in
theorem refOpen_short (A : Option Addr) (c n : Nat) (w : World) (hn : n < 4) :
    Calls Tryd.prog 23 #[.slice A n c] w fun e w' => e = .returned (.tuple #[.slice none 0 0, .bool false]) ∧ w = w' := by
  go_enter Tryd.func23, Tryd.ntmps23
  go_wp2_with fail
  go_ret2
  exact ⟨rfl, rfl⟩

/-- What the document's Open answers at m and four bytes more. -/
def RefOpenR (w : World) (m t : List UInt8) (e : Ending) (w' : World) : Prop :=
  Below w.heap.size w w' ∧ if SumP.t4 (SumP.sum m) = t then ∃ A n, e = .returned (.tuple #[.slice A m.length n, .bool true]) ∧ Own w' w.heap.size A n m else e = .returned (.tuple #[.slice none 0 0, .bool false])

set_option maxHeartbeats 1000000 in
set_option maxRecDepth 100000 in
theorem refOpen_long (B : Nat) (A : Option Addr) (c : Nat) (m t : List UInt8) (w : World) (hb : Byt w B A (m ++ t)) (ht : t.length = 4) (hB : B ≤ w.heap.size) (hc : (m ++ t).length ≤ c) (hl : (m ++ t).length ≤ 140737488355328) :
    Calls Tryd.prog 23 #[.slice A (m ++ t).length c] w (RefOpenR w m t) := by
  have hlen : (m ++ t).length = m.length + 4 := by rw [List.length_append, ht]
  rw [hlen] at hc hl
  have hm := byt_left hb
  have hsx := fun W (h : Below w.heap.size w W) => (hb.below (h.mono hB)).str c
  rw [hlen] at hsx
  rw [hlen]
  have HSX := Lib.hid hsx
  have HLN := Lib.hid hlen
  have hms : m.length ≤ 140737488355324 := by omega
  clear hsx hlen
  go_enter Tryd.func23, Tryd.ntmps23
  go_wp2_with fail
  have hx0 := HSX.out w.drew (Below.refl _ _).drew
  go_region_with (go_at_call 26; refine (refSeal_any B A c m w.drew hm hB hms).mono ?_; rintro e w1 ⟨A1, n1, rfl, hown1, hbb⟩; have hb1 : Below w.heap.size w w1 := ⟨hbb.os, hbb.tape, hbb.output, hbb.size, hbb.block⟩; have hx1 := HSX.out w1 hb1; have hz1 := hown1.byt.str n1)
  all_goals
    have HB1 := Lib.hid hb1
    clear hx1 hz1 hown1 hbb hb1 hx0
    by_cases he : SumP.t4 (SumP.sum m) = t
    · rw [show (SumP.sealed m == m ++ t) = true by rw [beq_iff_eq, SumP.sealed, he]]
      have hb2 : Below w.heap.size w (w1.alloc (.cells #[] 5)) := HB1.out.alloc HB1.out.size _
      have hown0 : Own (w1.alloc (.cells #[] 5)) w.heap.size (some ⟨w1.heap.size, 0, none⟩) 0 [] := Own.of_blk (l := []) (Blk.new w1 5 []) HB1.out.size (by simp)
      have hy2 : Byt (w1.alloc (.cells #[] 5)) B A m := hm.below (hb2.mono hB)
      have HB2 := Lib.hid hb2
      have HE := Lib.hid he
      clear he hb2
      go_wp2_with (at_builtin; refine wp_append_bytes rfl (.tmp 19) (.tmp 20) rfl w.heap.size (some ⟨w1.heap.size, 0, none⟩) 0 [] B A c m rfl rfl hown0 hy2 (by simp; omega) HB2.out.size ?_; intro A3 n3 w3 hown3 hg3 hat3; have HB3 : Hid (Below w.heap.size w w3) := (hown0.grown_below HB2.out hg3 HB2.out.size); have HO3 : Hid (Own w3 w.heap.size A3 n3 m) := hown3; clear hown3 hg3 hat3)
      go_ret2
      exact ⟨HB3.out, by rw [if_pos HE.out]; exact ⟨A3, n3, rfl, HO3.out⟩⟩
    · rw [show (SumP.sealed m == m ++ t) = false by
        rw [beq_eq_false_iff_ne]
        intro h
        exact he (List.append_cancel_left h)]
      have HE := Lib.hid he
      clear he
      go_wp2_with fail
      go_ret2
      exact ⟨HB1.out, by rw [if_neg HE.out]; rfl⟩

/-- The document's Open, whatever the bytes. -/
theorem refOpen_none (B : Nat) (A : Option Addr) (c : Nat) (l : List UInt8) (w : World) (hb : Byt w B A l) (hB : B ≤ w.heap.size) (hc : l.length ≤ c) (hl : l.length ≤ 140737488355328) (ho : SumP.openR l = none) :
    Calls Tryd.prog 23 #[.slice A l.length c] w fun e w' => e = .returned (.tuple #[.slice none 0 0, .bool false]) ∧ Below w.heap.size w w' := by
  rcases Nat.lt_or_ge l.length 4 with h4 | h4
  · exact (refOpen_short A c _ w h4).mono fun _ _ ⟨h1, h2⟩ => ⟨h1, h2 ▸ Below.refl _ _⟩
  · obtain ⟨m, x0, x1, x2, x3, rfl⟩ := SumP.split4 l h4
    rw [SumP.openR_split] at ho
    refine (refOpen_long B A c m [x0, x1, x2, x3] w hb rfl hB hc hl).mono fun e w' ⟨h1, h2⟩ => ?_
    rw [if_neg (fun h => by rw [if_pos h] at ho; cases ho)] at h2
    exact ⟨h2, h1⟩
theorem refOpen_some (B : Nat) (A : Option Addr) (c : Nat) (l m : List UInt8) (w : World) (hb : Byt w B A l) (hB : B ≤ w.heap.size) (hc : l.length ≤ c) (hl : l.length ≤ 140737488355328) (ho : SumP.openR l = some m) :
    Calls Tryd.prog 23 #[.slice A l.length c] w fun e w' => ∃ A n, e = .returned (.tuple #[.slice A m.length n, .bool true]) ∧ Own w' w.heap.size A n m ∧ Below w.heap.size w w' := by
  have h4 : 4 ≤ l.length := by
    rcases Nat.lt_or_ge l.length 4 with h | h
    · unfold SumP.openR at ho
      rw [if_neg (by omega)] at ho
      cases ho
    · exact h
  obtain ⟨m', x0, x1, x2, x3, rfl⟩ := SumP.split4 l h4
  rw [SumP.openR_split] at ho
  refine (refOpen_long B A c m' [x0, x1, x2, x3] w hb rfl hB hc hl).mono fun e w' ⟨h1, h2⟩ => ?_
  split at ho
  · rename_i heq
    obtain rfl : m' = m := Option.some.inj ho
    rw [if_pos heq] at h2
    obtain ⟨A', n, he, ho2⟩ := h2
    exact ⟨A', n, he, ho2, h1⟩
  · cases ho

theorem same_any (B : Nat) (A1 A2 : Option Addr) (c1 c2 : Nat) (a b : List UInt8) (w : World) (ha : Byt w B A1 a) (hb : Byt w B A2 b) :
    Calls Tryd.prog 25 #[.slice A1 a.length c1, .slice A2 b.length c2] w fun e w' => e = .returned (.bool (a == b)) ∧ w = w' := by
  have h1 := ha.str c1
  have h2 := hb.str c2
  go_enter Tryd.func25, Tryd.ntmps25
  go_wp2_with fail
  go_ret
  exact ⟨rfl, rfl⟩

set_option maxRecDepth 100000 in
theorem lent_any (B : Nat) (A : Option Addr) (c : Nat) (l : List UInt8) (w : World) (hb : Byt w B A l) (hB : B ≤ w.heap.size) (hl : l.length ≤ 140737488351232) :
    Calls Tryd.prog 16 #[.slice A l.length c] w fun e w' => ∃ A' n, e = .returned (.slice A' l.length n) ∧ Own w' w.heap.size A' n (l ++ [171, 172]) ∧ Below w.heap.size w w' := by
  have hmk : ∀ W, (Instr.makeSlice 23 (.int .i64 0) (.int .i64 ((l.length : Int) + 2))).run Tryd.prog W = .ok (.slice (some ⟨W.heap.size, 0, none⟩) 0 (l.length + 2)) (W.alloc (.cells (madeCells #[.int .u8 0] (l.length + 2)) 5)) := fun W => make_bytes_cap (l.length + 2) (by omega) W
  have hown0 := own_made w (l.length + 2) w.heap.size (Nat.le_refl _) (by omega)
  have hb0 : Byt (w.alloc (.cells (madeCells #[.int .u8 0] (l.length + 2)) 5)) B A l := hb.below ((Below.refl B w).alloc hB _)
  have hbel0 : Hid (Below w.heap.size w (w.alloc (.cells (madeCells #[.int .u8 0] (l.length + 2)) 5))) := (Below.refl _ w).alloc (Nat.le_refl _) _
  go_enter Tryd.func16, Tryd.ntmps16
  go_wp2_with (first
    | (at_builtin; refine wp_append_bytes rfl (.tmp 7) (.tmp 8) rfl w.heap.size (some ⟨w.heap.size, 0, none⟩) (l.length + 2) [] B A c l rfl rfl hown0 hb0 (by simp; omega) (by simp) ?_; intro A1 n1 w1 hown1 hg1 hat1; have HB1 : Hid (Below w.heap.size w w1) := (hown0.grown_below hbel0.out hg1 (by simp)); have hown2 : Own (w1.alloc (.cells #[Value.int .u8 171, .int .u8 172] 5)) w.heap.size A1 n1 ([] ++ l) := World.ownsRow.alloc hown1 _; have HB2 : Hid (Below w.heap.size w (w1.alloc (.cells #[Value.int .u8 171, .int .u8 172] 5))) := HB1.out.alloc HB1.out.size _; clear hown1 hg1 hat1)
    | (at_builtin; refine wp_append_bytes rfl (.tmp 10) (.tmp 11) rfl w.heap.size A1 n1 ([] ++ l) (w1.heap.size + 1) (some ⟨w1.heap.size, 0, none⟩) 2 [171, 172] rfl rfl hown2 (byt_two w1) (by simp; omega) HB2.out.size ?_; intro A3 n3 w3 hown3 hg3 hat3; have HB3 : Hid (Below w.heap.size w w3) := (hown2.grown_below HB2.out hg3 HB2.out.size); have HO3 : Hid (Own w3 w.heap.size A3 n3 (l ++ [171, 172])) := hown3; have hle3 : l.length ≤ n3 := (by have := HO3.out.len_le; simp at this; omega); have hle4 : n3 ≤ 9223372036854775807 := HO3.out.len_le.2; clear hown3 hown2 hg3 hat3))
  go_ret
  exact ⟨A3, n3, rfl, HO3.out, HB3.out⟩

theorem u8_not (x : UInt8) : bits .xor .u8 (x.toNat : Int) 255 = ((x ^^^ 255).toNat : Int) := by
  rw [show (255 : Int) = ((255 : Nat) : Int) from rfl, u8_xor_nat _ _ x.toNat_lt (by omega), UInt8.toNat_xor]
  rfl

/-- The first n cells are bytes. -/
def AllBytes (cs : List Value) (n : Nat) : Prop := ∀ j, j < n → ∃ b : UInt8, cs[j]? = some (cu8 b)
theorem AllBytes.set_ {cs : List Value} {n : Nat} (h : AllBytes cs n) (i : Nat) (b : UInt8) : AllBytes (cs.set i (cu8 b)) n := fun j hj => by
  obtain ⟨x, hx⟩ := h j hj
  have hlt : j < cs.length := (List.getElem?_eq_some_iff.1 hx).1
  by_cases hij : i = j
  · subst hij
    exact ⟨b, List.getElem?_set_self hlt⟩
  · exact ⟨x, by rw [List.getElem?_set_ne hij]; exact hx⟩
theorem allBytes_of_take {cs : List Value} {l : List UInt8} (h : cs.take l.length = l.map cu8) : AllBytes cs l.length := fun j hj => by
  have h1 : (cs.take l.length)[j]? = (l.map cu8)[j]? := by rw [h]
  rw [List.getElem?_take_of_lt hj, List.getElem?_map, List.getElem?_eq_getElem hj] at h1
  exact ⟨_, h1⟩

theorem grown_setCell {w wr : World} {g : Nat} (h : w.grownBy wr (some g)) (o : Nat) (u : Value) : w.grownBy (wr.setCell ⟨g, o, none⟩ u) (some g) :=
  World.grownBy.trans h ⟨rfl, rfl, rfl, by simp [World.setCell], fun k _ hk => Below.heap_setCell _ _ _ _ (fun e => hk (by rw [e]))⟩

set_option maxHeartbeats 1000000 in
set_option maxRecDepth 100000 in
theorem kept_any (B base : Nat) (A A1 : Option Addr) (c c1 : Nat) (l : List UInt8) (w : World) (hown : Own w base A c (l ++ [171, 172])) (hb : Byt w B A1 l) (hB : B ≤ w.heap.size) (hl : l.length ≤ 140737488351232) :
    Calls Tryd.prog 21 #[.slice A l.length c, .slice A1 l.length c1] w fun e w' => e = .returned (.bool true) ∧ w.grownBy w' (blkOf A) := by
  have hle := hown.len_le
  rw [List.length_append] at hle
  have hle1 : l.length + 2 ≤ c := hle.1
  have hle2 : c ≤ 9223372036854775807 := hle.2
  have hsame := same_any w.heap.size A A1 c c1 l l w (byt_left hown.byt) (hb.more hB)
  rw [show (l == l) = true by simp] at hsame
  obtain ⟨g, cs, rfl, hg, hblk, htk⟩ := hown.fresh (by simp)
  have hall := allBytes_of_take htk
  rw [List.length_append] at hall
  have h1 : (cs.take (l ++ [171, 172]).length)[l.length]? = ((l ++ [171, 172]).map cu8)[l.length]? := by rw [htk]
  have h2 : (cs.take (l ++ [171, 172]).length)[l.length + 1]? = ((l ++ [171, 172]).map cu8)[l.length + 1]? := by rw [htk]
  rw [List.getElem?_take_of_lt (by simp), ← hblk.cell] at h1
  rw [List.getElem?_take_of_lt (by simp), ← hblk.cell] at h2
  have hc1 : w.cell? ⟨g, l.length, none⟩ = some (.int .u8 171) := by rw [h1]; simp [cu8]
  have hc2 : w.cell? ⟨g, l.length + 1, none⟩ = some (.int .u8 172) := by rw [h2]; simp [cu8]
  have HSA := Lib.hid hsame
  have HK := Lib.hid hblk
  have HA : Hid (AllBytes cs (l.length + 2)) := hall
  clear hle hsame hblk htk hall h1 h2 hown
  go_enter Tryd.func21, Tryd.ntmps21
  go_wp2_with fail
  refine HSA.out.mono ?_
  rintro e w1 ⟨rfl, rfl⟩
  go_wp2_with fail
  go_loopw [8] (fun i wr => ∃ (k : Nat) (cs : List Value), k ≤ l.length + 2 ∧ i = .int .i64 k ∧ Blk wr g 5 cs ∧ AllBytes cs (l.length + 2) ∧ w.grownBy wr (some g)) (fun i _ => l.length + 2 - (intOf i).toNat)
  case atStart => exact ⟨0, cs, by omega, rfl, HK.out, HA.out, World.grownBy.refl _ _⟩
  case round =>
    obtain ⟨k, ds, hk, rfl, hb, ha, hbl⟩ := hrel
    by_cases hlt : k < l.length + 2
    · obtain ⟨x, hx⟩ := ha k hlt
      have hcx : wr.cell? ⟨g, k, none⟩ = some (.int .u8 (x.toNat : Int)) := by rw [hb.cell, hx]; rfl
      have hf := hb.frozen k
      have hn := u8_not x
      have HB := Lib.hid hb
      have HA2 := Lib.hid ha
      have HL := Lib.hid hbl
      clear hb ha hbl hx
      generalize x ^^^ 255 = y at hn
      go_wp2_with fail
      exact ⟨⟨k + 1, ds.set k (cu8 y), by omega, by go_num, HB.out.set_ k (cu8 y), HA2.out.set_ k y, grown_setCell HL.out k _⟩, by simp [intOf]; omega⟩
    · have HL := Lib.hid hbl
      clear hb ha hbl
      go_wp2_with fail
      go_ret
      exact ⟨rfl, HL.out⟩
end Go.Proofs.YteediemhcocgdaaDoor
