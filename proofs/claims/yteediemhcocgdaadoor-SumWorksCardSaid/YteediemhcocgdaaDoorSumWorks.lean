/-
  blotterlaw09.SumWorks answers true, whatever the bytes and numbers.
-/
import Derived.Test.YteediemhcocgdaaDoorSumBack
import Derived.Test.YteediemhcocgdaaDoorOwned
namespace Go.Proofs.YteediemhcocgdaaDoor
open Go.RowKit

/-- What Number answers. -/
def numR (n s : Int) : Int × List UInt8 := if s < 1 ∨ 8 < s ∨ n < 0 ∨ (s < 8 ∧ 2 ^ (8 * s.toNat) ≤ n) then (1, []) else (0, SumP.be n.toNat s.toNat)
/-- What Open answers. -/
def openT (l : List UInt8) : Bool × List UInt8 := match SumP.openR l with | none => (false, []) | some m => (true, m)

theorem number_all (n s : Int) (w : World) (hn : n ≤ 9223372036854775807) :
    Calls Tryd.prog 15 #[.int .i64 n, .int .i64 s] w fun e w' => ∃ A c, e = .returned (.tuple #[.slice A (numR n s).2.length c, .int .i64 (numR n s).1]) ∧ Own w' w.heap.size A c (numR n s).2 ∧ Below w.heap.size w w' := by
  unfold numR
  by_cases h : BadNum n s
  · refine (number_bad n s w h).mono ?_
    rintro e w1 ⟨rfl, rfl⟩
    unfold BadNum at h
    rw [if_pos h]
    exact ⟨none, 0, rfl, Own.none_ _ _, Below.refl _ _⟩
  · obtain ⟨k, j, rfl, rfl, h1, h8, hk, hlt⟩ := good_num n s hn h
    refine (number_ok k j w h1 h8 hk hlt).mono ?_
    rintro e w1 ⟨A, rfl, hown, hb⟩
    unfold BadNum at h
    rw [if_neg h]
    exact ⟨A, j, by simp [SumP.be_length], hown, hb⟩

theorem refNumber_all (n s : Int) (w : World) (hn : n ≤ 9223372036854775807) :
    Calls Tryd.prog 24 #[.int .i64 n, .int .i64 s] w fun e w' => ∃ A c, e = .returned (.tuple #[.slice A (numR n s).2.length c, .int .i64 (numR n s).1]) ∧ Own w' w.heap.size A c (numR n s).2 ∧ Below w.heap.size w w' := by
  unfold numR
  by_cases h : s < 1 ∨ 8 < s ∨ n < 0
  · refine (refNumber_arg n s w h).mono ?_
    rintro e w1 ⟨rfl, rfl⟩
    rw [if_pos (by omega)]
    exact ⟨none, 0, rfl, Own.none_ _ _, Below.refl _ _⟩
  · obtain ⟨k, rfl⟩ := Int.eq_ofNat_of_zero_le (show 0 ≤ n by omega)
    obtain ⟨j, rfl⟩ := Int.eq_ofNat_of_zero_le (show 0 ≤ s by omega)
    refine (refNumber_any k j w (by omega) (by omega) (by omega)).mono ?_
    rintro e w1 ⟨hb, hr⟩
    have hpow : ((k : Int) < 2 ^ (8 * j)) ↔ k < 2 ^ (8 * j) := by
      rw [show (2 ^ (8 * j) : Int) = ((2 ^ (8 * j) : Nat) : Int) by simp]
      exact Int.ofNat_lt
    by_cases hlt : k < 2 ^ (8 * j)
    · rw [if_pos hlt] at hr
      obtain ⟨A, rfl, hown⟩ := hr
      rw [if_neg (by
        simp only [Int.toNat_natCast]
        have := hpow.2 hlt
        omega)]
      exact ⟨A, j, by simp [SumP.be_length], hown, hb⟩
    · rw [if_neg hlt] at hr
      subst hr
      have h8 : j < 8 := by
        rcases Nat.lt_or_ge j 8 with h | h
        · exact h
        · obtain rfl : j = 8 := by omega
          omega
      rw [if_pos (by
        simp only [Int.toNat_natCast]
        have : ¬ ((k : Int) < 2 ^ (8 * j)) := fun h => hlt (hpow.1 h)
        omega)]
      exact ⟨none, 0, rfl, Own.none_ _ _, hb⟩

theorem open_all (B : Nat) (A : Option Addr) (c : Nat) (l : List UInt8) (w : World) (hb : Byt w B A l) (hB : B ≤ w.heap.size) (hc : l.length ≤ c) (hn : Nib w) (hl : l.length ≤ 140737488355328) (h0 : 0 < w.heap.size) (hcc : c ≤ 9223372036854775807) :
    Calls Tryd.prog 20 #[.slice A l.length c] w fun e w' => ∃ A n, e = .returned (.tuple #[.slice A (openT l).2.length n, .bool (openT l).1]) ∧ Own w' w.heap.size A n (openT l).2 ∧ Below w.heap.size w w' := by
  unfold openT
  rcases ho : SumP.openR l with _ | m
  · exact (open_none B A c l w hb hB hc hn hl h0 hcc ho).mono fun e w1 ⟨h1, h2⟩ => ⟨none, 0, h1, Own.none_ _ _, h2⟩
  · exact (open_some B A c l m w hb hB hc hn hl h0 hcc ho).mono fun e w1 ⟨A, n, h⟩ => ⟨A, n, h⟩
theorem refOpen_all (B : Nat) (A : Option Addr) (c : Nat) (l : List UInt8) (w : World) (hb : Byt w B A l) (hB : B ≤ w.heap.size) (hc : l.length ≤ c) (hl : l.length ≤ 140737488355328) :
    Calls Tryd.prog 23 #[.slice A l.length c] w fun e w' => ∃ A n, e = .returned (.tuple #[.slice A (openT l).2.length n, .bool (openT l).1]) ∧ Own w' w.heap.size A n (openT l).2 ∧ Below w.heap.size w w' := by
  unfold openT
  rcases ho : SumP.openR l with _ | m
  · exact (refOpen_none B A c l w hb hB hc hl ho).mono fun e w1 ⟨h1, h2⟩ => ⟨none, 0, h1, Own.none_ _ _, h2⟩
  · exact (refOpen_some B A c l m w hb hB hc hl ho).mono fun e w1 ⟨A, n, h⟩ => ⟨A, n, h⟩
theorem openT_length (l : List UInt8) : (openT l).2.length ≤ l.length := by
  unfold openT
  rcases ho : SumP.openR l with _ | m
  · simp
  · have := SumP.sealed_of_openR ho
    rw [← this, SumP.sealed_length]
    simp
theorem numR_length (n s : Int) : (numR n s).2.length ≤ 8 := by
  unfold numR
  split
  · simp
  · simp only [SumP.be_length]; omega

theorem Own.rowV {w : World} {base c : Nat} {A : Option Addr} {l : List UInt8} (h : Own w base A c l) : RowV w A c l.length ∧ Byt w w.heap.size A l ∧ ∀ b, blkOf A = some b → base ≤ b := by
  refine ⟨?_, h.byt, fun b hb => (h.blk_le b hb).1⟩
  obtain ⟨_, ⟨hv, h0⟩ | ⟨g, cap, cur, hv, hg, hh, h1, h2, h3, h4⟩⟩ := h
  · injection hv with hA _ hc
    exact .inl ⟨hA, hc, h0⟩
  · injection hv with hA _ hc
    subst hA hc
    refine .inr ⟨g, cur.toList, rfl, by simpa [Blk] using hh, h1, ?_, h2⟩
    rw [Array.length_toList]
    omega
theorem Fresh.rowV {w : World} {base : Nat} {A : Option Addr} {l : List UInt8} (h : Fresh w base A l) (h0 : 0 < l.length) (hl : l.length ≤ 140737488355328) : RowV w A l.length l.length ∧ Byt w w.heap.size A l ∧ ∀ b, blkOf A = some b → base ≤ b := by
  refine ⟨?_, h.byt, ?_⟩
  · obtain ⟨g, cs, rfl, _, hb, ht⟩ := h h0
    refine .inr ⟨g, cs, rfl, hb, Nat.le_refl _, ?_, by omega⟩
    have := congrArg List.length ht
    rw [List.length_take, List.length_map] at this
    omega
  · obtain ⟨g, cs, rfl, hg, _⟩ := h h0
    intro b hb
    obtain rfl : g = b := Option.some.inj hb
    exact hg

theorem RowV.keep {w w' : World} {A : Option Addr} {c n : Nat} (h : RowV w A c n) (hk : ∀ b, blkOf A = some b → w'.heap[b]? = w.heap[b]?) : RowV w' A c n := by
  rcases h with h | ⟨g, cs, rfl, hb, h⟩
  · exact .inl h
  · exact .inr ⟨g, cs, rfl, (hk g rfl).trans hb, h⟩

theorem RowsOK.nil (w : World) (base : Nat) : RowsOK w base [] := ⟨fun i r h => by simp at h, fun i j r s h => by simp at h⟩
theorem RowsOK.stays {w w' : World} {base : Nat} {rs : List RowD} (h : RowsOK w base rs) (hs : w.heap.size ≤ w'.heap.size) (hk : ∀ b, base ≤ b → b < w.heap.size → w'.heap[b]? = w.heap[b]?) : RowsOK w' base rs := by
  refine ⟨fun i r hr => ?_, h.apart⟩
  obtain ⟨h1, h2, h3, h4⟩ := h.row i r hr
  have hsame : ∀ b, blkOf r.1 = some b → w'.heap[b]? = w.heap[b]? := fun b hb => hk b (h3 b hb) (h1.blk_lt hb).1
  refine ⟨h1.keep hsame, fun hl => ?_, h3, h4⟩
  obtain ⟨b, off, hA, hbl, hc⟩ := h2 hl
  refine ⟨b, off, hA, by omega, fun i hi => ?_⟩
  rw [← hc i hi]
  exact World.cell?_of_block (w := w) (a := ⟨b, off + i, none⟩) (hsame b (by rw [hA]; rfl))
theorem RowsOK.below {w w' : World} {base : Nat} {rs : List RowD} (h : RowsOK w base rs) (hb : Below w.heap.size w w') : RowsOK w' base rs := h.stays hb.size fun b _ hlt => hb.block b hlt
theorem RowsOK.snoc {w w' : World} {base c : Nat} {A : Option Addr} {l : List UInt8} {rs : List RowD} (h : RowsOK w base rs) (hb : Below w.heap.size w w') (hbase : base ≤ w.heap.size)
    (hv : RowV w' A c l.length ∧ Byt w' w'.heap.size A l ∧ ∀ b, blkOf A = some b → w.heap.size ≤ b) (hl : l.length ≤ 140737488355324) : RowsOK w' base (rs ++ [(A, c, l)]) := by
  have h2 := h.below hb
  refine ⟨fun i r hr => ?_, fun i j r s hr hs hij b hb1 hb2 => ?_⟩
  · rcases Nat.lt_or_ge i rs.length with hi | hi
    · rw [List.getElem?_append_left hi] at hr
      exact h2.row i r hr
    · rw [List.getElem?_append_right hi] at hr
      have := (List.getElem?_eq_some_iff.1 hr).1
      simp only [List.length_singleton] at this
      rw [show i - rs.length = 0 by omega] at hr
      obtain rfl : (A, c, l) = r := by simpa using hr
      exact ⟨hv.1, hv.2.1, fun b hb => Nat.le_trans hbase (hv.2.2 b hb), hl⟩
  · have hlast : ∀ (i : Nat) (r : RowD), (rs ++ [(A, c, l)])[i]? = some r → rs.length ≤ i → i = rs.length ∧ r = (A, c, l) := fun i r hr hi => by
      rw [List.getElem?_append_right hi] at hr
      have := (List.getElem?_eq_some_iff.1 hr).1
      simp only [List.length_singleton] at this
      obtain rfl : i = rs.length := by omega
      rw [Nat.sub_self] at hr
      exact ⟨rfl, by simpa using hr.symm⟩
    rcases Nat.lt_or_ge i rs.length with hi | hi <;> rcases Nat.lt_or_ge j rs.length with hj | hj
    · rw [List.getElem?_append_left hi] at hr
      rw [List.getElem?_append_left hj] at hs
      exact h.apart i j r s hr hs hij b hb1 hb2
    · rw [List.getElem?_append_left hi] at hr
      obtain ⟨rfl, rfl⟩ := hlast j s hs hj
      have h3 := ((h.row i r hr).1.blk_lt hb1).1
      have h4 := hv.2.2 b hb2
      omega
    · rw [List.getElem?_append_left hj] at hs
      obtain ⟨rfl, rfl⟩ := hlast i r hr hi
      have h3 := ((h.row j s hs).1.blk_lt hb2).1
      have h4 := hv.2.2 b hb1
      omega
    · obtain ⟨rfl, rfl⟩ := hlast i r hr hi
      obtain ⟨rfl, rfl⟩ := hlast j s hs hj
      exact hij rfl

set_option maxHeartbeats 2000000 in
set_option maxRecDepth 100000 in
theorem works_any (B : Nat) (A : Option Addr) (c : Nat) (b : List UInt8) (n size at_ : Int) (w : World) (hb : Byt w B A b) (hB : B ≤ w.heap.size) (hn : Nib w) (h0 : 0 < w.heap.size)
    (hlb : b.length ≤ 140737488351232) (hcap : b.length ≤ c) (hn63 : n ≤ 9223372036854775807) :
    Calls Tryd.prog 4 #[.slice A b.length c, .int .i64 n, .int .i64 size, .int .i64 at_] w fun e w' => e = .returned (.bool true) ∧ Below w.heap.size w w' := by
  have hot := openT_length b
  have hnt := numR_length n size
  have HSL := Lib.hid (SumP.sealed_length b)
  go_enter Tryd.func4, Tryd.ntmps4
  go_wp2_with fail
  refine (awake09_any w hn h0).mono ?_
  rintro e w1 ⟨rfl, hb1⟩
  have HB1 := Lib.hid hb1
  have hs1 := hb1.size
  clear hb1
  go_wp2_with fail
  refine (lent_any B A c b w1 (hb.below (HB1.out.mono hB)) (by omega) hlb).mono ?_
  rintro e w2 ⟨Ai, ci, rfl, hown2, hb2⟩
  have HB2 := Lib.hid (HB1.out.trans (hb2.mono HB1.out.size))
  have HI := Lib.hid hown2
  have hy2 := byt_left hown2.byt
  have hle2 := hown2.len_le
  rw [List.length_append] at hle2
  have hs2 := HB2.out.size
  have hn2 := hn.below HB2.out h0
  clear hb2 hown2 HB1
  go_wp2_with fail
  refine (sum_any w2.heap.size Ai ci b w2 hy2 hn2 (by omega)).mono ?_
  rintro e w3 ⟨rfl, rfl⟩
  go_wp2_with fail
  refine (read_any w2.heap.size Ai ci b at_ size w2 hy2 (by simp at hle2; omega) hle2.2).mono ?_
  rintro e w3 ⟨rfl, rfl⟩
  go_wp2_with fail
  refine (seal_any w2.heap.size Ai ci b w2 hy2 (Nat.le_refl _) hn2 (by omega) (by omega)).mono ?_
  rintro e w3 ⟨Ax, rfl, hx3, hb3⟩
  have HR3 := Lib.hid ((RowsOK.nil w2 w2.heap.size).snoc hb3 (Nat.le_refl _) (hx3.rowV (by rw [HSL.out]; omega) (by rw [HSL.out]; omega)) (by rw [HSL.out]; omega))
  have hs3 := hb3.size
  have HB3 := Lib.hid hb3
  clear hb3 hx3
  go_wp2_with fail
  refine (open_all w2.heap.size Ai ci b w3 (hy2.below HB3.out) (by omega) (by simp at hle2; omega) (hn2.below HB3.out (by omega)) (by omega) (by omega) hle2.2).mono ?_
  rintro e w4 ⟨Ay, cy, rfl, hx4, hb4⟩
  have HR4 := Lib.hid (HR3.out.snoc hb4 hs3 hx4.rowV (by omega))
  have HB4 := Lib.hid (HB3.out.trans (hb4.mono hs3))
  have hs4 := HB4.out.size
  clear hb4 hx4 HR3 HB3 hs3
  go_wp2_with fail
  have hi4 : Own w4 w.heap.size Ai ci (b ++ [171, 172]) := (HI.out.kept HB4.out).more hs1
  have hbw4 : Below w.heap.size w w4 := HB2.out.trans (HB4.out.mono hs2)
  have hlow : ∀ k, blkOf Ai = some k → k < w2.heap.size := fun k hk => (HI.out.blk_le k hk).2
  refine (kept_any B w.heap.size Ai A ci c b w4 hi4 (hb.below (hbw4.mono hB)) (by omega) hlb).mono ?_
  rintro e w5 ⟨rfl, hg5⟩
  have hbw5 := hi4.grown_below hbw4 hg5 (by omega)
  have hs5 : w4.heap.size ≤ w5.heap.size := hg5.size
  have HR5 := Lib.hid (HR4.out.stays hs5 fun k hk hlt => hg5.block k hlt fun h => by have := hlow k h.symm; omega)
  have HB5 := Lib.hid hbw5
  have hs5' : w2.heap.size ≤ w5.heap.size := Nat.le_trans hs4 hs5
  clear hi4 hbw4 hlow hg5 hbw5 HR4 HB4 HI hy2 hn2 HB2 hs5 hs4
  generalize w2.heap.size = base at HR5 hs5' hs2
  go_wp2_with fail
  refine (number_all n size w5 hn63).mono ?_
  rintro e w6 ⟨Az, cz, rfl, hx6, hb6⟩
  have HR6 := Lib.hid (HR5.out.snoc hb6 hs5' hx6.rowV (by omega))
  have HB6 := Lib.hid (HB5.out.trans (hb6.mono (Nat.le_trans hs2 hs5')))
  have hs6 : base ≤ w6.heap.size := Nat.le_trans hs5' hb6.size
  clear hb6 hx6 HR5 HB5 hs5'
  go_wp2_with fail
  refine (refRead_any B A c b at_ size w6 (hb.below (HB6.out.mono hB)) (by omega)).mono ?_
  rintro e w7 ⟨rfl, rfl⟩
  go_wp2_with fail
  refine (refOpen_all B A c b w6 (hb.below (HB6.out.mono hB)) (by omega) (by omega) (by omega)).mono ?_
  rintro e w7 ⟨Ay2, cy2, rfl, hx7, hb7⟩
  have HR7 := Lib.hid (HR6.out.below hb7)
  have HB7 := Lib.hid (HB6.out.trans (hb7.mono (Nat.le_trans hs2 hs6)))
  have hs7 : base ≤ w7.heap.size := Nat.le_trans hs6 hb7.size
  have hy7 := hx7.byt
  clear hb7 hx7 HR6 HB6 hs6
  go_wp2_with fail
  refine (refNumber_all n size w7 hn63).mono ?_
  rintro e w8 ⟨Az2, cz2, rfl, hx8, hb8⟩
  have HR8 := Lib.hid (HR7.out.below hb8)
  have HB8 := Lib.hid (HB7.out.trans (hb8.mono (Nat.le_trans hs2 hs7)))
  have hs8 : base ≤ w8.heap.size := Nat.le_trans hs7 hb8.size
  have hy8 := hy7.below hb8
  have hz8 := hx8.byt
  clear hx8 HR7 HB7 hy7
  go_wp2_with fail
  refine (refSeal_any B A c b w8 (hb.below (HB8.out.mono hB)) (by omega) (by omega)).mono ?_
  rintro e w9 ⟨As, cs, rfl, hx9, hb9⟩
  have HR9 := Lib.hid (HR8.out.below hb9)
  have HB9 := Lib.hid (HB8.out.trans (hb9.mono (Nat.le_trans hs2 hs8)))
  have hs9 : base ≤ w9.heap.size := Nat.le_trans hs8 hb9.size
  have hy9 := hy8.below (hb9.mono hb8.size)
  have hz9 := hz8.below hb9
  have hs9' := hx9.byt
  have h79 : w7.heap.size ≤ w9.heap.size := Nat.le_trans hb8.size hb9.size
  have h89 : w8.heap.size ≤ w9.heap.size := hb9.size
  clear hb9 hb8 hx9 HR8 HB8 hy8 hz8 hs8 hs7
  have rx : Byt w9 w9.heap.size Ax (SumP.sealed b) := (HR9.out.row 0 (Ax, (SumP.sealed b).length, SumP.sealed b) rfl).2.1
  have ry : Byt w9 w9.heap.size Ay (openT b).2 := (HR9.out.row 1 (Ay, cy, (openT b).2) rfl).2.1
  have rz : Byt w9 w9.heap.size Az (numR n size).2 := (HR9.out.row 2 (Az, cz, (numR n size).2) rfl).2.1
  go_wp2_with fail
  refine (same_any w9.heap.size Ax As _ _ _ _ w9 rx hs9').mono ?_
  rintro e w10 ⟨rfl, rfl⟩
  rw [beq_self_eq_true]
  go_wp2_with fail
  refine (same_any w9.heap.size Ay Ay2 _ _ _ _ w9 ry (hy9.more h79)).mono ?_
  rintro e w10 ⟨rfl, rfl⟩
  rw [beq_self_eq_true]
  go_wp2_with fail
  refine (same_any w9.heap.size Az Az2 _ _ _ _ w9 rz (hz9.more h89)).mono ?_
  rintro e w10 ⟨rfl, rfl⟩
  rw [beq_self_eq_true]
  clear rx ry rz hy9 hz9 hs9'
  go_wp2_with fail
  refine (seal_any B A c b w9 (hb.below (HB9.out.mono hB)) (by omega) (hn.below HB9.out h0) (by omega) (by omega)).mono ?_
  rintro e w10 ⟨At, rfl, hx10, hb10⟩
  have HR10 := Lib.hid (HR9.out.snoc hb10 hs9 (hx10.rowV (by rw [HSL.out]; omega) (by rw [HSL.out]; omega)) (by rw [HSL.out]; omega))
  have HB10 := Lib.hid (HB9.out.trans (hb10.mono (Nat.le_trans hs2 hs9)))
  have hs10 : base ≤ w10.heap.size := Nat.le_trans hs9 hb10.size
  clear hx10 hb10 HR9 HB9 hs9
  go_wp2_with fail
  refine (owned_any base w10.heap.size 4 [(Ax, (SumP.sealed b).length, SumP.sealed b), (Ay, cy, (openT b).2), (Az, cz, (numR n size).2), (At, (SumP.sealed b).length, SumP.sealed b)] _ (Blk.new w10 23 _) (HR10.out.below ((Below.refl _ _).alloc (Nat.le_refl _) _)) (by simp) (by simp; omega)).mono ?_
  rintro e w11 ⟨rfl, hb11⟩
  have HB11 := Lib.hid ((HB10.out.alloc HB10.out.size _).trans (hb11.mono hs2))
  clear HR10 HB10 hb11
  go_wp2_with fail
  have hs11 := HB11.out.size
  refine (seal_any B A c b w11 (hb.below (HB11.out.mono hB)) (by omega) (hn.below HB11.out h0) (by omega) (by omega)).mono ?_
  rintro e w12 ⟨Au, rfl, hx12, hb12⟩
  have hu12 := hx12.byt
  have HB12 := Lib.hid (HB11.out.trans (hb12.mono hs11))
  have hs12 := HB12.out.size
  clear hx12 hb12 HB11 hs11
  go_wp2_with fail
  refine (refSeal_any B A c b w12 (hb.below (HB12.out.mono hB)) (by omega) (by omega)).mono ?_
  rintro e w13 ⟨Av, cv, rfl, hx13, hb13⟩
  have hu13 := hu12.below hb13
  have hv13 := hx13.byt
  have HB13 := Lib.hid (HB12.out.trans (hb13.mono hs12))
  have h1213 := hb13.size
  clear hx13 hb13 HB12 hu12
  go_wp2_with fail
  refine (same_any w13.heap.size Au Av _ _ _ _ w13 (hu13.more h1213) hv13).mono ?_
  rintro e w14 ⟨rfl, rfl⟩
  rw [beq_self_eq_true]
  clear hu13 hv13
  go_wp2_with fail
  refine (refSum_any B A c b w13 (hb.below (HB13.out.mono hB)) (by omega)).mono ?_
  rintro e w14 ⟨rfl, rfl⟩
  go_wp2_with fail
  go_ret
  exact ⟨rfl, HB13.out⟩
end Go.Proofs.YteediemhcocgdaaDoor
