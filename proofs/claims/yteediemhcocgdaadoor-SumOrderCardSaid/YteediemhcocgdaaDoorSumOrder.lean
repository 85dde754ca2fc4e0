/-
  blotterlaw09.SumOrder answers true, whatever the numbers.
-/
import Derived.Test.YteediemhcocgdaaDoorAwake09
namespace Go.Proofs.YteediemhcocgdaaDoor
open Go.RowKit

def GoodNum (n s : Int) : Prop := 1 ≤ s ∧ s ≤ 8 ∧ 0 ≤ n ∧ (s < 8 → n < 2 ^ (8 * s.toNat))

theorem be_step (n k : Nat) : n % 2 ^ (8 * (k + 1)) = 2 ^ (8 * k) * (n / 2 ^ (8 * k) % 256) + n % 2 ^ (8 * k) := by
  rw [show 8 * (k + 1) = 8 * k + 8 by omega, Nat.pow_add]
  rw [Nat.mod_mul, Nat.add_comm]
theorem be_inj (k : Nat) : ∀ n m : Nat, (SumP.be n k = SumP.be m k ↔ n % 2 ^ (8 * k) = m % 2 ^ (8 * k)) := by
  induction k with
  | zero => intro n m; simp [SumP.be]; omega
  | succ k ih =>
    intro n m
    rw [be_step, be_step]
    simp only [SumP.be, List.cons.injEq, ih n m]
    have hp : 0 < 2 ^ (8 * k) := Nat.pow_pos (by omega)
    have h1 := Nat.mod_lt n hp
    have h2 := Nat.mod_lt m hp
    have e : (UInt8.ofNat (n / 2 ^ (8 * k)) = UInt8.ofNat (m / 2 ^ (8 * k))) ↔ n / 2 ^ (8 * k) % 256 = m / 2 ^ (8 * k) % 256 := by
      rw [← UInt8.toNat_inj, UInt8.toNat_ofNat', UInt8.toNat_ofNat']
    rw [e]
    constructor
    · rintro ⟨ha, hb⟩; rw [ha, hb]
    · intro h
      have hd : n / 2 ^ (8 * k) % 256 = m / 2 ^ (8 * k) % 256 := by
        have := congrArg (· / 2 ^ (8 * k)) h
        simpa [Nat.mul_add_div hp, Nat.div_eq_of_lt h1, Nat.div_eq_of_lt h2] using this
      exact ⟨hd, by rw [hd] at h; omega⟩
theorem be_less (k : Nat) : ∀ n m : Nat, Op.bytesLess (SumP.be n k) (SumP.be m k) = decide (n % 2 ^ (8 * k) < m % 2 ^ (8 * k)) := by
  induction k with
  | zero => intro n m; simp [SumP.be, Op.bytesLess, Nat.mod_one]
  | succ k ih =>
    intro n m
    rw [be_step, be_step]
    have hp : 0 < 2 ^ (8 * k) := Nat.pow_pos (by omega)
    have h1 := Nat.mod_lt n hp
    have h2 := Nat.mod_lt m hp
    have e1 : (UInt8.ofNat (n / 2 ^ (8 * k)) < UInt8.ofNat (m / 2 ^ (8 * k))) ↔ n / 2 ^ (8 * k) % 256 < m / 2 ^ (8 * k) % 256 := by
      rw [UInt8.lt_iff_toNat_lt, UInt8.toNat_ofNat', UInt8.toNat_ofNat']
    have e2 : (UInt8.ofNat (n / 2 ^ (8 * k)) = UInt8.ofNat (m / 2 ^ (8 * k))) ↔ n / 2 ^ (8 * k) % 256 = m / 2 ^ (8 * k) % 256 := by
      rw [← UInt8.toNat_inj, UInt8.toNat_ofNat', UInt8.toNat_ofNat']
    simp only [SumP.be, Op.bytesLess, ih n m]
    generalize n / 2 ^ (8 * k) % 256 = a at *
    generalize m / 2 ^ (8 * k) % 256 = b at *
    generalize n % 2 ^ (8 * k) = r at *
    generalize m % 2 ^ (8 * k) = t at *
    rw [Bool.eq_iff_iff]
    simp only [Bool.or_eq_true, Bool.and_eq_true, decide_eq_true_eq, beq_iff_eq, e1, e2]
    generalize 2 ^ (8 * k) = P at *
    rcases Nat.lt_trichotomy a b with h | h | h
    · have : P * (a + 1) ≤ P * b := Nat.mul_le_mul_left _ h
      rw [Nat.mul_succ] at this
      constructor
      · intro _; omega
      · intro _; exact .inl h
    · subst h
      constructor
      · rintro (h | ⟨_, h⟩) <;> omega
      · intro h; exact .inr ⟨rfl, by omega⟩
    · have : P * (b + 1) ≤ P * a := Nat.mul_le_mul_left _ h
      rw [Nat.mul_succ] at this
      constructor
      · rintro (h | ⟨h, _⟩) <;> omega
      · intro _; omega
set_option maxRecDepth 100000 in
theorem order_good (n m s : Nat) (w : World) (hn : Nib w) (h0 : 0 < w.heap.size) (h1 : 1 ≤ s) (h8 : s ≤ 8) (hnn : n ≤ 9223372036854775807) (hmm : m ≤ 9223372036854775807) (hns : n < 2 ^ (8 * s)) (hms : m < 2 ^ (8 * s)) :
    Calls Tryd.prog 3 #[.int .i64 n, .int .i64 m, .int .i64 s] w fun e w' => e = .returned (.bool true) ∧ Below w.heap.size w w' := by
  go_enter Tryd.func3, Tryd.ntmps3
  go_wp2_with fail
  refine (awake09_any w hn h0).mono ?_
  rintro e w1 ⟨rfl, hb1⟩
  have HB1 := Lib.hid hb1
  have HS1 := Lib.hid hns
  have HS2 := Lib.hid hms
  clear hb1 hns hms
  go_wp2_with fail
  refine (number_ok n s w1 h1 h8 hnn HS1.out).mono ?_
  rintro e w2 ⟨A, rfl, hown2, hb2⟩
  have HO2 := Lib.hid hown2
  have HB2 := Lib.hid hb2
  clear hb2 hown2
  go_wp2_with fail
  refine (number_ok m s w2 h1 h8 hmm HS2.out).mono ?_
  rintro e w3 ⟨A3, rfl, hown3, hb3⟩
  have hy1 := ((HO2.out.byt).below hb3).str s
  have hy2 := (hown3.byt).str s
  rw [SumP.be_length] at hy1 hy2
  have HB3 := Lib.hid (HB1.out.trans ((HB2.out.mono HB1.out.size).trans (hb3.mono (by have := HB1.out.size; have := HB2.out.size; omega))))
  have hless : Op.bytesLess (SumP.be n s) (SumP.be m s) = decide (n < m) := by rw [be_less, Nat.mod_eq_of_lt HS1.out, Nat.mod_eq_of_lt HS2.out]
  have heqq : (SumP.be n s == SumP.be m s) = ((n : Int) == (m : Int)) := by
    rw [Bool.eq_iff_iff, beq_iff_eq, beq_iff_eq, be_inj, Nat.mod_eq_of_lt HS1.out, Nat.mod_eq_of_lt HS2.out]
    omega
  clear hb3 hown3
  go_wp2_with fail
  go_ret
  exact ⟨by simp, HB3.out⟩

theorem order_bad1 (n m s : Int) (w : World) (hn : Nib w) (h0 : 0 < w.heap.size) (h : s < 1 ∨ 8 < s ∨ n < 0 ∨ (s < 8 ∧ 2 ^ (8 * s.toNat) ≤ n)) (h2 : s < 1 ∨ 8 < s ∨ m < 0 ∨ (s < 8 ∧ 2 ^ (8 * s.toNat) ≤ m)) :
    Calls Tryd.prog 3 #[.int .i64 n, .int .i64 m, .int .i64 s] w fun e w' => e = .returned (.bool true) ∧ Below w.heap.size w w' := by
  have H := Lib.hid h
  have H2 := Lib.hid h2
  clear h h2
  go_enter Tryd.func3, Tryd.ntmps3
  go_wp2_with fail
  refine (awake09_any w hn h0).mono ?_
  rintro e w1 ⟨rfl, hb1⟩
  have HB1 := Lib.hid hb1
  clear hb1
  go_wp2_with fail
  refine (number_bad n s w1 H.out).mono ?_
  rintro e w2 ⟨rfl, rfl⟩
  go_wp2_with fail
  refine (number_bad m s w1 H2.out).mono ?_
  rintro e w2 ⟨rfl, rfl⟩
  go_wp2_with fail
  go_ret
  exact ⟨rfl, HB1.out⟩
theorem order_bad2 (n : Int) (m s : Nat) (w : World) (hn : Nib w) (h0 : 0 < w.heap.size) (h : (s : Int) < 1 ∨ 8 < (s : Int) ∨ n < 0 ∨ ((s : Int) < 8 ∧ 2 ^ (8 * (s : Int).toNat) ≤ n)) (h1 : 1 ≤ s) (h8 : s ≤ 8) (hmm : m ≤ 9223372036854775807) (hms : m < 2 ^ (8 * s)) :
    Calls Tryd.prog 3 #[.int .i64 n, .int .i64 m, .int .i64 s] w fun e w' => e = .returned (.bool true) ∧ Below w.heap.size w w' := by
  have H := Lib.hid h
  have H2 := Lib.hid hms
  clear h hms
  go_enter Tryd.func3, Tryd.ntmps3
  go_wp2_with fail
  refine (awake09_any w hn h0).mono ?_
  rintro e w1 ⟨rfl, hb1⟩
  have HB1 := Lib.hid hb1
  clear hb1
  go_wp2_with fail
  refine (number_bad n s w1 H.out).mono ?_
  rintro e w2 ⟨rfl, rfl⟩
  go_wp2_with fail
  refine (number_ok m s w1 h1 h8 hmm H2.out).mono ?_
  rintro e w2 ⟨A, rfl, hown, hb2⟩
  have HB2 := Lib.hid (HB1.out.trans (hb2.mono HB1.out.size))
  clear hb2 hown
  go_wp2_with fail
  go_ret
  exact ⟨rfl, HB2.out⟩
theorem order_bad3 (m : Int) (n s : Nat) (w : World) (hn : Nib w) (h0 : 0 < w.heap.size) (h : (s : Int) < 1 ∨ 8 < (s : Int) ∨ m < 0 ∨ ((s : Int) < 8 ∧ 2 ^ (8 * (s : Int).toNat) ≤ m)) (h1 : 1 ≤ s) (h8 : s ≤ 8) (hmm : n ≤ 9223372036854775807) (hms : n < 2 ^ (8 * s)) :
    Calls Tryd.prog 3 #[.int .i64 n, .int .i64 m, .int .i64 s] w fun e w' => e = .returned (.bool true) ∧ Below w.heap.size w w' := by
  have H := Lib.hid h
  have H2 := Lib.hid hms
  clear h hms
  go_enter Tryd.func3, Tryd.ntmps3
  go_wp2_with fail
  refine (awake09_any w hn h0).mono ?_
  rintro e w1 ⟨rfl, hb1⟩
  have HB1 := Lib.hid hb1
  clear hb1
  go_wp2_with fail
  refine (number_ok n s w1 h1 h8 hmm H2.out).mono ?_
  rintro e w2 ⟨A, rfl, hown, hb2⟩
  have HB2 := Lib.hid (HB1.out.trans (hb2.mono HB1.out.size))
  clear hb2 hown
  go_wp2_with fail
  refine (number_bad m s w2 H.out).mono ?_
  rintro e w3 ⟨rfl, rfl⟩
  go_wp2_with fail
  go_ret
  exact ⟨rfl, HB2.out⟩

/-- WHATEVER THE NUMBERS. -/
theorem order_any (n m s : Int) (w : World) (hn : Nib w) (h0 : 0 < w.heap.size) (hn63 : n ≤ 9223372036854775807) (hm63 : m ≤ 9223372036854775807) :
    Calls Tryd.prog 3 #[.int .i64 n, .int .i64 m, .int .i64 s] w fun e w' => e = .returned (.bool true) ∧ Below w.heap.size w w' := by
  have good : ∀ x : Int, x ≤ 9223372036854775807 → ¬ (s < 1 ∨ 8 < s ∨ x < 0 ∨ (s < 8 ∧ 2 ^ (8 * s.toNat) ≤ x)) → ∃ k j : Nat, x = k ∧ s = j ∧ 1 ≤ j ∧ j ≤ 8 ∧ k ≤ 9223372036854775807 ∧ k < 2 ^ (8 * j) := by
    intro x hx h
    refine ⟨x.toNat, s.toNat, by omega, by omega, by omega, by omega, by omega, ?_⟩
    by_cases h8 : s < 8
    · have h1 : x < 2 ^ (8 * s.toNat) := by
        rcases Int.lt_or_le x (2 ^ (8 * s.toNat)) with h2 | h2
        · exact h2
        · exact absurd (.inr (.inr (.inr ⟨h8, h2⟩))) h
      have h3 : ((x.toNat : Nat) : Int) < ((2 ^ (8 * s.toNat) : Nat) : Int) := by
        rw [Int.toNat_of_nonneg (by omega)]
        simpa using h1
      exact Int.ofNat_lt.1 h3
    · obtain h : s.toNat = 8 := by omega
      rw [h]
      omega
  by_cases b1 : s < 1 ∨ 8 < s ∨ n < 0 ∨ (s < 8 ∧ 2 ^ (8 * s.toNat) ≤ n)
  · by_cases b2 : s < 1 ∨ 8 < s ∨ m < 0 ∨ (s < 8 ∧ 2 ^ (8 * s.toNat) ≤ m)
    · exact order_bad1 n m s w hn h0 b1 b2
    · obtain ⟨k, j, rfl, rfl, h1, h8, hk, hp⟩ := good m hm63 b2
      exact order_bad2 n k j w hn h0 b1 h1 h8 hk hp
  · obtain ⟨k, j, rfl, rfl, h1, h8, hk, hp⟩ := good n hn63 b1
    by_cases b2 : (j : Int) < 1 ∨ 8 < (j : Int) ∨ m < 0 ∨ ((j : Int) < 8 ∧ 2 ^ (8 * (j : Int).toNat) ≤ m)
    · exact order_bad3 m k j w hn h0 b2 h1 h8 hk hp
    · obtain ⟨k2, j2, rfl, hj, _, _, hk2, hp2⟩ := good m hm63 b2
      obtain rfl : j = j2 := by omega
      exact order_good k k2 j w hn h0 h1 h8 hk hk2 hp hp2
end Go.Proofs.YteediemhcocgdaaDoor
