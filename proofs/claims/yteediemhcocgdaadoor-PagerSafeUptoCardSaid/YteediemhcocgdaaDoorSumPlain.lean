import Derived.Below
namespace Go.Proofs.YteediemhcocgdaaDoor.SumP

/-- One step of a sum. -/
def stp (s : Nat) : Nat := if s % 2 = 1 then (s / 2) ^^^ 3988292384 else s / 2
def stps : Nat → Nat → Nat
  | 0, s => s
  | k + 1, s => stps k (stp s)
def tab (i : Nat) : Nat := [0x00000000, 0x1db71064, 0x3b6e20c8, 0x26d930ac, 0x76dc4190, 0x6b6b51f4, 0x4db26158, 0x5005713c, 0xedb88320, 0xf00f9344, 0xd6d6a3e8, 0xcb61b38c, 0x9b64c2b0, 0x86d3d2d4, 0xa00ae278, 0xbdbdf21c].getD i 0
def nib (s : Nat) : Nat := (s >>> 4) ^^^ tab (s &&& 15)
/-- one byte -/
def byt (s c : Nat) : Nat := stps 8 (s ^^^ c)

theorem div2_xor (a b : Nat) : (a ^^^ b) / 2 = a / 2 ^^^ b / 2 := Nat.xor_div_two
theorem mod2_xor (a b : Nat) : (a ^^^ b) % 2 = (a + b) % 2 := by
  have h := Nat.xor_mod_two_pow (a := a) (b := b) (n := 1)
  rw [Nat.pow_one] at h
  rw [h]
  have ha : a % 2 = 0 ∨ a % 2 = 1 := by omega
  have hb : b % 2 = 0 ∨ b % 2 = 1 := by omega
  rcases ha with ha | ha <;> rcases hb with hb | hb <;> rw [ha, hb] <;> simp <;> omega

theorem stp_xor (a b : Nat) : stp (a ^^^ b) = stp a ^^^ stp b := by
  unfold stp
  rw [mod2_xor, div2_xor]
  have ha : a % 2 = 0 ∨ a % 2 = 1 := by omega
  have hb : b % 2 = 0 ∨ b % 2 = 1 := by omega
  have e : ∀ x y z : Nat, (x ^^^ z) ^^^ (y ^^^ z) = x ^^^ y := by
    intro x y z
    rw [Nat.xor_assoc, Nat.xor_comm y z, ← Nat.xor_assoc z z, Nat.xor_self, Nat.zero_xor]
  rcases ha with ha | ha <;> rcases hb with hb | hb
  · rw [if_neg (by omega), if_neg (by omega), if_neg (by omega)]
  · rw [if_pos (by omega), if_neg (by omega), if_pos (by omega), Nat.xor_assoc]
  · rw [if_pos (by omega), if_pos (by omega), if_neg (by omega), Nat.xor_assoc, Nat.xor_assoc, Nat.xor_comm (b / 2)]
  · rw [if_neg (by omega), if_pos (by omega), if_pos (by omega), e]
theorem stps_xor (k : Nat) : ∀ a b : Nat, stps k (a ^^^ b) = stps k a ^^^ stps k b := by
  induction k with
  | zero => intro a b; rfl
  | succ k ih => intro a b; simp only [stps]; rw [stp_xor, ih]
theorem stps_add (k m : Nat) : ∀ s, stps (k + m) s = stps m (stps k s) := by
  induction k with
  | zero => intro s; simp [stps]
  | succ k ih => intro s; rw [Nat.succ_add]; simp only [stps]; exact ih _
theorem stp_even (a : Nat) : stp (2 * a) = a := by unfold stp; rw [if_neg (by omega)]; omega
theorem stps_shift (k : Nat) : ∀ a, stps k (2 ^ k * a) = a := by
  induction k with
  | zero => intro a; simp [stps]
  | succ k ih => intro a; simp only [stps]; rw [show 2 ^ (k + 1) * a = 2 * (2 ^ k * a) by rw [Nat.pow_succ, Nat.mul_comm (2 ^ k) 2, Nat.mul_assoc], stp_even, ih]
/-- bits that don't meet: a sum is an exclusive or -/
theorem add_eq_xor (k a b : Nat) (h : b < 2 ^ k) : 2 ^ k * a + b = (2 ^ k * a) ^^^ b := by
  apply Nat.eq_of_testBit_eq
  intro i
  rw [Nat.testBit_xor, Nat.testBit_two_pow_mul_add a h i, Nat.testBit_two_pow_mul]
  by_cases hi : i < k
  · simp [hi, Nat.not_le.2 hi]
  · simp [hi]
    have : b.testBit i = false := Nat.testBit_lt_two_pow (Nat.lt_of_lt_of_le h (Nat.pow_le_pow_right (by omega) (by omega)))
    simp [this, Nat.not_lt.1 hi]
theorem stps4_small : ∀ r, r < 16 → stps 4 r = tab r := by decide +kernel
theorem nib_eq (s : Nat) : nib s = stps 4 s := by
  unfold nib
  have h15 : s &&& 15 = s % 16 := Nat.and_two_pow_sub_one_eq_mod s 4
  rw [h15, Nat.shiftRight_eq_div_pow]
  have hs : s = 2 ^ 4 * (s / 16) + s % 16 := by omega
  conv => rhs; rw [hs, add_eq_xor 4 _ _ (by omega), stps_xor, stps_shift, stps4_small _ (by omega)]
theorem nib_nib (s : Nat) : nib (nib s) = stps 8 s := by rw [nib_eq, nib_eq, ← stps_add]

/-- the running sum -/
def run (s : Nat) (l : List UInt8) : Nat := l.foldl (fun s c => byt s c.toNat) s
def full : Nat := 4294967295
def sum (l : List UInt8) : Nat := run full l ^^^ full

theorem stp_lt {s : Nat} (h : s < 2 ^ 32) : stp s < 2 ^ 32 := by
  unfold stp
  split
  · exact Nat.xor_lt_two_pow (by omega) (by omega)
  · omega
theorem stps_lt (k : Nat) : ∀ {s : Nat}, s < 2 ^ 32 → stps k s < 2 ^ 32 := by
  induction k with
  | zero => intro s h; exact h
  | succ k ih => intro s h; exact ih (stp_lt h)
theorem byt_lt {s : Nat} (h : s < 2 ^ 32) (c : UInt8) : byt s c.toNat < 2 ^ 32 := stps_lt 8 (Nat.xor_lt_two_pow h (by have := c.toNat_lt; omega))
theorem run_lt (l : List UInt8) : ∀ {s : Nat}, s < 2 ^ 32 → run s l < 2 ^ 32 := by
  induction l with
  | nil => intro s h; exact h
  | cons c l ih => intro s h; exact ih (byt_lt h c)
theorem sum_lt (l : List UInt8) : sum l < 2 ^ 32 := Nat.xor_lt_two_pow (run_lt l (by unfold full; omega)) (by unfold full; omega)

/-! ### Telling -/
theorem xor_left_cancel {a b c : Nat} (h : a ^^^ b = a ^^^ c) : b = c := by
  have := congrArg (a ^^^ ·) h
  simpa [← Nat.xor_assoc] using this
theorem xor_eq_zero {a b : Nat} (h : a ^^^ b = 0) : a = b := by
  have := congrArg (· ^^^ b) h
  simpa [Nat.xor_assoc] using this
/-- a step of a number without its highest bit was a doubling -/
theorem stp_back {s : Nat} (hs : s < 2 ^ 32) (h : stp s < 2 ^ 31) : s = 2 * stp s := by
  unfold stp at h ⊢
  split
  · rename_i h1
    rw [if_pos h1] at h
    exfalso
    have ht : ((s / 2) ^^^ 3988292384).testBit 31 = false := Nat.testBit_lt_two_pow h
    rw [Nat.testBit_xor, Nat.testBit_lt_two_pow (show s / 2 < 2 ^ 31 by omega)] at ht
    exact absurd ht (by decide)
  · omega
theorem stps_back (k : Nat) : ∀ {s : Nat}, k ≤ 32 → s < 2 ^ 32 → stps k s < 2 ^ (32 - k) → s = 2 ^ k * stps k s := by
  induction k with
  | zero => intro s _ _ _; simp [stps]
  | succ k ih =>
    intro s hk hs h
    simp only [stps] at h ⊢
    have hp : 2 ^ (32 - (k + 1)) ≤ 2 ^ (32 - k) := Nat.pow_le_pow_right (by omega) (by omega)
    have h1 := ih (s := stp s) (by omega) (stp_lt hs) (by omega)
    have h2 : stp s < 2 ^ 31 := by
      rw [h1]
      calc 2 ^ k * stps k (stp s) < 2 ^ k * 2 ^ (32 - (k + 1)) := Nat.mul_lt_mul_of_pos_left h (Nat.pow_pos (by omega))
        _ = 2 ^ 31 := by rw [← Nat.pow_add]; congr 1; omega
    rw [stp_back hs h2]
    conv => lhs; rw [h1]
    rw [Nat.pow_succ, Nat.mul_comm (2 ^ k) 2, Nat.mul_assoc]
    congr 2
    rw [← stp_back hs h2]
/-- bytes as one number, the first one lowest -/
def low : List UInt8 → Nat
  | [] => 0
  | c :: l => c.toNat + 256 * low l
theorem low_lt (l : List UInt8) : low l < 2 ^ (8 * l.length) := by
  induction l with
  | nil => simp [low]
  | cons c l ih =>
    have := c.toNat_lt
    rw [List.length_cons, show 8 * (l.length + 1) = 8 + 8 * l.length by omega, Nat.pow_add]
    simp only [low]
    omega
theorem run_low (l : List UInt8) : ∀ s, run s l = stps (8 * l.length) (s ^^^ low l) := by
  induction l with
  | nil => intro s; simp [run, low, stps]
  | cons c l ih =>
    intro s
    show run (byt s c.toNat) l = _
    rw [ih, List.length_cons, show 8 * (l.length + 1) = 8 + 8 * l.length by omega, stps_add]
    congr 1
    simp only [low, byt]
    have hc : c.toNat < 2 ^ 8 := c.toNat_lt
    rw [Nat.add_comm, show 256 * low l = 2 ^ 8 * low l from rfl, add_eq_xor 8 _ _ hc, Nat.xor_comm (2 ^ 8 * low l), ← Nat.xor_assoc, stps_xor 8 (s ^^^ c.toNat), stps_shift]
theorem run_append (s : Nat) (a b : List UInt8) : run s (a ++ b) = run (run s a) b := List.foldl_append
theorem run_snoc (s : Nat) (l : List UInt8) (k : Nat) (h : k < l.length) : run s (l.take (k + 1)) = byt (run s (l.take k)) (l.getD k 0).toNat := by
  rw [List.take_succ_eq_append_getElem h, run_append]
  simp [run, List.getD, h]
theorem run_inj (l : List UInt8) : ∀ {s t : Nat}, s < 2 ^ 32 → t < 2 ^ 32 → run s l = run t l → s = t := by
  have key : ∀ {s : Nat}, s < 2 ^ 32 → stps 8 s = 0 → s = 0 := by
    intro s hs h
    have := stps_back 8 (s := s) (by omega) hs (by rw [h]; exact Nat.pow_pos (by omega))
    omega
  induction l with
  | nil => intro s t _ _ h; exact h
  | cons c l ih =>
    intro s t hs ht h
    have h1 := ih (byt_lt hs c) (byt_lt ht c) h
    unfold byt at h1
    have h2 : stps 8 ((s ^^^ c.toNat) ^^^ (t ^^^ c.toNat)) = 0 := by rw [stps_xor, h1, Nat.xor_self]
    have h3 := key (Nat.xor_lt_two_pow (Nat.xor_lt_two_pow hs (by have := c.toNat_lt; omega)) (Nat.xor_lt_two_pow ht (by have := c.toNat_lt; omega))) h2
    have h4 := xor_eq_zero h3
    rw [Nat.xor_comm s, Nat.xor_comm t] at h4
    exact xor_left_cancel h4

/-! ### Numbers as bytes -/
/-- n in k bytes, the highest first -/
def be (n : Nat) : Nat → List UInt8
  | 0 => []
  | k + 1 => UInt8.ofNat (n / 2 ^ (8 * k)) :: be n k
theorem be_length (n k : Nat) : (be n k).length = k := by induction k with | zero => rfl | succ k ih => simp [be, ih]
theorem pad_set (n s k : Nat) (h : k < s) : (List.replicate (s - k) (0 : UInt8) ++ be n k).set (s - 1 - k) (UInt8.ofNat (n / 2 ^ (8 * k))) = List.replicate (s - (k + 1)) 0 ++ be n (k + 1) := by
  obtain ⟨m, rfl⟩ : ∃ m, s = k + 1 + m := ⟨s - (k + 1), by omega⟩
  rw [show k + 1 + m - k = m + 1 by omega, show k + 1 + m - 1 - k = m by omega, show k + 1 + m - (k + 1) = m by omega, List.replicate_succ', List.append_assoc,
    List.set_append_right _ _ (by simp)]
  simp [be]
/-- bytes as a number, the highest first -/
def rd (l : List UInt8) : Nat := l.foldl (fun u b => u * 256 + b.toNat) 0
theorem rd_snoc (l : List UInt8) (k : Nat) (h : k < l.length) : rd (l.take (k + 1)) = rd (l.take k) * 256 + (l.getD k 0).toNat := by
  unfold rd
  rw [List.take_succ_eq_append_getElem h, List.foldl_append, List.getD_eq_getElem?_getD, List.getElem?_eq_getElem h]
  rfl
theorem rd_lt (l : List UInt8) : rd l < 2 ^ (8 * l.length) := by
  have key : ∀ (l : List UInt8) (u m : Nat), u < 2 ^ (8 * m) → l.foldl (fun u (b : UInt8) => u * 256 + b.toNat) u < 2 ^ (8 * (m + l.length)) := by
    intro l
    induction l with
    | nil => intro u m h; simpa using h
    | cons b l ih =>
      intro u m h
      have hb := b.toNat_lt
      have h1 := ih (u * 256 + b.toNat) (m + 1) (by rw [show 8 * (m + 1) = 8 * m + 8 by omega, Nat.pow_add]; omega)
      rw [List.foldl_cons, List.length_cons, show m + (l.length + 1) = m + 1 + l.length by omega]
      exact h1
  have h := key l 0 0 (by simp)
  simpa [rd] using h
/-- what Read answers -/
def rdR (l : List UInt8) (at_ size : Int) : Int × Int :=
  if size < 1 ∨ 8 < size ∨ at_ < 0 ∨ (l.length : Int) - size < at_ then (0, 1)
  else if 9223372036854775807 < rd ((l.drop at_.toNat).take size.toNat) then (0, 1) else ((rd ((l.drop at_.toNat).take size.toNat) : Int), 0)

/-! ### The tail, seals -/
/-- a sum as four bytes, the lowest first -/
def t4 (s : Nat) : List UInt8 := [UInt8.ofNat s, UInt8.ofNat (s / 256), UInt8.ofNat (s / 65536), UInt8.ofNat (s / 16777216)]
def sealed (l : List UInt8) : List UInt8 := l ++ t4 (sum l)
theorem sealed_length (l : List UInt8) : (sealed l).length = l.length + 4 := by simp [sealed, t4]

/-- what Open answers: the bytes, if those are a seal -/
def openR (l : List UInt8) : Option (List UInt8) := if 4 ≤ l.length ∧ t4 (sum (l.take (l.length - 4))) = l.drop (l.length - 4) then some (l.take (l.length - 4)) else none
theorem split4 (l : List UInt8) (h : 4 ≤ l.length) : ∃ m x0 x1 x2 x3, l = m ++ [x0, x1, x2, x3] := by
  have h4 : (l.drop (l.length - 4)).length = 4 := by rw [List.length_drop]; omega
  match hd : l.drop (l.length - 4), h4 with
  | [x0, x1, x2, x3], _ => exact ⟨l.take (l.length - 4), x0, x1, x2, x3, by rw [← hd, List.take_append_drop]⟩
theorem openR_split (m : List UInt8) (x0 x1 x2 x3 : UInt8) : openR (m ++ [x0, x1, x2, x3]) = if t4 (sum m) = [x0, x1, x2, x3] then some m else none := by
  unfold openR
  have h : (m ++ [x0, x1, x2, x3]).length - 4 = m.length := by simp
  rw [h, List.take_left, List.drop_left]
  by_cases hq : t4 (sum m) = [x0, x1, x2, x3]
  · rw [if_pos ⟨by simp, hq⟩, if_pos hq]
  · rw [if_neg (fun hh => hq hh.2), if_neg hq]
theorem t4_split (s : Nat) : ∃ x0 x1 x2 x3, t4 s = [x0, x1, x2, x3] := ⟨_, _, _, _, rfl⟩
theorem openR_sealed (l : List UInt8) : openR (sealed l) = some l := by
  obtain ⟨x0, x1, x2, x3, h⟩ := t4_split (sum l)
  unfold sealed
  rw [h, openR_split, if_pos h]
theorem sealed_of_openR {l m : List UInt8} (h : openR l = some m) : sealed m = l := by
  have h4 : 4 ≤ l.length := by
    rcases Nat.lt_or_ge l.length 4 with h' | h'
    · unfold openR at h
      rw [if_neg (by omega)] at h
      cases h
    · exact h'
  obtain ⟨m', x0, x1, x2, x3, rfl⟩ := split4 l h4
  rw [openR_split] at h
  split at h
  · rename_i heq
    obtain rfl := Option.some.inj h
    unfold sealed
    rw [heq]
  · cases h

theorem rd_cons (b : UInt8) (l : List UInt8) : rd (b :: l) = b.toNat * 2 ^ (8 * l.length) + rd l := by
  have key : ∀ (l : List UInt8) (u : Nat), l.foldl (fun u (b : UInt8) => u * 256 + b.toNat) u = u * 2 ^ (8 * l.length) + l.foldl (fun u (b : UInt8) => u * 256 + b.toNat) 0 := by
    intro l
    induction l with
    | nil => intro u; simp
    | cons b l ih =>
      intro u
      rw [List.foldl_cons, List.foldl_cons, ih, ih (0 * 256 + b.toNat), List.length_cons, show 8 * (l.length + 1) = 8 + 8 * l.length by omega, Nat.pow_add, Nat.add_mul, Nat.zero_mul, Nat.zero_add, Nat.mul_assoc, Nat.add_assoc]
  show (b :: l).foldl (fun u (b : UInt8) => u * 256 + b.toNat) 0 = _
  rw [List.foldl_cons, key]
  simp [rd]
theorem rd_be (n k : Nat) : rd (be n k) = n % 2 ^ (8 * k) := by
  induction k with
  | zero => simp [be, rd, Nat.mod_one]
  | succ k ih =>
    rw [be, rd_cons, ih, be_length, UInt8.toNat_ofNat', show 8 * (k + 1) = 8 * k + 8 by omega, Nat.pow_add, Nat.mod_mul, Nat.mul_comm, Nat.add_comm]
theorem rdR_between (n k : Nat) (h1 : 1 ≤ k) (h8 : k ≤ 8) (hn : n < 2 ^ (8 * k)) (h63 : n ≤ 9223372036854775807) : rdR ([7] ++ be n k ++ [9]) 1 (k : Int) = ((n : Int), 0) := by
  unfold rdR
  have hl := be_length n k
  rw [if_neg (by simp [hl]; omega)]
  have e : (([7] ++ be n k ++ [9]).drop (1 : Int).toNat).take (k : Int).toNat = be n k := by
    show (be n k ++ [9]).take k = be n k
    rw [List.take_append_of_le_length (by omega), List.take_of_length_le (by omega)]
  rw [e, rd_be, Nat.mod_eq_of_lt hn, if_neg (by omega)]

theorem rd_append (a b : List UInt8) : rd (a ++ b) = rd a * 2 ^ (8 * b.length) + rd b := by
  induction a with
  | nil => simp [rd]
  | cons x a ih => rw [List.cons_append, rd_cons, rd_cons, ih, List.length_append, Nat.mul_add, Nat.pow_add, Nat.add_mul, Nat.mul_assoc, Nat.add_assoc]
end Go.Proofs.YteediemhcocgdaaDoor.SumP
