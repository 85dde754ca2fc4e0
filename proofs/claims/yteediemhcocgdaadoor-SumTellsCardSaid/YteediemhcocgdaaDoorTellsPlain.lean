/-
  Four neighbouring bytes of a seal that are other ones are told: plain numbers and lists.
-/
import Derived.Test.YteediemhcocgdaaDoorSumPlain
namespace Go.Proofs.YteediemhcocgdaaDoor.SumP

theorem low_append (a b : List UInt8) : low (a ++ b) = low a + 2 ^ (8 * a.length) * low b := by
  induction a with
  | nil => simp [low]
  | cons c a ih =>
    rw [List.cons_append, low, low, ih, List.length_cons, show 8 * (a.length + 1) = 8 + 8 * a.length by omega, Nat.pow_add, Nat.mul_add, Nat.mul_assoc]
    omega
theorem low_inj : ∀ (a b : List UInt8), a.length = b.length → low a = low b → a = b
  | [], [], _, _ => rfl
  | x :: a, y :: b, h, he => by
    simp only [low] at he
    have hx := x.toNat_lt
    have hy := y.toNat_lt
    have h1 : x.toNat = y.toNat := by omega
    have h2 : low a = low b := by omega
    rw [UInt8.toNat_inj.1 h1, low_inj a b (by simpa using h) h2]
  | [], _ :: _, h, _ => by simp at h
  | _ :: _, [], h, _ => by simp at h
theorem low_t4 (s : Nat) (h : s < 2 ^ 32) : low (t4 s) = s := by
  simp only [t4, low, UInt8.toNat_ofNat']
  omega

theorem xor_lt_pow {a b k : Nat} (ha : a < 2 ^ k) (hb : b < 2 ^ k) : a ^^^ b < 2 ^ k := Nat.xor_lt_two_pow ha hb
/-- the difference of two sums of bytes that part in their last ones -/
theorem run_diff (s : Nat) (u v : List UInt8) (h : u.length = v.length) : run s u ^^^ run s v = stps (8 * u.length) (low u ^^^ low v) := by
  rw [run_low, run_low, ← h, ← stps_xor]
  congr 1
  rw [Nat.xor_comm s, Nat.xor_assoc, ← Nat.xor_assoc s s, Nat.xor_self, Nat.zero_xor]
theorem xor_xor_full (a b : Nat) : (a ^^^ full) ^^^ (b ^^^ full) = a ^^^ b := by
  rw [Nat.xor_comm b, Nat.xor_assoc, ← Nat.xor_assoc full full, Nat.xor_self, Nat.zero_xor]
theorem eq_of_xor_zero {a b : Nat} (h : a ^^^ b = 0) : a = b := xor_eq_zero h

theorem xor_lt_of_div {a b k : Nat} (h : a / 2 ^ k = b / 2 ^ k) : a ^^^ b < 2 ^ k := by
  have h1 : (a ^^^ b) / 2 ^ k = 0 := by
    rw [← Nat.shiftRight_eq_div_pow, Nat.shiftRight_xor_distrib, Nat.shiftRight_eq_div_pow, Nat.shiftRight_eq_div_pow, h, Nat.xor_self]
  rcases Nat.lt_or_ge (a ^^^ b) (2 ^ k) with h2 | h2
  · exact h2
  · have := Nat.div_pos h2 (Nat.pow_pos (n := k) (show 0 < 2 by omega))
    omega

/-- u, v of at most four bytes each, behind one beginning: the sums' difference below 2^(32 - 8 |u|): then u = v. -/
theorem diff_small (s : Nat) (u v : List UInt8) (h : u.length = v.length) (h4 : u.length ≤ 4) (hd : run s u ^^^ run s v < 2 ^ (32 - 8 * u.length)) : u = v := by
  rw [run_diff s u v h] at hd
  have hu := low_lt u
  have hv := low_lt v
  rw [← h] at hv
  have hx := xor_lt_pow hu hv
  have h32 : low u ^^^ low v < 2 ^ 32 := Nat.lt_of_lt_of_le hx (Nat.pow_le_pow_right (by omega) (by omega))
  have hb := stps_back (8 * u.length) (by omega) h32 hd
  have h0 : stps (8 * u.length) (low u ^^^ low v) = 0 := by
    rcases Nat.eq_zero_or_pos (stps (8 * u.length) (low u ^^^ low v)) with h | h
    · exact h
    · have : 2 ^ (8 * u.length) * 1 ≤ 2 ^ (8 * u.length) * stps (8 * u.length) (low u ^^^ low v) := Nat.mul_le_mul_left _ h
      omega
  rw [h0, Nat.mul_zero] at hb
  exact low_inj u v h (eq_of_xor_zero hb)

theorem take_of_agree {a b : List UInt8} {k : Nat} (h : ∀ i, i < k → a[i]? = b[i]?) : a.take k = b.take k := by
  apply List.ext_getElem?
  intro i
  rw [List.getElem?_take, List.getElem?_take]
  split
  · rename_i hi; exact h i hi
  · rfl
theorem drop_of_agree {a b : List UInt8} {k : Nat} (h : ∀ i, k ≤ i → a[i]? = b[i]?) : a.drop k = b.drop k := by
  apply List.ext_getElem?
  intro i
  rw [List.getElem?_drop, List.getElem?_drop]
  exact h _ (by omega)

/-- Two seals of one length that agree outside four neighbours are one. -/
theorem seals_agree (b m : List UInt8) (k : Nat) (hl : b.length = m.length) (h : ∀ i, i < k ∨ k + 4 ≤ i → (sealed b)[i]? = (sealed m)[i]?) : b = m := by
  have hB : ∀ i, i < b.length → (sealed b)[i]? = b[i]? := fun i hi => List.getElem?_append_left hi
  have hM : ∀ i, i < b.length → (sealed m)[i]? = m[i]? := fun i hi => List.getElem?_append_left (by omega)
  have hT : ∀ j, (sealed b)[b.length + j]? = (t4 (sum b))[j]? := fun j => by unfold sealed; rw [List.getElem?_append_right (by omega)]; congr 1; omega
  have hU : ∀ j, (sealed m)[b.length + j]? = (t4 (sum m))[j]? := fun j => by unfold sealed; rw [List.getElem?_append_right (by omega)]; congr 1; omega
  have hsb := sum_lt b
  have hsm := sum_lt m
  have hlb : (t4 (sum b)).length = 4 := rfl
  have hlm : (t4 (sum m)).length = 4 := rfl
  rcases Nat.lt_or_ge k b.length with hk | hk
  · -- the first k bytes are one
    have hpre : b.take k = m.take k := take_of_agree fun i hi => by rw [← hB i (by omega), ← hM i (by omega)]; exact h i (.inl hi)
    rcases Nat.lt_or_ge b.length (k + 4) with h3 | h3
    · -- the four reach into the tail
      have hb : b = b.take k ++ b.drop k := (List.take_append_drop k b).symm
      have hm : m = m.take k ++ m.drop k := (List.take_append_drop k m).symm
      have hdl : (b.drop k).length = (m.drop k).length := by simp [hl]
      have hdk : (b.drop k).length = b.length - k := by simp
      -- the tails agree from 4 - a on
      have htail : (t4 (sum b)).drop (4 - (b.length - k)) = (t4 (sum m)).drop (4 - (b.length - k)) := drop_of_agree fun i hi => by
        rw [← hT, ← hU]; exact h _ (.inr (by omega))
      have hx : sum b ^^^ sum m < 2 ^ (8 * (4 - (b.length - k))) := by
        have e1 := low_append ((t4 (sum b)).take (4 - (b.length - k))) ((t4 (sum b)).drop (4 - (b.length - k)))
        have e2 := low_append ((t4 (sum m)).take (4 - (b.length - k))) ((t4 (sum m)).drop (4 - (b.length - k)))
        rw [List.take_append_drop, low_t4 _ hsb] at e1
        rw [List.take_append_drop, low_t4 _ hsm, ← htail] at e2
        have l1 : ((t4 (sum b)).take (4 - (b.length - k))).length = 4 - (b.length - k) := by rw [List.length_take, hlb]; omega
        have l2 : ((t4 (sum m)).take (4 - (b.length - k))).length = 4 - (b.length - k) := by rw [List.length_take, hlm]; omega
        have b1 := low_lt ((t4 (sum b)).take (4 - (b.length - k)))
        have b2 := low_lt ((t4 (sum m)).take (4 - (b.length - k)))
        rw [l1] at b1 e1
        rw [l2] at b2 e2
        refine xor_lt_of_div ?_
        rw [e1, e2, Nat.add_mul_div_left _ _ (Nat.pow_pos (by omega)), Nat.add_mul_div_left _ _ (Nat.pow_pos (by omega)), Nat.div_eq_of_lt b1, Nat.div_eq_of_lt b2]
      have hs : run full b ^^^ run full m < 2 ^ (32 - 8 * (b.length - k)) := by
        have := xor_xor_full (run full b) (run full m)
        unfold sum at hx
        rw [this] at hx
        rwa [show 32 - 8 * (b.length - k) = 8 * (4 - (b.length - k)) by omega]
      rw [hb, hm, run_append, run_append, ← hpre, ← hb] at hs
      have hd := diff_small _ _ _ hdl (by omega) (by rw [hdk]; exact hs)
      rw [hb, hm, hpre, hd]
    · -- the four lie in the bytes: the tails are one, and so the sums
      have htail : t4 (sum b) = t4 (sum m) := by
        have := drop_of_agree (a := t4 (sum b)) (b := t4 (sum m)) (k := 0) fun i _ => by rw [← hT, ← hU]; exact h _ (.inr (by omega))
        simpa using this
      have hsum : sum b = sum m := by rw [← low_t4 _ hsb, htail, low_t4 _ hsm]
      have hrun : run full b = run full m := by
        unfold sum at hsum
        rw [Nat.xor_comm _ full, Nat.xor_comm _ full] at hsum
        exact xor_left_cancel hsum
      have hb : b = b.take k ++ ((b.drop k).take 4 ++ (b.drop k).drop 4) := by rw [List.take_append_drop, List.take_append_drop]
      have hm : m = m.take k ++ ((m.drop k).take 4 ++ (m.drop k).drop 4) := by rw [List.take_append_drop, List.take_append_drop]
      have hpost : (b.drop k).drop 4 = (m.drop k).drop 4 := by
        rw [List.drop_drop, List.drop_drop]
        refine drop_of_agree fun i hi => ?_
        rcases Nat.lt_or_ge i b.length with hi2 | hi2
        · rw [← hB i hi2, ← hM i hi2]; exact h i (.inr (by omega))
        · rw [List.getElem?_eq_none hi2, List.getElem?_eq_none (by omega)]
      have hfull : full < 2 ^ 32 := by unfold full; omega
      rw [hb, hm, run_append, run_append, run_append, run_append, ← hpre, ← hpost] at hrun
      have hmid := run_inj _ (run_lt _ (run_lt _ hfull)) (run_lt _ (run_lt _ hfull)) hrun
      have hl4 : ((b.drop k).take 4).length = ((m.drop k).take 4).length := by simp [hl]
      have hl44 : ((b.drop k).take 4).length = 4 := by simp; omega
      have hd := diff_small _ _ _ hl4 (by omega) (by rw [hmid, Nat.xor_self]; exact Nat.pow_pos (by omega))
      rw [hb, hm, hpre, hpost, hd]
  · have e : b.take b.length = m.take b.length := take_of_agree fun i hi => by rw [← hB i hi, ← hM i hi]; exact h i (.inl (by omega))
    rwa [List.take_length, hl, List.take_length] at e

/-- x with j of the bytes from k on turned by e. -/
def tw (x : List UInt8) (k : Nat) (e : List UInt8) : Nat → List UInt8
  | 0 => x
  | j + 1 => (tw x k e j).set (k + j) ((tw x k e j).getD (k + j) 0 ^^^ e.getD j 0)
theorem tw_length (x : List UInt8) (k : Nat) (e : List UInt8) (j : Nat) : (tw x k e j).length = x.length := by
  induction j with
  | zero => rfl
  | succ j ih => simp [tw, ih]
theorem tw_out (x : List UInt8) (k : Nat) (e : List UInt8) (j i : Nat) (h : i < k ∨ k + j ≤ i) : (tw x k e j)[i]? = x[i]? := by
  induction j with
  | zero => rfl
  | succ j ih => rw [tw, List.getElem?_set_ne (by omega), ih (by omega)]
theorem tw_in (x : List UInt8) (k : Nat) (e : List UInt8) (j i : Nat) (h : i < j) (hl : k + i < x.length) : (tw x k e j)[k + i]? = some (x.getD (k + i) 0 ^^^ e.getD i 0) := by
  induction j with
  | zero => omega
  | succ j ih =>
    rw [tw]
    by_cases hi : i = j
    · subst hi
      rw [List.getElem?_set_self (by rw [tw_length]; exact hl), List.getD_eq_getElem?_getD, tw_out _ _ _ _ _ (.inr (Nat.le_refl _)), ← List.getD_eq_getElem?_getD]
    · rw [List.getElem?_set_ne (by omega), ih (by omega)]
/-- the first j of e are 0 -/
def sm (e : List UInt8) (j : Nat) : Bool := (e.take j).all (· == 0)
theorem sm_succ (e : List UInt8) (j : Nat) (h : j < e.length) : sm e (j + 1) = (sm e j && (e.getD j 0 == 0)) := by
  unfold sm
  rw [List.take_succ_eq_append_getElem h, List.all_append]
  simp [List.getD, h]
theorem sm_iff (e : List UInt8) (j : Nat) (h : j ≤ e.length) : sm e j = true ↔ ∀ i, i < j → e.getD i 0 = 0 := by
  induction j with
  | zero => simp [sm]
  | succ j ih =>
    rw [sm_succ e j (by omega), Bool.and_eq_true, ih (by omega), beq_iff_eq]
    constructor
    · rintro ⟨h1, h2⟩ i hi
      rcases Nat.lt_or_ge i j with h3 | h3
      · exact h1 i h3
      · rw [show i = j by omega]; exact h2
    · intro h1
      exact ⟨fun i hi => h1 i (by omega), h1 j (by omega)⟩
theorem u8_xor_self {a b : UInt8} (h : a ^^^ b = a) : b = 0 := by
  have h1 : a ^^^ (a ^^^ b) = a ^^^ a := by rw [h]
  rwa [← UInt8.xor_assoc, UInt8.xor_self, UInt8.zero_xor] at h1
/-- THE LAW: a seal with j of four neighbours turned is opened just where nothing was turned. -/
theorem tells (b : List UInt8) (k j : Nat) (e : List UInt8) (he : e.length = 4) (hj : j ≤ 4) (hk : k + j ≤ (sealed b).length) :
    (openR (tw (sealed b) k e j)).isSome = sm e j := by
  have out : ∀ i, i < k ∨ k + j ≤ i → (tw (sealed b) k e j)[i]? = (sealed b)[i]? := tw_out _ _ _ _
  rw [Bool.eq_iff_iff, sm_iff e j (by omega)]
  constructor
  · intro h i hi
    obtain ⟨m, hm⟩ := Option.isSome_iff_exists.1 h
    have hs := sealed_of_openR hm
    have hl : b.length = m.length := by
      have := congrArg List.length hs
      rw [tw_length, sealed_length, sealed_length] at this
      omega
    have hbm := seals_agree b m k hl fun i hi => by rw [hs]; exact (out i (by omega)).symm
    subst hbm
    have h1 := tw_in (sealed b) k e j i hi (by omega)
    rw [← hs] at h1
    have h2 : (sealed b)[k + i]? = some ((sealed b).getD (k + i) 0) := by
      rw [List.getD_eq_getElem?_getD, List.getElem?_eq_getElem (by omega)]; rfl
    rw [h2] at h1
    exact u8_xor_self (Option.some.inj h1).symm
  · intro h
    have heq : tw (sealed b) k e j = sealed b := by
      apply List.ext_getElem?
      intro i
      by_cases hi : i < k ∨ k + j ≤ i
      · exact out i hi
      · obtain ⟨d, rfl⟩ : ∃ d, i = k + d := ⟨i - k, by omega⟩
        rw [tw_in _ _ _ _ d (by omega) (by omega), h d (by omega), List.getD_eq_getElem?_getD, List.getElem?_eq_getElem (by omega)]
        simp
    rw [heq, openR_sealed]
    rfl
end Go.Proofs.YteediemhcocgdaaDoor.SumP
