/-
  A heap of numbers: the plain laws. No program in sight.
-/
namespace Go.Proofs.YteediemhcocgdaaDoor.HeapP

def at_ (l : List Int) (i : Nat) : Int := l.getD i 0
def IsHeap (l : List Int) : Prop := ∀ j, 0 < j → j < l.length → at_ l ((j - 1) / 2) ≤ at_ l j
def swap (l : List Int) (i k : Nat) : List Int := (l.set i (at_ l k)).set k (at_ l i)

theorem at_set (l : List Int) (i j : Nat) (x : Int) (hi : i < l.length) : at_ (l.set i x) j = if i = j then x else at_ l j := by
  unfold at_
  rw [List.getD_eq_getElem?_getD, List.getD_eq_getElem?_getD, List.getElem?_set]
  by_cases h : i = j
  · subst h
    simp [hi]
  · rw [if_neg h, if_neg h]
theorem swap_length (l : List Int) (i k : Nat) : (swap l i k).length = l.length := by simp [swap]
theorem at_swap (l : List Int) (i k j : Nat) (hi : i < l.length) (hk : k < l.length) : at_ (swap l i k) j = if k = j then at_ l i else if i = j then at_ l k else at_ l j := by
  unfold swap
  rw [at_set _ _ _ _ (by simpa using hk), at_set _ _ _ _ hi]
theorem at_eq (l : List Int) (i : Nat) (hi : i < l.length) : at_ l i = l[i] := by simp [at_, List.getD, hi]
theorem swap_perm (l : List Int) (i k : Nat) (hi : i < l.length) (hk : k < l.length) : (swap l i k).Perm l := by
  unfold swap
  rw [at_eq l i hi, at_eq l k hk]
  exact List.set_set_perm hi hk

/-- A heap but for position i, which may be too small. -/
def UpInv (l : List Int) (i : Nat) : Prop :=
  (∀ j, 0 < j → j < l.length → j ≠ i → at_ l ((j - 1) / 2) ≤ at_ l j) ∧ ∀ j, 0 < j → j < l.length → (j - 1) / 2 = i → 0 < i → at_ l ((i - 1) / 2) ≤ at_ l j
theorem up_start (l : List Int) (x : Int) (h : IsHeap l) : UpInv (l ++ [x]) l.length := by
  have hat : ∀ j, j < l.length → at_ (l ++ [x]) j = at_ l j := fun j hj => by
    unfold at_
    rw [List.getD_eq_getElem?_getD, List.getElem?_append_left hj, List.getD_eq_getElem?_getD]
  refine ⟨fun j h0 hj hne => ?_, fun j h0 hj hp hpos => ?_⟩
  · rw [List.length_append, List.length_singleton] at hj
    rw [hat j (by omega), hat _ (by omega)]
    exact h j h0 (by omega)
  · rw [List.length_append, List.length_singleton] at hj
    omega
theorem up_end (l : List Int) (i : Nat) (h : UpInv l i) (hs : i = 0 ∨ at_ l ((i - 1) / 2) ≤ at_ l i) : IsHeap l := fun j h0 hj => by
  by_cases hji : j = i
  · subst hji
    rcases hs with rfl | hs
    · omega
    · exact hs
  · exact h.1 j h0 hj hji
theorem up_step (l : List Int) (i : Nat) (h : UpInv l i) (h0 : 0 < i) (hi : i < l.length) (hs : at_ l i < at_ l ((i - 1) / 2)) : UpInv (swap l i ((i - 1) / 2)) ((i - 1) / 2) := by
  have hp : (i - 1) / 2 < l.length := by omega
  have hat := fun j => at_swap l i ((i - 1) / 2) j hi hp
  refine ⟨fun j hj0 hj hne => ?_, fun j hj0 hj hpj hpos => ?_⟩
  · rw [swap_length] at hj
    rw [hat, hat]
    by_cases hji : j = i
    · subst hji
      rw [if_pos rfl, if_neg (by omega), if_pos rfl]
      omega
    · have h1 := h.1 j hj0 hj hji
      by_cases hpp : (j - 1) / 2 = (i - 1) / 2
      · rw [if_pos hpp.symm, if_neg (by omega), if_neg (by omega)]
        rw [hpp] at h1
        omega
      · rw [if_neg (fun e => hpp e.symm)]
        by_cases hpi : (j - 1) / 2 = i
        · rw [if_pos hpi.symm, if_neg (by omega), if_neg (by omega)]
          exact h.2 j hj0 hj hpi h0
        · rw [if_neg (fun e => hpi e.symm), if_neg (by omega), if_neg (by omega)]
          exact h1
  · rw [swap_length] at hj
    rw [hat, hat, if_neg (by omega), if_neg (by omega)]
    have hgp := h.1 ((i - 1) / 2) hpos (by omega) (by omega)
    by_cases hji : j = i
    · subst hji
      rw [if_neg (by omega), if_pos rfl]
      exact hgp
    · rw [if_neg (by omega), if_neg (by omega)]
      have := h.1 j hj0 hj hji
      rw [hpj] at this
      omega

/-- A heap but for position i, which may be too great. -/
def DownInv (l : List Int) (i : Nat) : Prop :=
  (∀ j, 0 < j → j < l.length → (j - 1) / 2 ≠ i → at_ l ((j - 1) / 2) ≤ at_ l j) ∧ ∀ j, 0 < j → j < l.length → (j - 1) / 2 = i → 0 < i → at_ l ((i - 1) / 2) ≤ at_ l j
/-- The lesser child of i, if there is one. -/
def kid (l : List Int) (i : Nat) : Nat := if 2 * i + 2 < l.length ∧ at_ l (2 * i + 2) < at_ l (2 * i + 1) then 2 * i + 2 else 2 * i + 1
theorem down_end (l : List Int) (i : Nat) (h : DownInv l i) (hs : l.length ≤ kid l i ∨ at_ l i ≤ at_ l (kid l i)) : IsHeap l := fun j h0 hj => by
  by_cases hp : (j - 1) / 2 = i
  · rw [hp]
    have hcase : j = 2 * i + 1 ∨ j = 2 * i + 2 := by omega
    unfold kid at hs
    by_cases hc : 2 * i + 2 < l.length ∧ at_ l (2 * i + 2) < at_ l (2 * i + 1)
    · rw [if_pos hc] at hs
      rcases hs with hs | hs
      · omega
      · rcases hcase with rfl | rfl <;> omega
    · rw [if_neg hc] at hs
      rcases hs with hs | hs
      · omega
      · rcases hcase with rfl | rfl
        · exact hs
        · omega
  · exact h.1 j h0 hj hp
theorem down_step (l : List Int) (i : Nat) (h : DownInv l i) (hk : kid l i < l.length) (hs : at_ l (kid l i) < at_ l i) : DownInv (swap l i (kid l i)) (kid l i) := by
  have hki : kid l i = 2 * i + 1 ∨ kid l i = 2 * i + 2 := by unfold kid; split <;> omega
  have hmin : ∀ j, j < l.length → (j - 1) / 2 = i → 0 < j → at_ l (kid l i) ≤ at_ l j := fun j hj hp h0 => by
    have hcase : j = 2 * i + 1 ∨ j = 2 * i + 2 := by omega
    unfold kid
    split
    · rename_i hc; rcases hcase with rfl | rfl <;> omega
    · rename_i hc; rcases hcase with rfl | rfl <;> omega
  generalize kid l i = k at *
  have hi : i < l.length := by omega
  have hat := fun j => at_swap l i k j hi hk
  refine ⟨fun j hj0 hj hne => ?_, fun j hj0 hj hpj hpos => ?_⟩
  · rw [swap_length] at hj
    rw [hat, hat, if_neg (fun e => hne e.symm)]
    by_cases hp : (j - 1) / 2 = i
    · rw [if_pos hp.symm]
      by_cases hjk : j = k
      · subst hjk
        rw [if_pos rfl]
        omega
      · rw [if_neg (by omega), if_neg (by omega)]
        exact hmin j hj hp hj0
    · rw [if_neg (fun e => hp e.symm), if_neg (by omega)]
      by_cases hji : j = i
      · subst hji
        rw [if_pos rfl]
        exact h.2 k (by omega) hk (by omega) hj0
      · rw [if_neg (fun e => hji e.symm)]
        exact h.1 j hj0 hj hp
  · rw [swap_length] at hj
    have hpk : (k - 1) / 2 = i := by omega
    rw [hat, hat, hpk, if_neg (by omega), if_pos rfl, if_neg (by omega), if_neg (by omega)]
    have := h.1 j hj0 hj (by omega)
    rw [hpj] at this
    exact this

theorem root_least (l : List Int) (h : IsHeap l) : ∀ j, j < l.length → at_ l 0 ≤ at_ l j := by
  intro j
  induction j using Nat.strongRecOn with
  | _ j ih =>
    intro hj
    rcases Nat.eq_zero_or_pos j with rfl | h0
    · exact Int.le_refl _
    · exact Int.le_trans (ih ((j - 1) / 2) (by omega) (by omega)) (h j h0 hj)

/-- The last one in the root's place, and the place of the last one gone. -/
def off (l : List Int) : List Int := (l.set 0 (at_ l (l.length - 1))).take (l.length - 1)
theorem off_length (l : List Int) : (off l).length = l.length - 1 := by simp [off]
theorem at_off (l : List Int) (j : Nat) (hj : j < l.length - 1) : at_ (off l) j = if j = 0 then at_ l (l.length - 1) else at_ l j := by
  have : at_ (off l) j = at_ (l.set 0 (at_ l (l.length - 1))) j := by
    unfold off at_
    rw [List.getD_eq_getElem?_getD, List.getElem?_take_of_lt hj, ← List.getD_eq_getElem?_getD]
  rw [this, at_set _ _ _ _ (by omega)]
  by_cases h : j = 0
  · rw [if_pos h.symm, if_pos h]
  · rw [if_neg (fun e => h e.symm), if_neg h]
theorem down_start (l : List Int) (h : IsHeap l) : DownInv (off l) 0 := by
  refine ⟨fun j h0 hj hp => ?_, fun j _ _ _ h => by omega⟩
  rw [off_length] at hj
  rw [at_off l j hj, at_off l _ (by omega), if_neg hp, if_neg (by omega)]
  exact h j h0 (by omega)
theorem off_perm (l : List Int) (h0 : 0 < l.length) : (at_ l 0 :: off l).Perm l := by
  rcases l with _ | ⟨x, r⟩
  · cases h0
  · have e0 : at_ (x :: r) 0 = x := rfl
    rw [e0]
    refine List.Perm.cons x ?_
    rcases List.eq_nil_or_concat r with rfl | ⟨r', y, rfl⟩
    · exact List.Perm.refl _
    · have hl : at_ (x :: r'.concat y) ((x :: r'.concat y).length - 1) = y := by
        simp [at_, List.getD]
      have ho : off (x :: r'.concat y) = y :: r' := by
        unfold off
        rw [hl]
        simp
      rw [ho, List.concat_eq_append]
      exact (List.perm_append_singleton y r').symm
theorem perm_least {l l' : List Int} {x : Int} (hp : (x :: l').Perm l) (h : ∀ j, j < l.length → x ≤ at_ l j) : ∀ y ∈ l', x ≤ y := fun y hy => by
  have hm : y ∈ l := hp.mem_iff.1 (List.mem_cons_of_mem _ hy)
  obtain ⟨j, hj, rfl⟩ := List.getElem_of_mem hm
  rw [← at_eq l j hj]
  exact h j hj
theorem heap_nil : IsHeap [] := fun j _ hj => by simp at hj
end Go.Proofs.YteediemhcocgdaaDoor.HeapP
