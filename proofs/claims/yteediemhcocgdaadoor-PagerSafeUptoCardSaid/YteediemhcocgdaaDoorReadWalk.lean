/-
  sum.Read, as the walk has it.
-/
import Derived.Test.YteediemhcocgdaaDoorSumWalk
namespace Go.Proofs.YteediemhcocgdaaDoor
open Go.RowKit

theorem ret_pair_ii {j k : IntKind} {a b c d : Int} (h : (a, b) = (c, d)) : Ending.returned (.tuple #[.int j a, .int k b]) = .returned (.tuple #[.int j c, .int k d]) := by
  obtain ⟨rfl, rfl⟩ := Prod.mk.inj h; rfl

set_option maxRecDepth 100000 in
theorem read_any (B : Nat) (A : Option Addr) (c : Nat) (l : List UInt8) (a s : Int) (w : World) (hb : Byt w B A l) (hc : l.length ≤ c) (hl : c ≤ 9223372036854775807) :
    Calls Tryd.prog 18 #[.slice A l.length c, .int .i64 a, .int .i64 s] w fun e w' =>
      e = .returned (.tuple #[.int .i64 (SumP.rdR l a s).1, .int .i64 (SumP.rdR l a s).2]) ∧ w = w' := by
  by_cases hbad : s < 1 ∨ 8 < s ∨ a < 0 ∨ (l.length : Int) - s < a
  · have hR : SumP.rdR l a s = (0, 1) := by unfold SumP.rdR; rw [if_pos hbad]
    rw [hR]
    have H := Lib.hid hbad
    clear hbad hR
    go_enter Tryd.func18, Tryd.ntmps18
    go_wp2_with fail
    all_goals first
      | (go_ret2; exact ⟨rfl, rfl⟩)
      | (exfalso
         rcases H.out with h | h | h | h <;> omega)
  · obtain ⟨n, rfl⟩ : ∃ n : Nat, a = n := ⟨a.toNat, by omega⟩
    obtain ⟨m, rfl⟩ : ∃ m : Nat, s = m := ⟨s.toNat, by omega⟩
    have hR : SumP.rdR l n m = if 9223372036854775807 < SumP.rd ((l.drop n).take m) then (0, 1) else ((SumP.rd ((l.drop n).take m) : Int), 0) := by
      unfold SumP.rdR; rw [if_neg hbad]; simp
    have HR := Lib.hid hR
    have h1 : 1 ≤ m := by omega
    have h8 : m ≤ 8 := by omega
    have hnm : n + m ≤ l.length := by omega
    clear hR hbad
    obtain ⟨b, off, rfl, hbB, hcell⟩ := hb (by omega)
    generalize hL : (l.drop n).take m = L at HR
    have hLl : L.length = m := by rw [← hL]; simp; omega
    have hLc : ∀ i, i < m → w.cell? ⟨b, off + n + i, none⟩ = some (.int .u8 ((L.getD i 0).toNat : Int)) := by
      intro i hi
      rw [Nat.add_assoc, hcell (n + i) (by omega), ← hL]
      congr 4
      simp [List.getD, List.getElem?_take_of_lt hi]
    have HC := Lib.hid hLc
    have HL := Lib.hid hLl
    clear hcell hLc hL hLl
    go_enter Tryd.func18, Tryd.ntmps18
    go_wp2_with fail
    go_loop [8, 36] (fun u i => ∃ k : Nat, k ≤ m ∧ i = .int .i64 k ∧ u = .int .u64 (SumP.rd (L.take k) : Nat)) (fun _ i => m - (intOf i).toNat)
    case atStart => exact ⟨0, Nat.zero_le _, rfl, rfl⟩
    case round =>
      obtain ⟨k, hk, rfl, rfl⟩ := hrel
      by_cases hlt : k < m
      · have hck := HC.out k hlt
        have hcb : (L.getD k 0).toNat < 256 := (L.getD k 0).toNat_lt
        have hu : SumP.rd (L.take k) < 2 ^ 56 := by
          have h := SumP.rd_lt (L.take k)
          refine Nat.lt_of_lt_of_le h (Nat.pow_le_pow_right (by omega) ?_)
          have := List.length_take_le k L
          omega
        have HN := Lib.hid (SumP.rd_snoc L k (by rw [HL.out]; exact hlt))
        generalize SumP.rd (L.take k) = u at hu HN ⊢
        generalize (L.getD k 0).toNat = x at hck HN hcb
        have c1 : bits .or .u64 ((u : Int) * 256) (x : Int) = ((u * 256 + x : Nat) : Int) := by
          rw [show (u : Int) * 256 = ((u * 256 : Nat) : Int) by omega, u64_or_nat _ _ (by omega) (by omega), nat_join 8 (u * 256) x (by omega) (by omega)]
        go_wp2_with fail
        exact ⟨⟨k + 1, by omega, by go_num, by rw [HN.out]; go_num⟩, by simp [intOf]; omega⟩
      · obtain rfl : k = m := by omega
        have hfull : L.take k = L := List.take_of_length_le (by rw [HL.out]; exact Nat.le_refl _)
        rw [hfull]
        have hu : SumP.rd L < 2 ^ 64 := by
          have h := SumP.rd_lt L
          rw [HL.out] at h
          exact Nat.lt_of_lt_of_le h (Nat.pow_le_pow_right (by omega) (by omega))
        clear hfull
        generalize SumP.rd L = u at hu HR ⊢
        go_wp2_with fail
        · go_ret2
          have hgt : 9223372036854775807 < u := by omega
          refine ⟨?_, rfl⟩
          rw [HR.out, if_pos hgt]
          rfl
        · go_ret2
          have hgt : ¬ 9223372036854775807 < u := by omega
          refine ⟨?_, rfl⟩
          rw [HR.out, if_neg hgt]
          rfl
end Go.Proofs.YteediemhcocgdaaDoor
