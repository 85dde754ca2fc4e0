/-
  What the functions of package sum compute.
-/
import Derived.WalkKit
import Derived.WalkLawsBesides
import Derived.WalkSpells
import Derived.Laws.BitsAllLaws
import Derived.Laws.BitsLemmas
import Derived.Test.YteediemhcocgdaaDoorProg
import Derived.Test.YteediemhcocgdaaDoorWords
import Derived.Test.YteediemhcocgdaaDoorSumPlain
namespace Go.Proofs.YteediemhcocgdaaDoor
open Go.RowKit

/-- The table of sixteen lies in the first variable. -/
def Nib (w : World) : Prop := ∀ i, i < 16 → w.cell? ⟨0, i, none⟩ = some (.int .u32 (SumP.tab i : Int))

theorem nib_step {w : World} (hn : Nib w) (y : Nat) (hy : y < 4294967296) : ∃ z : Nat, z < 4294967296 ∧ Hid (SumP.nib y = z) ∧
    ∃ j : Nat, j < 16 ∧ bits .and .u32 (y : Int) 15 = (j : Int) ∧ w.cell? ⟨0, j, none⟩ = some (.int .u32 (SumP.tab j : Int)) ∧ bits .xor .u32 ((y : Int) / 16) (SumP.tab j : Int) = (z : Int) := by
  have h15 : y &&& 15 = y % 16 := Nat.and_two_pow_sub_one_eq_mod y 4
  have ht : ∀ j, j < 16 → SumP.tab j < 4294967296 := by decide +kernel
  refine ⟨SumP.nib y, ?_, rfl, y % 16, Nat.mod_lt _ (by omega), ?_, hn _ (Nat.mod_lt _ (by omega)), ?_⟩
  · rw [SumP.nib_eq]; exact SumP.stps_lt 4 hy
  · rw [show (15 : Int) = ((15 : Nat) : Int) from rfl, u32_and_nat y 15 hy (by omega), h15]
  · rw [show (y : Int) / 16 = ((y / 16 : Nat) : Int) by omega, u32_xor_nat _ _ (by omega) (ht _ (Nat.mod_lt _ (by omega)))]
    unfold SumP.nib
    rw [h15, Nat.shiftRight_eq_div_pow]

theorem sum_any (B : Nat) (A : Option Addr) (c : Nat) (l : List UInt8) (w : World) (hb : Byt w B A l) (hn : Nib w) (hl : l.length ≤ 9223372036854775807) :
    Calls Tryd.prog 17 #[.slice A l.length c] w fun e w' => e = .returned (.int .i64 (SumP.sum l : Int)) ∧ w = w' := by
  go_enter Tryd.func17, Tryd.ntmps17
  go_wp2
  go_loop [3, 8] (fun s i => ∃ k : Nat, k ≤ l.length ∧ i = .int .i64 k ∧ s = .int .u32 (SumP.run SumP.full (l.take k) : Nat)) (fun _ i => l.length - (intOf i).toNat)
  case atStart => exact ⟨0, Nat.zero_le _, rfl, rfl⟩
  case round =>
    obtain ⟨k, hk, rfl, rfl⟩ := hrel
    have hs : SumP.run SumP.full (l.take k) < 4294967296 := SumP.run_lt _ (by unfold SumP.full; omega)
    by_cases hlt : k < l.length
    · obtain ⟨b, off, rfl, hbB, hc⟩ := hb (by omega)
      have hck := hc k hlt
      have hnext : SumP.run SumP.full (l.take (k + 1)) = SumP.nib (SumP.nib (SumP.run SumP.full (l.take k) ^^^ (l.getD k 0).toNat)) := by
        rw [SumP.run_snoc _ _ _ hlt, SumP.nib_nib]; rfl
      have HN := Lib.hid hnext
      clear hnext hc
      generalize SumP.run SumP.full (l.take k) = s at hs HN ⊢
      have hcb : (l.getD k 0).toNat < 256 := (l.getD k 0).toNat_lt
      generalize (l.getD k 0).toNat = x at hck HN hcb
      obtain ⟨y, hy, hyx, c1⟩ : ∃ y : Nat, y < 4294967296 ∧ Hid (s ^^^ x = y) ∧ bits .xor .u32 (s : Int) (x : Int) = (y : Int) :=
        ⟨_, Nat.xor_lt_two_pow (n := 32) hs (by omega), rfl, u32_xor_nat s x hs (by omega)⟩
      obtain ⟨z, hz, hyz, j, hj, c2, c3, c4⟩ := nib_step hn y hy
      obtain ⟨v, hv, hzv, i, hi, d2, d3, d4⟩ := nib_step hn z hz
      go_wp2_with fail
      go_round
      case rel => exact ⟨k + 1, by omega, by go_num, by rw [HN.out, hyx.out, hyz.out, hzv.out]⟩
      case measure => simp [intOf]; omega
    · have hlast : SumP.sum l = SumP.run SumP.full (l.take k) ^^^ 4294967295 := by rw [List.take_of_length_le (by omega)]; rfl
      have HL := Lib.hid hlast
      clear hlast
      generalize SumP.run SumP.full (l.take k) = s at hs HL ⊢
      obtain ⟨z, hz, hsz, c1⟩ : ∃ z : Nat, z < 4294967296 ∧ Hid (s ^^^ 4294967295 = z) ∧ bits .xor .u32 IntKind.u32.max (s : Int) = (z : Int) :=
        ⟨_, Nat.xor_lt_two_pow (n := 32) hs (by omega), rfl, (u32_xor_nat 4294967295 s (by omega) hs).trans (by rw [Nat.xor_comm])⟩
      go_wp2
      go_ret
      exact ⟨ret_int (by rw [HL.out, hsz.out, IntWalk.wrap64_in _ (by omega)]), rfl⟩
end Go.Proofs.YteediemhcocgdaaDoor
