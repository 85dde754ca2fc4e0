/-
  sum.Number, as the walk has it.
-/
import Derived.Test.YteediemhcocgdaaDoorSumWalk
namespace Go.Proofs.YteediemhcocgdaaDoor
open Go.RowKit

set_option maxRecDepth 100000 in
theorem number_ok (n s : Nat) (w : World) (h1 : 1 ≤ s) (h8 : s ≤ 8) (hn : n ≤ 9223372036854775807) (hs : n < 2 ^ (8 * s)) :
    Calls Tryd.prog 15 #[.int .i64 n, .int .i64 s] w fun e w' =>
      ∃ A, e = .returned (.tuple #[.slice A s s, .int .i64 0]) ∧ Own w' w.heap.size A s (SumP.be n s) ∧ Below w.heap.size w w' := by
  have hdiv : (n : Int) / 2 ^ (8 * s) = 0 := by
    have h0 : n / 2 ^ (8 * s) = 0 := Nat.div_eq_of_lt hs
    have : ((n / 2 ^ (8 * s) : Nat) : Int) = 0 := by rw [h0]; rfl
    rw [← this]; simp
  have HD := Lib.hid hdiv
  have HS := Lib.hid hs
  clear hdiv hs
  have hmk := fun W => make_bytes s (by omega) W
  go_enter Tryd.func15, Tryd.ntmps15
  go_wp2_with fail
  all_goals first
    | (exfalso
       have h0 := HD.out
       simp [h0] at *
       omega)
    | (rw [show Array.replicate s (Value.int IntKind.u8 0) = ((List.replicate (s - 0) (0 : UInt8) ++ SumP.be n 0).map cu8).toArray by simp [SumP.be, cu8]]
       have hblk := Blk.new w 5 ((List.replicate (s - 0) (0 : UInt8) ++ SumP.be n 0).map cu8)
       have hbel : Below w.heap.size w (w.alloc (.cells ((List.replicate (s - 0) (0 : UInt8) ++ SumP.be n 0).map cu8).toArray 5)) := (Below.refl _ _).alloc (Nat.le_refl _) _
       generalize w.alloc (.cells ((List.replicate (s - 0) (0 : UInt8) ++ SumP.be n 0).map cu8).toArray 5) = w1 at hblk hbel ⊢
       go_loopw [33] (fun i wr => ∃ k : Nat, k ≤ s ∧ i = .int .i64 k ∧ Blk wr w.heap.size 5 ((List.replicate (s - k) (0 : UInt8) ++ SumP.be n k).map cu8) ∧ Below w.heap.size w wr) (fun i _ => s - (intOf i).toNat)
       case atStart => exact ⟨0, Nat.zero_le _, rfl, hblk, hbel⟩
       case round =>
         obtain ⟨k, hk, rfl, hb, hbl⟩ := hrel
         by_cases hlt : k < s
         · have hc : wr.cell? ⟨w.heap.size, s - 1 - k, none⟩ = some (((List.replicate (s - k) (0 : UInt8) ++ SumP.be n k).map cu8).getD (s - 1 - k) undef) := by
             rw [hb.cell, List.getD_eq_getElem?_getD, List.getElem?_eq_getElem (by simp [SumP.be_length]; omega)]; rfl
           have hf := hb.frozen (s - 1 - k)
           have HB := Lib.hid hb
           have HL := Lib.hid hbl
           clear hb hbl
           go_wp2_with fail
           have hv : cu8 (UInt8.ofNat (n / 2 ^ (8 * k))) = .int .u8 ((n : Int) / 2 ^ (8 * k) % 256) := by
             rw [cu8_eq, UInt8.toNat_ofNat']
             congr 1
           rw [← hv]
           refine ⟨⟨k + 1, by omega, by go_num, ?_, HL.out.setCell (Nat.le_refl _) _⟩, by simp [intOf]; omega⟩
           have h2 := HB.out.set_ (s - 1 - k) (cu8 (UInt8.ofNat (n / 2 ^ (8 * k))))
           rw [← List.map_set, SumP.pad_set _ _ _ hlt] at h2
           exact h2
         · obtain rfl : k = s := by omega
           rw [Nat.sub_self] at hb
           have HB := Lib.hid hb
           have HL := Lib.hid hbl
           clear hb hbl
           go_wp2_with fail
           go_ret2
           have h3 := Own.of_blk (base := w.heap.size) (l := SumP.be n k) (by simpa using HB.out) (Nat.le_refl _) (by rw [SumP.be_length]; unfold maxLen; omega)
           rw [SumP.be_length] at h3
           exact ⟨_, rfl, h3, HL.out⟩)

set_option maxRecDepth 100000 in
theorem number_bad (n s : Int) (w : World) (h : s < 1 ∨ 8 < s ∨ n < 0 ∨ (s < 8 ∧ 2 ^ (8 * s.toNat) ≤ n)) :
    Calls Tryd.prog 15 #[.int .i64 n, .int .i64 s] w fun e w' => e = .returned (.tuple #[.slice none 0 0, .int .i64 1]) ∧ w = w' := by
  have H := Lib.hid h
  clear h
  go_enter Tryd.func15, Tryd.ntmps15
  go_wp2_with fail
  all_goals first
    | (go_ret2; exact ⟨rfl, rfl⟩)
    | (exfalso
       rcases H.out with h | h | h | ⟨h, hp⟩
       · omega
       · omega
       · omega
       · have e : (8 * s).toNat = 8 * s.toNat := by omega
         have hx : 1 ≤ n / 2 ^ (8 * s.toNat) := (Int.le_ediv_iff_mul_le (Int.pow_pos (by omega))).2 (by simpa using hp)
         simp [e] at *
         omega)
end Go.Proofs.YteediemhcocgdaaDoor
