/-
  What the document's own functions of layer 9 compute.
-/
import Derived.Test.YteediemhcocgdaaDoorOpenWalk
import Derived.Test.YteediemhcocgdaaDoorNumWalk
import Derived.Test.YteediemhcocgdaaDoorReadWalk
namespace Go.Proofs.YteediemhcocgdaaDoor
open Go.RowKit

theorem stps_snoc (k : Nat) (s : Nat) : SumP.stps (k + 1) s = SumP.stp (SumP.stps k s) := by rw [SumP.stps_add]; rfl

set_option maxRecDepth 100000 in
theorem refSum_any (B : Nat) (A : Option Addr) (c : Nat) (l : List UInt8) (w : World) (hb : Byt w B A l) (hl : l.length ≤ 9223372036854775807) :
    Calls Tryd.prog 28 #[.slice A l.length c] w fun e w' => e = .returned (.int .i64 (SumP.sum l : Int)) ∧ w = w' := by
  go_enter Tryd.func28, Tryd.ntmps28
  go_wp2_with fail
  go_loop [3, 4] (fun s i => ∃ k : Nat, k ≤ l.length ∧ i = .int .i64 k ∧ s = .int .u32 (SumP.run SumP.full (l.take k) : Nat)) (fun _ i => l.length - (intOf i).toNat)
  case atStart => exact ⟨0, Nat.zero_le _, rfl, rfl⟩
  case round =>
    obtain ⟨k, hk, rfl, rfl⟩ := hrel
    have hs : SumP.run SumP.full (l.take k) < 4294967296 := SumP.run_lt _ (by unfold SumP.full; omega)
    by_cases hlt : k < l.length
    · obtain ⟨b, off, rfl, hbB, hc⟩ := hb (by omega)
      have hck := hc k hlt
      have hnext : SumP.run SumP.full (l.take (k + 1)) = SumP.stps 8 (SumP.run SumP.full (l.take k) ^^^ (l.getD k 0).toNat) := by
        rw [SumP.run_snoc _ _ _ hlt]; rfl
      have HN := Lib.hid hnext
      clear hnext hc
      generalize SumP.run SumP.full (l.take k) = s at hs HN ⊢
      have hcb : (l.getD k 0).toNat < 256 := (l.getD k 0).toNat_lt
      generalize (l.getD k 0).toNat = x at hck HN hcb
      obtain ⟨y, hy, hyx, c1⟩ : ∃ y : Nat, y < 4294967296 ∧ Hid (s ^^^ x = y) ∧ bits .xor .u32 (s : Int) (x : Int) = (y : Int) :=
        ⟨_, Nat.xor_lt_two_pow (n := 32) hs (by omega), rfl, u32_xor_nat s x hs (by omega)⟩
      have HN2 : Hid (SumP.run SumP.full (l.take (k + 1)) = SumP.stps 8 y) := by rw [← hyx.out]; exact HN.out
      clear HN hyx
      go_wp2_with fail
      go_loop [3, 5] (fun s j => ∃ m : Nat, m ≤ 8 ∧ j = .int .i64 m ∧ s = .int .u32 (SumP.stps m y : Nat)) (fun _ j => 8 - (intOf j).toNat)
      case atStart => exact ⟨0, by omega, rfl, rfl⟩
      case round =>
        obtain ⟨m, hm, rfl, rfl⟩ := hrel
        have hz : SumP.stps m y < 4294967296 := SumP.stps_lt m hy
        by_cases hm8 : m < 8
        · have hn2 := stps_snoc m y
          generalize SumP.stps m y = z at hz hn2 ⊢
          have HZ := Lib.hid hn2
          clear hn2
          by_cases hodd : z % 2 = 1
          · have hp : SumP.stp z = (z / 2) ^^^ 3988292384 := by unfold SumP.stp; rw [if_pos hodd]
            have c2 : bits .xor .u32 ((z : Int) / 2) 3988292384 = ((z / 2 ^^^ 3988292384 : Nat) : Int) := by
              rw [show (z : Int) / 2 = ((z / 2 : Nat) : Int) by omega, show (3988292384 : Int) = ((3988292384 : Nat) : Int) from rfl, u32_xor_nat _ _ (by omega) (by omega)]
            have hd : ((z : Int) % 2 == 1) = true := by rw [beq_iff_eq]; omega
            have HP := Lib.hid hp
            clear hp hodd
            generalize z / 2 ^^^ 3988292384 = v at c2 HP
            go_wp2_with fail
            exact ⟨⟨m + 1, by omega, by go_num, by rw [HZ.out, HP.out]⟩, by simp [intOf]; omega⟩
          · have hp : SumP.stp z = z / 2 := by unfold SumP.stp; rw [if_neg hodd]
            have hd : ((z : Int) % 2 == 1) = false := by rw [beq_eq_false_iff_ne]; omega
            have HP := Lib.hid hp
            clear hp hodd
            go_wp2_with fail
            exact ⟨⟨m + 1, by omega, by go_num, by rw [HZ.out, HP.out]; go_num⟩, by simp [intOf]; omega⟩
        · obtain rfl : m = 8 := by omega
          have HN3 : Hid (SumP.run SumP.full (l.take (k + 1)) = SumP.stps 8 y) := HN2
          generalize SumP.stps 8 y = z at hz HN3 ⊢
          go_wp2_with fail
          exact ⟨⟨k + 1, by omega, by go_num, by rw [HN3.out]⟩, by simp [intOf]; omega⟩
    · have hlast : SumP.sum l = SumP.run SumP.full (l.take k) ^^^ 4294967295 := by rw [List.take_of_length_le (by omega)]; rfl
      have HL := Lib.hid hlast
      clear hlast
      generalize SumP.run SumP.full (l.take k) = s at hs HL ⊢
      obtain ⟨z, hz, hsz, c1⟩ : ∃ z : Nat, z < 4294967296 ∧ Hid (s ^^^ 4294967295 = z) ∧ bits .xor .u32 (s : Int) 4294967295 = (z : Int) :=
        ⟨_, Nat.xor_lt_two_pow (n := 32) hs (by omega), rfl, u32_xor_nat s 4294967295 hs (by omega)⟩
      go_wp2
      go_ret
      exact ⟨ret_int (by rw [HL.out, hsz.out]), rfl⟩

/-- what stands behind k rounds of the document's Number: the last k bytes -/
theorem refpad (n s k : Nat) (h : k < s) : (List.replicate (s - k) (0 : UInt8) ++ SumP.be n k).set (s - 1 - k) (UInt8.ofNat (n / 2 ^ (8 * k) % 256)) = List.replicate (s - (k + 1)) 0 ++ SumP.be n (k + 1) := by
  have h2 : UInt8.ofNat (n / 2 ^ (8 * k) % 256) = UInt8.ofNat (n / 2 ^ (8 * k)) := by
    rw [← UInt8.toNat_inj, UInt8.toNat_ofNat', UInt8.toNat_ofNat', Nat.mod_mod]
  rw [h2]
  exact SumP.pad_set n s k h

set_option maxRecDepth 100000 in
theorem refNumber_arg (n s : Int) (w : World) (h : s < 1 ∨ 8 < s ∨ n < 0) :
    Calls Tryd.prog 24 #[.int .i64 n, .int .i64 s] w fun e w' => e = .returned (.tuple #[.slice none 0 0, .int .i64 1]) ∧ w = w' := by
  have H := Lib.hid h
  clear h
  go_enter Tryd.func24, Tryd.ntmps24
  go_wp2_with fail
  all_goals first
    | (go_ret2; exact ⟨rfl, rfl⟩)
    | (exfalso; rcases H.out with h | h | h <;> omega)

/-- The document's Number, where the arguments may be: bytes, or ErrArg. -/
def RefNumR (n s : Nat) (w : World) (e : Ending) (w' : World) : Prop :=
  Below w.heap.size w w' ∧ if n < 2 ^ (8 * s) then ∃ A, e = .returned (.tuple #[.slice A s s, .int .i64 0]) ∧ Own w' w.heap.size A s (SumP.be n s) else e = .returned (.tuple #[.slice none 0 0, .int .i64 1])

set_option maxRecDepth 100000 in
theorem refNumber_any (n s : Nat) (w : World) (h1 : 1 ≤ s) (h8 : s ≤ 8) (hn : n ≤ 9223372036854775807) :
    Calls Tryd.prog 24 #[.int .i64 n, .int .i64 s] w (RefNumR n s w) := by
  have hmk := fun W => make_bytes s (by omega) W
  go_enter Tryd.func24, Tryd.ntmps24
  go_wp2_with fail
  rw [show Array.replicate s (Value.int IntKind.u8 0) = ((List.replicate (s - 0) (0 : UInt8) ++ SumP.be n 0).map cu8).toArray by simp [SumP.be, cu8]]
  have hblk := Blk.new w 5 ((List.replicate (s - 0) (0 : UInt8) ++ SumP.be n 0).map cu8)
  have hbel : Below w.heap.size w (w.alloc (.cells ((List.replicate (s - 0) (0 : UInt8) ++ SumP.be n 0).map cu8).toArray 5)) := (Below.refl _ _).alloc (Nat.le_refl _) _
  generalize w.alloc (.cells ((List.replicate (s - 0) (0 : UInt8) ++ SumP.be n 0).map cu8).toArray 5) = w1 at hblk hbel ⊢
  go_loopw [0, 7] (fun q i wr => ∃ k : Nat, k ≤ s ∧ i = .int .i64 ((s : Int) - 1 - k) ∧ q = .int .i64 ((n / 2 ^ (8 * k) : Nat)) ∧ Blk wr w.heap.size 5 ((List.replicate (s - k) (0 : UInt8) ++ SumP.be n k).map cu8) ∧ Below w.heap.size w wr) (fun _ i _ => ((intOf i) + 1).toNat)
  case atStart => exact ⟨0, Nat.zero_le _, by go_num, by simp, hblk, hbel⟩
  case round =>
    obtain ⟨k, hk, rfl, rfl, hb, hbl⟩ := hrel
    have hq : n / 2 ^ (8 * k) ≤ n := Nat.div_le_self _ _
    have hdiv : n / 2 ^ (8 * (k + 1)) = n / 2 ^ (8 * k) / 256 := by
      rw [show 8 * (k + 1) = 8 * k + 8 by omega, Nat.pow_add, ← Nat.div_div_eq_div_mul]
    have HD := Lib.hid hdiv
    clear hdiv
    by_cases hlt : k < s
    · have hc : wr.cell? ⟨w.heap.size, s - 1 - k, none⟩ = some (((List.replicate (s - k) (0 : UInt8) ++ SumP.be n k).map cu8).getD (s - 1 - k) undef) := by
        rw [hb.cell, List.getD_eq_getElem?_getD, List.getElem?_eq_getElem (by simp [SumP.be_length]; omega)]; rfl
      have hf := hb.frozen (s - 1 - k)
      have HB := Lib.hid hb
      have HL := Lib.hid hbl
      have hpad := refpad n s k hlt
      have HP := Lib.hid hpad
      clear hb hbl hpad
      generalize n / 2 ^ (8 * k) = q at hq HD HP ⊢
      go_wp2_with fail
      have hv : cu8 (UInt8.ofNat (q % 256)) = .int .u8 ((q : Int) % 256) := by
        rw [cu8_eq, UInt8.toNat_ofNat']
        congr 1
        omega
      rw [← hv]
      refine ⟨⟨k + 1, by omega, by go_num, by rw [HD.out]; go_num, ?_, HL.out.setCell (Nat.le_refl _) _⟩, by simp [intOf]; omega⟩
      have h2 := HB.out.set_ (s - 1 - k) (cu8 (UInt8.ofNat (q % 256)))
      rw [← List.map_set, HP.out] at h2
      exact h2
    · obtain rfl : k = s := by omega
      rw [Nat.sub_self] at hb
      have HB := Lib.hid hb
      have HL := Lib.hid hbl
      clear hb hbl HD
      have hlast : Hid (0 < n / 2 ^ (8 * k) ↔ ¬ n < 2 ^ (8 * k)) := by
        have hp : 0 < 2 ^ (8 * k) := Nat.pow_pos (by omega)
        constructor
        · intro h hl; rw [Nat.div_eq_of_lt hl] at h; omega
        · intro h; exact Nat.div_pos (by omega) hp
      generalize n / 2 ^ (8 * k) = q at hq hlast ⊢
      have hneg : ¬ ((k : Int) - 1 - (k : Int) ≥ 0) := by omega
      go_wp2_with fail
      · go_ret2
        have h0 : ¬ n < 2 ^ (8 * k) := hlast.out.1 (by omega)
        exact ⟨HL.out, by rw [if_neg h0]; rfl⟩
      · go_ret2
        have h0 : n < 2 ^ (8 * k) := by
          rcases Nat.lt_or_ge n (2 ^ (8 * k)) with h | h
          · exact h
          · have := hlast.out.2 (by omega); omega
        have h3 := Own.of_blk (base := w.heap.size) (l := SumP.be n k) (by simpa using HB.out) (Nat.le_refl _) (by rw [SumP.be_length]; unfold maxLen; omega)
        rw [SumP.be_length] at h3
        exact ⟨HL.out, by rw [if_pos h0]; exact ⟨_, rfl, h3⟩⟩

set_option maxHeartbeats 1000000 in
set_option maxRecDepth 100000 in
theorem refRead_any (B : Nat) (A : Option Addr) (c : Nat) (l : List UInt8) (a s : Int) (w : World) (hb : Byt w B A l) (hl : l.length ≤ 9223372036854775807) :
    Calls Tryd.prog 22 #[.slice A l.length c, .int .i64 a, .int .i64 s] w fun e w' =>
      e = .returned (.tuple #[.int .i64 (SumP.rdR l a s).1, .int .i64 (SumP.rdR l a s).2]) ∧ w = w' := by
  by_cases hbad : s < 1 ∨ 8 < s ∨ a < 0 ∨ (l.length : Int) - s < a
  · have hR : SumP.rdR l a s = (0, 1) := by unfold SumP.rdR; rw [if_pos hbad]
    rw [hR]
    -- which of the tests says so
    by_cases t1 : s < 1
    · go_enter Tryd.func22, Tryd.ntmps22
      go_wp2_with fail
      go_ret2
      exact ⟨rfl, rfl⟩
    by_cases t2 : 8 < s
    · go_enter Tryd.func22, Tryd.ntmps22
      go_wp2_with fail
      go_ret2
      exact ⟨rfl, rfl⟩
    by_cases t3 : a < 0
    · go_enter Tryd.func22, Tryd.ntmps22
      go_wp2_with fail
      go_ret2
      exact ⟨rfl, rfl⟩
    by_cases t4 : (l.length : Int) < a
    · go_enter Tryd.func22, Tryd.ntmps22
      go_wp2_with fail
      go_ret2
      exact ⟨rfl, rfl⟩
    · have t5 : (l.length : Int) - a < s := by omega
      go_enter Tryd.func22, Tryd.ntmps22
      go_wp2_with fail
      go_ret2
      exact ⟨rfl, rfl⟩
  · obtain ⟨n, rfl⟩ : ∃ n : Nat, a = n := ⟨a.toNat, by omega⟩
    obtain ⟨m, rfl⟩ : ∃ m : Nat, s = m := ⟨s.toNat, by omega⟩
    have hR : SumP.rdR l n m = if 9223372036854775807 < SumP.rd ((l.drop n).take m) then (0, 1) else ((SumP.rd ((l.drop n).take m) : Int), 0) := by
      unfold SumP.rdR; rw [if_neg hbad]; simp
    have h1 : 1 ≤ m := by omega
    have h8 : m ≤ 8 := by omega
    have hnm : n + m ≤ l.length := by omega
    obtain ⟨b, off, rfl, hbB, hcell⟩ := hb (by omega)
    have hL : ∃ L, Hid ((l.drop n).take m = L) := ⟨_, rfl⟩
    obtain ⟨L, hL⟩ := hL
    rw [hL.out] at hR
    have hLl : L.length = m := by rw [← hL.out]; simp; omega
    have hLc : ∀ i, i < m → w.cell? ⟨b, off + (n + i), none⟩ = some (.int .u8 ((L.getD i 0).toNat : Int)) := by
      intro i hi
      rw [hcell (n + i) (by omega), ← hL.out]
      congr 4
      simp [List.getD, List.getElem?_take_of_lt hi]
    have hc0 : w.cell? ⟨b, off + n, none⟩ = some (.int .u8 ((L.getD 0 0).toNat : Int)) := hLc 0 (by omega)
    -- of eight bytes: too great just where the first one is
    have h63 : m = 8 → (9223372036854775807 < SumP.rd L ↔ 127 < (L.getD 0 0).toNat) := by
      intro h
      rcases L with _ | ⟨x, L'⟩
      · simp at hLl; omega
      · have hx := x.toNat_lt
        rw [SumP.rd_cons]
        have hl7 : L'.length = 7 := by simp at hLl; omega
        have hr := SumP.rd_lt L'
        rw [hl7] at hr ⊢
        simp only [List.getD_cons_zero]
        omega
    have hlt7 : m < 8 → SumP.rd L ≤ 9223372036854775807 := by
      intro h
      have hr := SumP.rd_lt L
      rw [hLl] at hr
      have := Nat.pow_le_pow_right (n := 2) (by omega) (show 8 * m ≤ 56 by omega)
      omega
    have HC := Lib.hid hLc
    have HL := Lib.hid hLl
    have HR := Lib.hid hR
    have H63 := Lib.hid h63
    have H7 := Lib.hid hlt7
    have hcb : (L.getD 0 0).toNat < 256 := (L.getD 0 0).toNat_lt
    clear hcell hLc hLl hR hbad h63 hlt7
    by_cases hover : m = 8 ∧ 127 < (L.getD 0 0).toNat
    · obtain ⟨rfl, ho⟩ := hover
      have HO : Hid (9223372036854775807 < SumP.rd L) := (H63.out rfl).2 ho
      generalize (L.getD 0 0).toNat = x at hc0 ho hcb
      go_enter Tryd.func22, Tryd.ntmps22
      go_wp2_with fail
      go_ret2
      refine ⟨?_, rfl⟩
      have h8r : SumP.rdR l (n : Int) 8 = (0, 1) := by
        have h := HR.out
        rw [if_pos HO.out] at h
        exact h
      rw [h8r]
      rfl
    · have hok : SumP.rd L ≤ 9223372036854775807 := by
        rcases Nat.lt_or_ge m 8 with h | h
        · exact H7.out h
        · have h8' : m = 8 := by omega
          rcases Nat.lt_or_ge 9223372036854775807 (SumP.rd L) with h2 | h2
          · exact absurd ⟨h8', (H63.out h8').1 h2⟩ hover
          · exact h2
      have HOK := Lib.hid hok
      have hgd : ((m : Int) == 8) = true ∧ (L.getD 0 0).toNat ≤ 127 ∨ ((m : Int) == 8) = false := by
        by_cases h : m = 8
        · exact .inl ⟨by rw [beq_iff_eq]; omega, by omega⟩
        · exact .inr (by rw [beq_eq_false_iff_ne]; omega)
      clear hok hover
      generalize (L.getD 0 0).toNat = x at hc0 hgd hcb
      rcases hgd with ⟨hm8, hx⟩ | hm8
      all_goals
        go_enter Tryd.func22, Tryd.ntmps22
        go_wp2_with fail
        go_loop [8, 9] (fun u i => ∃ k : Nat, k ≤ m ∧ i = .int .i64 k ∧ u = .int .i64 (SumP.rd (L.take k) : Nat)) (fun _ i => m - (intOf i).toNat)
        case atStart => exact ⟨0, Nat.zero_le _, rfl, rfl⟩
        case round =>
          obtain ⟨k, hk, rfl, rfl⟩ := hrel
          by_cases hlt : k < m
          · have hck := HC.out k hlt
            have hcb : (L.getD k 0).toNat < 256 := (L.getD k 0).toNat_lt
            have hs := SumP.rd_snoc L k (by rw [HL.out]; exact hlt)
            have hmono : SumP.rd (L.take (k + 1)) ≤ SumP.rd L := by
              have e := SumP.rd_append (L.take (k + 1)) (L.drop (k + 1))
              rw [List.take_append_drop] at e
              rw [e]
              have hp := Nat.pow_pos (n := 8 * (L.drop (k + 1)).length) (show 0 < 2 by omega)
              have := Nat.le_mul_of_pos_right (SumP.rd (L.take (k + 1))) hp
              omega
            have h2 := HOK.out
            rw [hs] at hmono
            have HN := Lib.hid hs
            clear hs
            generalize SumP.rd L = R at hmono h2
            generalize SumP.rd (L.take k) = u at hmono HN ⊢
            generalize (L.getD k 0).toNat = x at hck HN hcb hmono
            go_wp2_with fail
            exact ⟨⟨k + 1, by omega, by go_num, by rw [HN.out]; go_num⟩, by simp [intOf]; omega⟩
          · obtain rfl : k = m := by omega
            have hfull : L.take k = L := List.take_of_length_le (by rw [HL.out]; exact Nat.le_refl _)
            rw [hfull]
            clear hfull
            have h2 := HOK.out
            generalize SumP.rd L = u at h2 HR ⊢
            go_wp2_with fail
            go_ret2
            refine ⟨?_, rfl⟩
            rw [HR.out, if_neg (by omega)]
            rfl

end Go.Proofs.YteediemhcocgdaaDoor
