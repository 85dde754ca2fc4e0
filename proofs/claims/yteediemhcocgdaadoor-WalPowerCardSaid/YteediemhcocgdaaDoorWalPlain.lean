/-
  A log's records as bytes: the plain laws.
-/
import Derived.Test.YteediemhcocgdaaDoorSumPlain
namespace Go.Proofs.YteediemhcocgdaaDoor.WalP
open SumP (be sealed openR rd)

/-- How many sectors a record takes. -/
def secs (n : Nat) : Nat := if 262144 < n then 0 else max 1 ((n + 491) / 492)
/-- What stands ahead of a part. -/
structure Stamp where
  e : Nat
  r : Nat
  p : Nat
  ps : Nat
  l : Nat
def Stamp.head (s : Stamp) : List UInt8 := be s.e 6 ++ be s.r 4 ++ be s.p 2 ++ be s.ps 2 ++ be s.l 2
theorem head_length (s : Stamp) : s.head.length = 16 := by simp [Stamp.head, SumP.be_length]
def Stamp.ok (s : Stamp) : Prop := s.e < 2 ^ 48 ∧ s.r < 2 ^ 32 ∧ s.p < 2 ^ 16 ∧ s.ps < 2 ^ 16 ∧ s.l < 2 ^ 16
def Stamp.body (s : Stamp) (part : List UInt8) : List UInt8 := s.head ++ part ++ List.replicate (492 - part.length) 0
theorem body_length (s : Stamp) (part : List UInt8) (h : part.length ≤ 492) : (s.body part).length = 508 := by
  simp [Stamp.body, head_length]; omega
def Stamp.bytes (s : Stamp) (part : List UInt8) : List UInt8 := sealed (s.body part)
theorem bytes_length (s : Stamp) (part : List UInt8) (h : part.length ≤ 492) : (s.bytes part).length = 512 := by
  simp [Stamp.bytes, SumP.sealed_length, body_length s part h]

/-- The numbers that stand in opened bytes. -/
def parse (m : List UInt8) : Stamp := ⟨rd ((m.drop 0).take 6), rd ((m.drop 6).take 4), rd ((m.drop 10).take 2), rd ((m.drop 12).take 2), rd ((m.drop 14).take 2)⟩
/-- What stands in a sector's bytes. -/
def readR (l : List UInt8) : Option (Stamp × List UInt8) :=
  match openR l with
  | none => none
  | some m => if 492 < (parse m).l then none else if (m.drop (16 + (parse m).l)).all (· == 0) then some (parse m, (m.drop 16).take (parse m).l) else none
theorem openR_length {l m : List UInt8} (h : openR l = some m) : l.length = m.length + 4 := by
  rw [← SumP.sealed_of_openR h, SumP.sealed_length]
theorem rdR_in (m : List UInt8) (a k : Nat) (h1 : 1 ≤ k) (h7 : k ≤ 7) (h : a + k ≤ m.length) : SumP.rdR m (a : Int) (k : Int) = ((rd ((m.drop a).take k) : Int), 0) := by
  have hl : ((m.drop a).take k).length = k := by simp; omega
  have hlt := SumP.rd_lt ((m.drop a).take k)
  rw [hl] at hlt
  have h56 : 2 ^ (8 * k) ≤ 2 ^ 56 := Nat.pow_le_pow_right (by omega) (by omega)
  unfold SumP.rdR
  rw [if_neg (by omega)]
  rw [show ((a : Int).toNat) = a by omega, show ((k : Int).toNat) = k by omega]
  rw [if_neg (by omega)]
end Go.Proofs.YteediemhcocgdaaDoor.WalP
