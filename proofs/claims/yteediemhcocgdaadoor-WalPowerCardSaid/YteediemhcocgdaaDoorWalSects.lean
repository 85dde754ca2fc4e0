/-
  wal's sectors: the iterator's body.
-/
import Derived.Test.YteediemhcocgdaaDoorDiskRead
import Derived.RangeFuncNested
import Derived.RangeFuncBound
import Derived.RangeFuncCalls
import Derived.RangeFuncLeaves
import Derived.Shelf.Abstract
import Derived.Shelf.RegionOpen
import Derived.OwnWalkIn
import Derived.TacticsInMore
import Derived.LoopNIn
import Derived.LoopIn
namespace Go.Proofs.YteediemhcocgdaaDoor
open Go.RowKit Go.Shelf
attribute [local go_sem] Oper.semAt_some

set_option maxHeartbeats 2000000 in
set_option maxRecDepth 100000 in
theorem sects_in (n l mb dbx fb ebx many frm db bb : Nat) (K : Nat → Prop) (V : DV) (J : Nat → World → Prop) (Jx : World → Prop)
    (hJ : ∀ k W, J k W → Dk K W bb V ∧ W.cell? ⟨dbx, 0, none⟩ = some (.pointer (some ⟨db, 0, none⟩)) ∧ W.cell? ⟨fb, 0, none⟩ = some (.int .i64 frm) ∧ W.cell? ⟨db, 0, none⟩ = some (.pointer (some ⟨bb, 0, none⟩)))
    (hY : ∀ k W W' g, J k W → k < many → Below W.heap.size W W' → W.heap.size ≤ g → Blk W' g 5 ((V.now ((frm + k : Nat) : Int)).map cu8) → YieldAt Fence.wide (n - 1) Tryd.prog l #[.int .i64 (k : Int), .slice (some ⟨g, 0, none⟩) 512 512] W' fun e W'' => (e = .returned (.bool true) ∧ J (k + 1) W'') ∨ (e = .returned (.bool false) ∧ Jx W''))
    (W : World) (hm : W.cell? ⟨mb, 0, none⟩ = some (.int .i64 many)) (h0 : J 0 W) (hdn : V.down = false) (hn : ((frm + many : Nat) : Int) ≤ V.n) :
    CallsIn Fence.wide n Tryd.prog 81 #[.func (.yield l) #[] #[], .pointer (some ⟨mb, 0, none⟩), .pointer (some ⟨dbx, 0, none⟩), .pointer (some ⟨fb, 0, none⟩), .pointer (some ⟨ebx, 0, none⟩)] W fun e W' => (∃ v, e = .returned v) ∧ (J many W' ∨ Jx W') := by
  have hfn : Fence.wide.fn 81 := trivial
  have hM := (hJ 0 W h0).1.ok.2.2.2
  have HJ := Lib.hid hJ
  have HY := Lib.hid hY
  have H0 := Lib.hid h0
  clear hJ hY h0
  refine callsIn_of_wp Tryd.func81 rfl hfn ?_ rfl
  simp only [Tryd.ntmps81, List.size_toArray, List.length_cons, List.length_nil, Nat.reduceAdd, Nat.reduceSub, Array.replicate_succ, Array.replicate_zero, List.push_toArray, List.append_toArray, List.nil_append, List.cons_append]
  gi_wp2
  gi_loopw [10] (fun i wr => ∃ k : Nat, k ≤ many ∧ i = .int .i64 k ∧ J k wr) (fun i _ => many - (intOf i).toNat)
  case atStart => exact ⟨0, Nat.zero_le _, rfl, H0.out⟩
  case round =>
    obtain ⟨k, hk, rfl, hj⟩ := hrel
    obtain ⟨hd, e1, e2, e3⟩ := HJ.out k wr hj
    have HD := Lib.hid hd
    have HJK := Lib.hid hj
    have hs : IntKind.i64.wrap ((frm : Int) + k) = (frm : Int) + k := IntWalk.i64_in _ (by omega)
    have hs2 : (frm : Int) + k = ((frm + k : Nat) : Int) := by omega
    have HS2 := Lib.hid hs2
    clear hd hj hs2
    by_cases hlt : k < many
    · gi_wp2
      refine ⟨trivial, fun h => (by cases h), ?_⟩
      rw [HS2.out]
      refine (callsIn_wide.2 (dread_v HD.out ((frm + k : Nat) : Int) db (by omega) (by omega) hdn e3)).mono ?_
      rintro e w1 ⟨g, rfl, hg, hblk, hbel⟩
      obtain ⟨fn, tmps, assign, body, hy, hR⟩ := HY.out k wr w1 g HJK.out hlt hbel hg hblk
      have HR := Lib.hid hR
      clear hR hblk hbel
      gi_wp2
      refine ⟨fun h => (by cases h), HR.out.mono ?_⟩
      rintro e w2 (⟨rfl, hj2⟩ | ⟨rfl, hjx⟩)
      · have HJ2 := Lib.hid hj2
        clear hj2
        gi_wp2
        exact ⟨⟨k + 1, by omega, by go_num, HJ2.out⟩, by simp [intOf]; omega⟩
      · have HJX := Lib.hid hjx
        clear hjx
        gi_wp2
        exact bodyPost_ret (results_none rfl _ _ _) rfl ⟨⟨_, rfl⟩, .inr HJX.out⟩
    · obtain rfl : k = many := by omega
      gi_wp2
      go_end0
      exact ⟨⟨_, rfl⟩, .inl HJK.out⟩
end Go.Proofs.YteediemhcocgdaaDoor
