/-
  slices.Sorted(maps.Keys(m)) at a map from int.
-/
import Derived.Test.YteediemhcocgdaaDoorKeysLay
import Derived.Test.YteediemhcocgdaaDoorMapV
import Derived.Test.YteediemhcocgdaaDoorHeapWalk
import Derived.RangeFuncLeaves
namespace Go.Proofs.YteediemhcocgdaaDoor
open Go.RowKit Go.Shelf
open Go.Maps (Keyed)

/-- slices.Sort's two contracts. -/
theorem sortsI (m : Nat) : AnyZI.SortsIn Tryd.prog sortedI_ren Fence.wide m :=
  ⟨fun blk off cap ss W hH hblk hsz => callsIn_wide.2 (AnyM.slices_Sort_int sortI blk off cap ss W hH hblk hsz),
   fun p cap W => callsIn_wide.2 (AnyM.slices_Sort_int_none sortI p cap W)⟩
theorem keysT_any (mb : Option Nat) (W : World) : Calls Tryd.prog 73 #[.map mb] W fun e w' => e = .returned (.func (.func 86) #[] #[.pointer (some ⟨W.heap.size, 0, none⟩)]) ∧ w' = W.alloc (.cells #[.map mb] 88) :=
  (callsIn_wide (n := 5)).1 (AnyZI.keys_in keysT Fence.wide 5 trivial rfl mb W)
theorem keysB_any (mb : Option Nat) (W : World) : Calls Tryd.prog 74 #[.map mb] W fun e w' => e = .returned (.func (.func 87) #[] #[.pointer (some ⟨W.heap.size, 0, none⟩)]) ∧ w' = W.alloc (.cells #[.map mb] 94) :=
  (callsIn_wide (n := 5)).1 (AnyZI.keys_in keysB Fence.wide 5 trivial rfl mb W)

theorem intKeys_spec {H : Type} {w : World} {b n : Nat} {D : DataW H} {R : Value → Option (DataW H × List MemPlace)} (hown : w.ownsMap Tryd.prog 3 R b n D) : (intKeys D).Nodup ∧ ∀ x, x ∈ intKeys D ↔ Maps.has D (.int .i64 x) = true := by
  obtain ⟨es, hD, hpw, _⟩ := hown.entries intK
  obtain ⟨es', hD', hko⟩ := hown.keysOf
  obtain rfl : es = es' := by rw [hD] at hD'; simpa using hD'
  subst hD
  have hk : ∀ p ∈ es, ∃ x, p.1 = .int .i64 x := fun p hp => by
    obtain ⟨v, hv⟩ := hko p hp
    obtain ⟨x, _, hx, _⟩ := Maps.keyOf_i64 Tryd.underlying3 hv
    exact ⟨x, hx⟩
  refine ⟨?_, fun x => ?_⟩
  · show (es.map fun p => Go.intOf p.1).Nodup
    refine List.pairwise_map.2 (hpw.imp_of_mem fun {p q} hp' hq' hne e => hne ?_)
    obtain ⟨a, ha⟩ := hk p hp'
    obtain ⟨b, hb⟩ := hk q hq'
    rw [ha, hb] at e ⊢
    exact congrArg _ e
  · rw [Maps.has_eq, List.any_eq_true]
    show x ∈ (es.map fun p => Go.intOf p.1) ↔ _
    rw [List.mem_map]
    constructor
    · rintro ⟨p, hp', rfl⟩
      obtain ⟨a, ha⟩ := hk p hp'
      exact ⟨p, hp', by rw [ha]; simp [Lit.sameKey, Go.intOf]⟩
    · rintro ⟨p, hp', hs⟩
      obtain ⟨a, ha⟩ := hk p hp'
      rw [ha] at hs
      exact ⟨p, hp', by rw [ha]; simpa [Lit.sameKey, Go.intOf] using hs⟩
/-- The keys of a map, the least first. -/
def SortedK (f : Int → Option Value) (ks : List Int) : Prop := ks.Pairwise (· < ·) ∧ ∀ x, x ∈ ks ↔ I64 x ∧ (f x).isSome = true
theorem sortedK_of {w : World} {b n : Nat} {D : DataW Value} {f : Int → Option Value} (hown : w.ownsMap Tryd.prog 3 heldR b n D) (hag : ∀ x, I64 x → Maps.has D (.int .i64 x) = (f x).isSome) {ss : List Int} (hp : ss.Perm (intKeys D)) : SortedK f (ss.mergeSort fun x y => decide (x ≤ y)) := by
  obtain ⟨h1, h2⟩ := intKeys_spec hown
  have hperm : (ss.mergeSort fun x y => decide (x ≤ y)).Perm (intKeys D) := (List.mergeSort_perm ss _).trans hp
  have tr : ∀ a b c : Int, decide (a ≤ b) = true → decide (b ≤ c) = true → decide (a ≤ c) = true := fun a b c h1 h2 => by simp only [decide_eq_true_eq] at *; omega
  have to : ∀ a b : Int, (decide (a ≤ b) || decide (b ≤ a)) = true := fun a b => by simp only [Bool.or_eq_true, decide_eq_true_eq]; omega
  have hs := List.pairwise_mergeSort tr to ss
  have hnd : (ss.mergeSort fun x y => decide (x ≤ y)).Nodup := hperm.nodup_iff.2 h1
  refine ⟨?_, fun x => ?_⟩
  · have := hs.and hnd
    refine this.imp fun {a b} h => ?_
    have h1 := of_decide_eq_true h.1
    have h2 := h.2
    omega
  · rw [hperm.mem_iff, h2]
    constructor
    · intro hx
      have hwf : I64 x := intKeys_wf hown Tryd.underlying3 x ((h2 x).2 hx)
      exact ⟨hwf, by rw [← hag x hwf]; exact hx⟩
    · rintro ⟨hwf, hx⟩
      rw [hag x hwf]; exact hx
/-- What Sorted leaves of them. -/
def SortR (f : Int → Option Value) (w : World) (e : Ending) (w' : World) : Prop :=
  ∃ (A : Option Addr) (c : Nat) (ks : List Int), e = .returned (.slice A ks.length c) ∧ SortedK f ks ∧ ks.length ≤ c ∧ (0 < ks.length → ∃ g, A = some ⟨g, 0, none⟩ ∧ w.heap.size ≤ g ∧ ∀ i, i < ks.length → w'.cell? ⟨g, i, none⟩ = some (.int .i64 (ks.getD i 0))) ∧ Below w.heap.size w w'
theorem sortR_of {f : Int → Option Value} {w w1 w' : World} {v : Value} {ss : List Int} {n : Nat} {D : DataW Value} {b : Nat} (hown : w.ownsMap Tryd.prog 3 heldR b n D) (hag : ∀ x, I64 x → Maps.has D (.int .i64 x) = (f x).isSome) (hp : ss.Perm (intKeys D))
    (hb1 : Below w.heap.size w w1) (hrow : w'.ownsRow w1.heap.size 3 1 v ss.length ((ss.mergeSort fun x y => decide (x ≤ y)).map encZ)) (hb : Below w1.heap.size w1 w') : SortR f w (.returned v) w' := by
  have hk := sortedK_of hown hag hp
  have hlen : (ss.mergeSort fun x y => decide (x ≤ y)).length = ss.length := (List.mergeSort_perm ss _).length_eq
  generalize (ss.mergeSort fun x y => decide (x ≤ y)) = ks at *
  have hbb : Below w.heap.size w w' := hb1.trans (hb.mono hb1.size)
  rcases hrow.2 with ⟨rfl, h0⟩ | ⟨g, cap, cur, rfl, hg, hh, h1, h2, h3, h4⟩
  · exact ⟨none, 0, ks, by rw [hlen, h0], hk, by omega, fun h => by omega, hbb⟩
  · refine ⟨_, cap, ks, by rw [hlen], hk, by omega, fun hl => ⟨g, rfl, by have := hb1.size; omega, fun i hi => ?_⟩, hbb⟩
    rw [cell_of_row w' g i cur _ (0, 0) hh]
    rw [Nat.mul_one] at h4
    have h5 : (cur.toList.take ss.length)[i]? = (ks.map encZ)[i]? := by rw [h4]
    rw [List.getElem?_take_of_lt (by omega), List.getElem?_map, List.getElem?_eq_getElem hi] at h5
    rw [← Array.getElem?_toList, h5]
    simp [List.getD, hi]
theorem sortedT_any (w : World) (b sz : Nat) (f : Int → Option Value) (h : MapV w b f sz) (hsz : sz ≤ 1000000000) :
    Calls Tryd.prog 72 #[.func (.func 86) #[] #[.pointer (some ⟨w.heap.size, 0, none⟩)]] (w.alloc (.cells #[.map (some b)] 88)) (SortR f w) := by
  obtain ⟨D, hown, hs, hag⟩ := h
  have hbl := hown.lt
  have hseq : SeqGives Fence.wide 2 Tryd.prog 86 #[.pointer (some ⟨w.heap.size, 0, none⟩)] encZ (fun ss => ss.Perm (intKeys D)) (Maps.size D) (w.alloc (.cells #[.map (some b)] 88)) :=
    AnyZI.keys_gives (ρ := keysT_ren) { keysT with } Fence.wide _ trivial rfl (by omega) w.heap.size b sz D _ (by simp) (by simp) (by
      obtain ⟨es, clock, hb, Ft, hs, hD⟩ := hown
      exact ⟨es, clock, (Below.heap_alloc _ _ b hbl).trans hb, Ft, hs, hD⟩)
  have cS := AnyZI.sorted_in sortedI Fence.wide 5 trivial trivial trivial trivial rfl (by omega) (sortsI _) (enters_of Tryd.func85 (by kernel_rfl) rfl) 86 #[.pointer (some ⟨w.heap.size, 0, none⟩)] trivial (enters_of Tryd.func86 (by kernel_rfl) rfl) _ _ (by unfold maxLen; omega) (by omega) _ hseq
  refine ((callsIn_wide (n := 5)).1 cS).mono ?_
  rintro e w' ⟨v, ss, rfl, hS, hrow, hnil, hb⟩
  exact sortR_of hown (fun x hx => (hag x hx).1) hS ((Below.refl _ _).alloc (Nat.le_refl _) _) hrow hb
theorem sortedB_any (w : World) (b sz : Nat) (f : Int → Option Value) (h : MapV w b f sz) (hsz : sz ≤ 1000000000) :
    Calls Tryd.prog 72 #[.func (.func 87) #[] #[.pointer (some ⟨w.heap.size, 0, none⟩)]] (w.alloc (.cells #[.map (some b)] 94)) (SortR f w) := by
  obtain ⟨D, hown, hs, hag⟩ := h
  have hbl := hown.lt
  have hseq : SeqGives Fence.wide 2 Tryd.prog 87 #[.pointer (some ⟨w.heap.size, 0, none⟩)] encZ (fun ss => ss.Perm (intKeys D)) (Maps.size D) (w.alloc (.cells #[.map (some b)] 94)) :=
    AnyZI.keys_gives (ρ := keysB_ren) { keysB with } Fence.wide _ trivial rfl (by omega) w.heap.size b sz D _ (by simp) (by simp) (by
      obtain ⟨es, clock, hb, Ft, hs, hD⟩ := hown
      exact ⟨es, clock, (Below.heap_alloc _ _ b hbl).trans hb, Ft, hs, hD⟩)
  have cS := AnyZI.sorted_in sortedI Fence.wide 5 trivial trivial trivial trivial rfl (by omega) (sortsI _) (enters_of Tryd.func85 (by kernel_rfl) rfl) 87 #[.pointer (some ⟨w.heap.size, 0, none⟩)] trivial (enters_of Tryd.func87 (by kernel_rfl) rfl) _ _ (by unfold maxLen; omega) (by omega) _ hseq
  refine ((callsIn_wide (n := 5)).1 cS).mono ?_
  rintro e w' ⟨v, ss, rfl, hS, hrow, hnil, hb⟩
  exact sortR_of hown (fun x hx => (hag x hx).1) hS ((Below.refl _ _).alloc (Nat.le_refl _) _) hrow hb
end Go.Proofs.YteediemhcocgdaaDoor
