/-
  Blocks and maps that differ; a new disk; what a call keeps.
-/
import Derived.Test.YteediemhcocgdaaDoorMapV
import Derived.Test.YteediemhcocgdaaDoorHeapPlain
namespace Go.Proofs.YteediemhcocgdaaDoor
open Go.RowKit
open HeapP (at_ IsHeap)

theorem blk_map {w : World} {b g : Nat} {t : TypeId} {cs : List Value} {f : Int → Option Value} {n : Nat} (h : MapV w b f n) (hb : Blk w g t cs) : g ≠ b := by
  rintro rfl
  obtain ⟨D, ⟨es, clock, h1, _⟩, _⟩ := h
  unfold Blk at hb
  rw [h1] at hb
  cases hb
theorem blk_type {w : World} {b g : Nat} {t u : TypeId} {cs ds : List Value} (h : Blk w b t cs) (hb : Blk w g u ds) (hne : t ≠ u) : b ≠ g := by
  rintro rfl
  unfold Blk at h hb
  rw [h] at hb
  injection hb with h1
  injection h1 with _ h2
  exact hne h2
theorem pigeon : ∀ (N : Nat) (l : List Int), l.Nodup → (∀ x ∈ l, 0 ≤ x ∧ x < (N : Int)) → l.length ≤ N
  | 0, l, _, h => by
    rcases l with _ | ⟨x, l⟩
    · simp
    · have := h x (by simp); omega
  | N + 1, l, hn, h => by
    by_cases hm : (N : Int) ∈ l
    · have h1 := pigeon N (l.erase (N : Int)) (hn.erase _) fun x hx => by
        have h2 := h x (List.mem_of_mem_erase hx)
        have h3 := (hn.mem_erase_iff.1 hx).1
        omega
      rw [List.length_erase_of_mem hm] at h1
      omega
    · have h1 := pigeon N l hn fun x hx => by
        have h2 := h x hx
        have h3 : x ≠ (N : Int) := fun e => hm (e ▸ hx)
        omega
      omega
/-- So many numbers are such. -/
def Card (P : Int → Prop) (n : Nat) : Prop := ∃ l : List Int, l.Nodup ∧ (∀ x, x ∈ l ↔ P x) ∧ l.length = n
theorem Card.le {P : Int → Prop} {n N : Nat} (h : Card P n) (hb : ∀ x, P x → 0 ≤ x ∧ x < (N : Int)) : n ≤ N := by
  obtain ⟨l, h1, h2, rfl⟩ := h
  exact pigeon N l h1 fun x hx => hb x ((h2 x).1 hx)
theorem Card.add {P Q : Int → Prop} {n : Nat} {x : Int} (h : Card P n) (hx : ¬ P x) (hQ : ∀ y, Q y ↔ P y ∨ y = x) : Card Q (n + 1) := by
  obtain ⟨l, h1, h2, rfl⟩ := h
  refine ⟨x :: l, List.nodup_cons.2 ⟨fun hm => hx ((h2 x).1 hm), h1⟩, fun y => ?_, rfl⟩
  rw [List.mem_cons, hQ, h2]
  exact ⟨fun h => h.symm, fun h => h.symm⟩
theorem Card.del {P Q : Int → Prop} {n : Nat} {x : Int} (h : Card P n) (hx : P x) (hQ : ∀ y, Q y ↔ P y ∧ y ≠ x) : Card Q (n - 1) := by
  obtain ⟨l, h1, h2, rfl⟩ := h
  refine ⟨l.erase x, h1.erase _, fun y => ?_, List.length_erase_of_mem ((h2 x).2 hx)⟩
  rw [h1.mem_erase_iff, hQ, h2]
  exact ⟨fun h => ⟨h.2, h.1⟩, fun h => ⟨h.2, h.1⟩⟩

/-- A row of ints that lies below B. -/
def IArg (w : World) (B : Nat) (A : Option Addr) (l : List Int) : Prop := 0 < l.length → ∃ b off, A = some ⟨b, off, none⟩ ∧ b < B ∧ ∀ i, i < l.length → w.cell? ⟨b, off + i, none⟩ = some (.int .i64 (at_ l i))
theorem IArg.below {w w' : World} {B : Nat} {A : Option Addr} {l : List Int} (h : IArg w B A l) (hb : Below B w w') : IArg w' B A l := fun hl => by
  obtain ⟨b, off, hA, hbB, hc⟩ := h hl
  exact ⟨b, off, hA, hbB, fun i hi => (hb.cell (p := ⟨b, off + i, none⟩) hbB).trans (hc i hi)⟩

theorem blk_new_at {w : World} {t : TypeId} {cs : List Value} {n : Nat} (h : w.heap.size = n) : Blk (w.alloc (.cells cs.toArray t)) n t cs := h ▸ Blk.new w t cs

/-- A new disk's blocks. -/
structure NewDisk (w : World) (n : Int) (hb bb sb nb : Nat) (w' : World) : Prop where
  hand : Blk w' hb 93 [.pointer (some ⟨bb, 0, none⟩)]
  box : Blk w' bb 91 [.int .i64 n, .map (some sb), .map (some nb), .slice none 0 0, .bool false, .int .i64 0, .bool false, .bool false]
  safe : MapV w' sb (fun _ => none) 0
  now : MapV w' nb (fun _ => none) 0
  ne : sb ≠ nb
  hbB : w.heap.size ≤ hb
  bbB : w.heap.size ≤ bb
  sbB : w.heap.size ≤ sb
  nbB : w.heap.size ≤ nb
  below : Below w.heap.size w w'

set_option maxRecDepth 100000 in
theorem new_any (n : Int) (w : World) (h0 : 0 ≤ n) :
    Calls Tryd.prog 30 #[.int .i64 n] w fun e w' => ∃ hb bb sb nb, e = .returned (.pointer (some ⟨hb, 0, none⟩)) ∧ NewDisk w n hb bb sb nb w' := by
  have hmax : max n 0 = n := by omega
  have hmm : ∀ W, (Instr.makeMap 88 none).run Tryd.prog W = .ok (.map (some W.heap.size)) (W.alloc (.map #[] 0)) := fun W => run_makeMap _ W
  go_enter Tryd.func30, Tryd.ntmps30
  go_wp2_with fail
  go_ret
  have hm0 := MapV.made w
  have hm1 := MapV.made (w.alloc (.map #[] 0))
  rw [show (w.alloc (.map #[] 0)).heap.size = w.heap.size + 1 by simp] at hm1
  refine ⟨_, w.heap.size + 1 + 1, w.heap.size, w.heap.size + 1, rfl, blk_new_at (by simp), (blk_new_at (by simp)).alloc _, ((hm0.alloc _).alloc _).alloc _, (hm1.alloc _).alloc _, ?_, ?_, ?_, ?_, ?_, ?_⟩
  · simp
  · omega
  · omega
  · exact Nat.le_refl _
  · omega
  · exact ((((Below.refl _ _).alloc (Nat.le_refl _) _).alloc (by simp) _).alloc (by simp; omega) _).alloc (by simp; omega) _

set_option maxRecDepth 100000 in
theorem hdisk_any (hb bb : Nat) (w : World) (h : Blk w hb 93 [.pointer (some ⟨bb, 0, none⟩)]) :
    Calls Tryd.prog 32 #[.pointer (some ⟨hb, 0, none⟩)] w fun e w' => e = .returned (.pointer (some ⟨w.heap.size, 0, none⟩)) ∧ w' = w.alloc (.cells #[.pointer (some ⟨bb, 0, none⟩)] 100) := by
  have hc : w.cell? ⟨hb, 0, none⟩ = some (.pointer (some ⟨bb, 0, none⟩)) := h.cell 0
  go_enter Tryd.func32, Tryd.ntmps32
  go_wp2_with fail
  go_ret
  exact ⟨rfl, rfl⟩

set_option maxRecDepth 100000 in
theorem sectors_any (db bb : Nat) (n : Int) (w : World) (h : w.cell? ⟨db, 0, none⟩ = some (.pointer (some ⟨bb, 0, none⟩))) (h2 : w.cell? ⟨bb, 0, none⟩ = some (.int .i64 n)) :
    Calls Tryd.prog 58 #[.pointer (some ⟨db, 0, none⟩)] w fun e w' => e = .returned (.int .i64 n) ∧ w = w' := by
  go_enter Tryd.func58, Tryd.ntmps58
  go_wp2_with fail
  go_ret
  exact ⟨rfl, rfl⟩

theorem Turn.below_ {fp : Nat → Prop} {B : Nat} {w w1 : World} (h : Turn fp w w1) (hf : ∀ b, fp b → B ≤ b) (hB : B ≤ w.heap.size) : Below B w w1 :=
  ⟨h.os, h.tape, h.output, h.size, fun b hb => h.block b (by omega) fun hp => by have := hf b hp; omega⟩

/-- The blocks of K are as they were. -/
abbrev Kept (K : Nat → Prop) (w w' : World) : Prop := Turn (fun b => ¬ K b) w w'
theorem Kept.blk {K : Nat → Prop} {w w' : World} {g : Nat} {t : TypeId} {cs : List Value} (h : Kept K w w') (hb : Blk w g t cs) (hk : K g) : Blk w' g t cs := hb.turn h fun hn => hn hk
theorem Kept.below {K : Nat → Prop} {B : Nat} {w w' : World} (h : Kept K w w') (hK : ∀ b, b < B → K b) (hB : B ≤ w.heap.size) : Below B w w' :=
  h.below_ (fun b hb => by
    rcases Nat.lt_or_ge b B with h1 | h1
    · exact absurd (hK b h1) hb
    · exact h1) hB
theorem Kept.of_below {K : Nat → Prop} {w w' : World} (h : Below w.heap.size w w') (_hK : ∀ b, K b → b < w.heap.size) : Kept K w w' :=
  ⟨h.os, h.tape, h.output, h.size, fun b hb _ => h.block b hb⟩
theorem Kept.trans {K : Nat → Prop} {w w1 w2 : World} (h : Kept K w w1) (h2 : Kept K w1 w2) : Kept K w w2 := Turn.trans h h2 fun _ hb => .inl hb
theorem Kept.mono {K K' : Nat → Prop} {w w1 : World} (h : Kept K w w1) (hs : ∀ b, K' b → K b) : Kept K' w w1 := Turn.mono h fun b hb hk => hb (hs b hk)
theorem Kept.refl (K : Nat → Prop) (w : World) : Kept K w w := Turn.refl _ w

/-- An argument of rows of bytes. -/
def RArg (w : World) (B : Nat) (A : Option Addr) (ls : List (List UInt8)) : Prop :=
  0 < ls.length → ∃ g off, A = some ⟨g, off, none⟩ ∧ g < B ∧ ∀ i, i < ls.length → ∃ Ai ci, w.cell? ⟨g, off + i, none⟩ = some (.slice Ai (ls.getD i []).length ci) ∧ (ls.getD i []).length ≤ ci ∧ ci ≤ 9223372036854775807 ∧ (ls.getD i []).length ≤ 140737488351232 ∧ Byt w B Ai (ls.getD i [])
theorem RArg.below {w w' : World} {B : Nat} {A : Option Addr} {ls : List (List UInt8)} (h : RArg w B A ls) (hb : Below B w w') : RArg w' B A ls := fun hl => by
  obtain ⟨g, off, hA, hg, hc⟩ := h hl
  refine ⟨g, off, hA, hg, fun i hi => ?_⟩
  obtain ⟨Ai, ci, h1, h2, h3, h4, h5⟩ := hc i hi
  exact ⟨Ai, ci, (World.cell?_of_block (hb.block g hg)).trans h1, h2, h3, h4, h5.below hb⟩
end Go.Proofs.YteediemhcocgdaaDoor
