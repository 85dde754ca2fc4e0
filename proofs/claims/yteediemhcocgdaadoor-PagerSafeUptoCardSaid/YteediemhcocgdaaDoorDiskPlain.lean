/-
  A disk's acts and losses of power: the plain words.
-/
import Derived.Test.YteediemhcocgdaaDoorDiskPut
namespace Go.Proofs.YteediemhcocgdaaDoor
open Go.RowKit

@[elab_as_elim] theorem snocInd {α : Type} {P : List α → Prop} (l : List α) (nil : P []) (snoc : ∀ l e, P l → P (l ++ [e])) : P l := by
  have h : ∀ r : List α, P r.reverse := fun r => by
    induction r with
    | nil => exact nil
    | cons x r ih => rw [List.reverse_cons]; exact snoc _ _ ih
  have := h l.reverse
  rwa [List.reverse_reverse] at this
/-- Writes laid over what stands. -/
def laidW (f : Int → List UInt8) : List (Int × List UInt8) → Int → List UInt8 :=
  List.foldl (fun g e y => if y = e.1 then e.2 else g y) f
theorem laidW_snoc (f : Int → List UInt8) (l : List (Int × List UInt8)) (e : Int × List UInt8) : laidW f (l ++ [e]) = fun y => if y = e.1 then e.2 else laidW f l y := by
  unfold laidW
  rw [List.foldl_append]
  rfl
theorem laidW_may (f : Int → List UInt8) : ∀ (l : List (Int × List UInt8)) (x : Int), laidW f l x = f x ∨ (x, laidW f l x) ∈ l := by
  intro l
  induction l using snocInd with
  | nil => intro x; exact .inl rfl
  | snoc l e ih =>
    intro x
    rw [laidW_snoc]
    by_cases hx : x = e.1
    · right
      subst hx
      simp
    · simp only [if_neg hx]
      rcases ih x with h | h
      · exact .inl h
      · exact .inr (List.mem_append_left _ h)
/-- The writes that stay. -/
def keptW {α : Type} : List α → List Bool → List α
  | [], _ => []
  | e :: r, k => if k.headD false = true then e :: keptW r k.tail else keptW r k.tail
theorem keptW_mem {α : Type} : ∀ (l : List α) (k : List Bool) (e : α), e ∈ keptW l k → e ∈ l
  | [], _, e, h => by cases h
  | x :: r, k, e, h => by
    unfold keptW at h
    split at h
    · rcases List.mem_cons.1 h with h | h
      · rw [h]; exact List.mem_cons_self
      · exact List.mem_cons_of_mem _ (keptW_mem r _ e h)
    · exact List.mem_cons_of_mem _ (keptW_mem r _ e h)
theorem keptW_take {α : Type} : ∀ (l : List α) (k : List Bool) (i : Nat) (hi : i < l.length), keptW (l.take (i + 1)) k = keptW (l.take i) k ++ (if k.getD i false = true then [l[i]] else [])
  | [], k, i, hi => by simp at hi
  | x :: r, k, 0, hi => by
    rw [List.take_succ_cons, List.take_zero, List.take_zero]
    unfold keptW
    cases k with
    | nil => simp [keptW]
    | cons b k => simp [keptW]
  | x :: r, k, i + 1, hi => by
    have h := keptW_take r k.tail i (by simp at hi; omega)
    rw [List.take_succ_cons, List.take_succ_cons]
    unfold keptW
    rw [h]
    have hg : k.tail.getD i false = k.getD (i + 1) false := by cases k <;> simp
    rw [hg]
    split <;> simp
theorem keptW_map {α β : Type} (f : α → β) : ∀ (l : List α) (k : List Bool), keptW (l.map f) k = (keptW l k).map f
  | [], _ => rfl
  | e :: r, k => by
    rw [List.map_cons]
    unfold keptW
    rw [keptW_map f r]
    split <;> rfl
/-- A loss of power. -/
def DV.crash (V : DV) (keep : List Bool) : DV := { V with now := laidW V.safe (keptW V.wait keep), safe := laidW V.safe (keptW V.wait keep), wait := [], armed := false, down := false }
def DV.arm (V : DV) (a : Int) (d : Bool) : DV := { V with armed := true, acts := max a 0, done := d }
/-- All writes are made safe. -/
def DV.sync (V : DV) : DV := { V with safe := laidW V.safe V.wait, wait := [] }
/-- What is read is what is safe, with what waits. -/
def DV.sound (V : DV) : Prop := V.now = laidW V.safe V.wait
theorem DV.sound_new (n : Int) : (DV.new n).sound := rfl
theorem DV.sound_put {V : DV} (h : V.sound) (x : Int) (l : List UInt8) : (V.put x l).sound := by
  unfold DV.sound at h ⊢
  show (fun y => if y = x then l else V.now y) = laidW V.safe (V.wait ++ [(x, l)])
  rw [laidW_snoc, h]
theorem DV.sound_sync {V : DV} (h : V.sound) : V.sync.sound := h
theorem DV.sound_crash (V : DV) (k : List Bool) : (V.crash k).sound := rfl
/-- What a sector may hold behind a loss of power. -/
def DV.may (V : DV) (x : Int) (l : List UInt8) : Prop := l = V.safe x ∨ (x, l) ∈ V.wait
theorem may_crash {V : DV} {k : List Bool} {x : Int} : V.may x ((V.crash k).now x) := by
  rcases laidW_may V.safe (keptW V.wait k) x with h | h
  · exact .inl h
  · exact .inr (keptW_mem _ _ _ h)
theorem may_of_crash {V : DV} {k : List Bool} {x : Int} {l : List UInt8} (h : (V.crash k).may x l) : l = (V.crash k).now x := by
  rcases h with h | h
  · exact h
  · cases h
theorem may_put {V : DV} {x y : Int} {l m : List UInt8} (h : (V.put x l).may y m) : V.may y m ∨ (y = x ∧ m = l) := by
  rcases h with h | h
  · exact .inl (.inl h)
  · have h' : (y, m) ∈ V.wait ++ [(x, l)] := h
    rcases List.mem_append.1 h' with h | h
    · exact .inl (.inr h)
    · have h2 := List.mem_singleton.1 h
      injection h2 with a b
      exact .inr ⟨a, b⟩
theorem may_sync {V : DV} (hs : V.sound) {x : Int} {l : List UInt8} (h : V.sync.may x l) : l = V.now x ∧ V.may x l := by
  have h1 : l = V.now x := by
    rcases h with h | h
    · rw [h, hs]; rfl
    · cases h
  refine ⟨h1, ?_⟩
  rw [h1, hs]
  rcases laidW_may V.safe V.wait x with h | h
  · exact .inl h
  · exact .inr h
end Go.Proofs.YteediemhcocgdaaDoor
