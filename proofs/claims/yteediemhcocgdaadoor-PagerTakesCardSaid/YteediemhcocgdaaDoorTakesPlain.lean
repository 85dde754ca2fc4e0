/-
  blotterlaw13.PagerTakes: the plain law.
-/
import Derived.Test.YteediemhcocgdaaDoorPoolV
namespace Go.Proofs.YteediemhcocgdaaDoor
open Go.RowKit

theorem Pl.facts {K : Nat → Prop} {w : World} {p : Nat} {V : PV} (h : Pl K w p V) :
    (∀ x, V.pg x ≠ none → 0 ≤ x ∧ x < V.many ∧ V.fr x = false ∧ V.lf x = false) ∧ (∀ x, V.fr x = true → 0 ≤ x ∧ x < V.many ∧ V.lf x = false) ∧ (∀ x, V.lf x = true → 0 ≤ x ∧ x < V.many) := by
  obtain ⟨⟨S, rfl, ha, hok, hf⟩, hl⟩ := h
  refine ⟨fun x hx => ?_, fun x hx => ?_, fun x hx => ?_⟩
  · have h1 := hok.pgB x hx
    have h2 := hok.nextM
    exact ⟨h1.1, (show x < S.many by omega), h1.2.2⟩
  · exact hok.frB x hx
  · have h1 := hok.lfB x hx
    have h2 := hok.nextM
    exact ⟨h1.1, (show x < S.many by omega)⟩

namespace TakesP
def upd (f : Nat → Bool) (k : Nat) (v : Bool) : Nat → Bool := fun n => if n = k then v else f n
/-- What the law's two arrays hold of a pool. -/
structure TInv (V : PV) (u l : Nat → Bool) : Prop where
  many : V.many = 28
  used : ∀ n : Nat, n < 28 → u n = ((V.pg n).isSome || V.fr n)
  left : ∀ n : Nat, n < 28 → l n = V.lf n

theorem isSome_ne {α : Type} {o : Option α} : o.isSome = true ↔ o ≠ none := by cases o <;> simp
theorem inv_open (d : Value) (frm : Int) (l : List Int) : TInv (PV.open_ d frm 28 l) (fun n => l.contains (n : Int)) (fun _ => false) :=
  ⟨rfl, fun _ _ => rfl, fun _ _ => rfl⟩
theorem cast_ne {n k : Nat} (h : n ≠ k) : (n : Int) ≠ (k : Int) := fun e => h (by omega)
theorem inv_rmT {V : PV} {u l : Nat → Bool} {k : Nat} (h : TInv V u l) (hfr : V.fr k = false) (hlf : V.lf k = false) : TInv (V.rmT k) (upd u k false) (upd l k false) := by
  refine ⟨h.many, fun n hn => ?_, fun n hn => ?_⟩
  · unfold upd PV.rmT
    dsimp only
    by_cases e : n = k
    · subst e; rw [if_pos rfl, if_pos rfl, hfr]; rfl
    · rw [if_neg e, if_neg (cast_ne e)]; exact h.used n hn
  · unfold upd
    by_cases e : n = k
    · subst e; rw [if_pos rfl]; exact hlf.symm
    · rw [if_neg e]; exact h.left n hn
theorem inv_rmF {V : PV} {u l : Nat → Bool} {k : Nat} (h : TInv V u l) (hpg : V.pg k = none) : TInv (V.rmF k) (upd u k false) (upd l k true) := by
  refine ⟨h.many, fun n hn => ?_, fun n hn => ?_⟩
  · unfold upd PV.rmF
    dsimp only
    by_cases e : n = k
    · subst e; rw [if_pos rfl, if_pos rfl, hpg]; rfl
    · rw [if_neg e, if_neg (cast_ne e)]; exact h.used n hn
  · unfold upd PV.rmF
    dsimp only
    by_cases e : n = k
    · subst e; rw [if_pos rfl, if_pos rfl]
    · rw [if_neg e, if_neg (cast_ne e)]; exact h.left n hn
theorem inv_tk {V : PV} {u l : Nat → Bool} {k g : Nat} (h : TInv V u l) : TInv (V.tk k g) (upd u k true) l := by
  refine ⟨h.many, fun n hn => ?_, fun n hn => h.left n hn⟩
  unfold upd PV.tk
  dsimp only
  by_cases e : n = k
  · subst e; rw [if_pos rfl, if_pos rfl]; rfl
  · rw [if_neg e, if_neg (cast_ne e)]; exact h.used n hn

/-- The least free page from 28 - d on; 28: none. -/
def lst (u l : Nat → Bool) : Nat → Nat
  | 0 => 28
  | d + 1 => if !u (27 - d) && !l (27 - d) then 27 - d else lst u l d
theorem lst_spec (u l : Nat → Bool) : ∀ d, d ≤ 28 → (lst u l d = 28 ∧ ∀ n, 28 - d ≤ n → n < 28 → (!u n && !l n) = false) ∨ (28 - d ≤ lst u l d ∧ lst u l d < 28 ∧ (!u (lst u l d) && !l (lst u l d)) = true ∧ ∀ n, 28 - d ≤ n → n < lst u l d → (!u n && !l n) = false)
  | 0, _ => .inl ⟨rfl, fun n h1 h2 => by omega⟩
  | d + 1, hd => by
    unfold lst
    rcases e : (!u (27 - d) && !l (27 - d)) with _ | _
    · rw [if_neg (by simp)]
      rcases lst_spec u l d (by omega) with ⟨h1, h2⟩ | ⟨h1, h2, h3, h4⟩
      · refine .inl ⟨h1, fun n hn h28 => ?_⟩
        by_cases e2 : n = 27 - d
        · rw [e2]; exact e
        · exact h2 n (by omega) h28
      · refine .inr ⟨by omega, h2, h3, fun n hn hlt => ?_⟩
        by_cases e2 : n = 27 - d
        · rw [e2]; exact e
        · exact h4 n (by omega) hlt
    · rw [if_pos rfl]
      exact .inr ⟨by omega, by omega, e, fun n h1 h2 => by omega⟩
theorem free_iff {V : PV} {u l : Nat → Bool} (h : TInv V u l) (n : Nat) (hn : n < 28) : V.free n ↔ (!u n && !l n) = true := by
  rw [h.used n hn, h.left n hn]
  unfold PV.free
  rw [h.many]
  constructor
  · rintro ⟨_, _, a, b, c⟩
    rw [a, b, c]; rfl
  · intro hh
    simp at hh
    obtain ⟨⟨a, b⟩, c⟩ := hh
    exact ⟨by omega, by omega, a, b, c⟩
theorem free_nat {V : PV} {u l : Nat → Bool} (h : TInv V u l) {x : Int} (hx : V.free x) : ∃ n : Nat, x = n ∧ n < 28 := by
  have h1 := hx.1
  have h2 := hx.2.1
  rw [h.many] at h2
  exact ⟨x.toNat, by omega, by omega⟩
theorem least_none {V : PV} {u l : Nat → Bool} (h : TInv V u l) (hno : ∀ x, ¬ V.free x) : lst u l 28 = 28 := by
  rcases lst_spec u l 28 (Nat.le_refl _) with h1 | h1
  · exact h1.1
  · exact absurd ((free_iff h _ h1.2.1).2 h1.2.2.1) (hno _)
theorem least_some {V : PV} {u l : Nat → Bool} (h : TInv V u l) {n : Int} (hf : V.free n) (hle : ∀ x, V.free x → n ≤ x) : n = (lst u l 28 : Nat) ∧ lst u l 28 < 28 := by
  obtain ⟨m, rfl, hm⟩ := free_nat h hf
  have hm2 := (free_iff h m hm).1 hf
  rcases lst_spec u l 28 (Nat.le_refl _) with h1 | ⟨h1, h2, h3, h4⟩
  · rw [h1.2 m (by omega) hm] at hm2
    cases hm2
  · have h5 := hle _ ((free_iff h _ h2).2 h3)
    refine ⟨?_, h2⟩
    by_cases hlt : m < lst u l 28
    · rw [h4 m (by omega) hlt] at hm2
      cases hm2
    · omega

/-- The cells of an array of 28 bools. -/
def cells (f : Nat → Bool) : List Value := (List.range 28).map fun n => .bool (f n)
theorem cells_get (f : Nat → Bool) (n : Nat) (hn : n < 28) : (cells f)[n]? = some (.bool (f n)) := by
  unfold cells
  rw [List.getElem?_map, List.getElem?_range hn]
  rfl
theorem cells_set (f : Nat → Bool) (k : Nat) (v : Bool) (hk : k < 28) : (cells f).set k (.bool v) = cells (upd f k v) := by
  apply List.ext_getElem?
  intro n
  rw [List.getElem?_set]
  unfold cells upd
  by_cases hn : n < 28
  · by_cases e : k = n
    · subst e
      simp [hk]
    · have e2 : ¬ n = k := fun h => e h.symm
      simp [e, hn, e2]
  · by_cases e : k = n
    · omega
    · rw [if_neg e, List.getElem?_eq_none (by simp; omega), List.getElem?_eq_none (by simp; omega)]
end TakesP
end Go.Proofs.YteediemhcocgdaaDoor
