/-
  block.New, Hand.Disk, Disk.Sectors, pager.Open.
-/
import Derived.Test.YteediemhcocgdaaDoorPoolDrop
namespace Go.Proofs.YteediemhcocgdaaDoor
open Go.RowKit
open HeapP (at_ IsHeap)

/-- Pages that may be kept. -/
def KeepOK (l : List Int) (many : Int) : Prop := ∀ i, i < l.length → 0 ≤ at_ l i ∧ at_ l i < many ∧ (0 < i → at_ l (i - 1) < at_ l i)
theorem keep_nodup {l : List Int} {many : Int} (h : KeepOK l many) : ∀ i j, i < j → j < l.length → at_ l i < at_ l j := by
  intro i j hij
  induction j with
  | zero => omega
  | succ j ih =>
    intro hj
    have h1 := (h (j + 1) hj).2.2 (by omega)
    rw [Nat.add_sub_cancel] at h1
    by_cases e : i = j
    · subst e; exact h1
    · have := ih (by omega) (by omega); omega

/-- The state of a new pool, the first k pages of l kept. -/
def openS (d : Value) (frm many : Int) (l : List Int) (k tb fb lb : Nat) : PoolS :=
  { d := d, frm := frm, many := many, A := none, c := 0, gl := [], next := 0, tb := tb, fb := fb, lb := lb, pg := fun _ => none, tn := 0, fr := fun x => (l.take k).contains x, fn := k, lf := fun _ => false, ln := 0 }

theorem openS_ok {d : Value} {frm many : Int} {l : List Int} {tb fb lb : Nat} (h0 : 1 ≤ many) (hM : many ≤ 1048576) (hk : KeepOK l many) : PoolOK (openS d frm many l l.length tb fb lb) := by
  have hmem : ∀ x, (l.take l.length).contains x = true ↔ x ∈ l := fun x => by rw [List.take_length, List.contains_iff_mem]
  refine ⟨Int.le_refl _, by show (0 : Int) ≤ many; omega, hM, fun x => ⟨fun hx => (by cases hx), fun hx => ?_⟩, List.nodup_nil, fun x hx => absurd rfl hx, fun x hx => ?_, fun x hx => (by cases hx), ⟨[], List.nodup_nil, fun x => by simp [openS], rfl⟩, ⟨l, ?_, fun x => (hmem x).symm, rfl⟩, ⟨[], List.nodup_nil, fun x => by simp [openS], rfl⟩⟩
  · have a : 0 ≤ x := hx.1
    have b : x < 0 := hx.2.1
    omega
  · obtain ⟨i, hi, rfl⟩ := List.getElem_of_mem ((hmem x).1 hx)
    rw [← HeapP.at_eq l i hi]
    exact ⟨(hk i hi).1, (hk i hi).2.1, rfl⟩
  · rw [List.nodup_iff_pairwise_ne, List.pairwise_iff_getElem]
    intro i j hi hj hij
    have := keep_nodup hk i j hij hj
    rw [HeapP.at_eq l i hi, HeapP.at_eq l j hj] at this
    omega

/-- What pager.Open leaves. -/
def OpenPR (d : Value) (frm many : Int) (l : List Int) (w : World) (e : Ending) (w' : World) : Prop :=
  Below w.heap.size w w' ∧ ((KeepOK l many ∧ ∃ p tb fb lb, e = .returned (.tuple #[.pointer (some ⟨p, 0, none⟩), .nilIface]) ∧ PoolAt w' p (openS d frm many l l.length tb fb lb) ∧ ∀ b, (openS d frm many l l.length tb fb lb).fp p b → w.heap.size ≤ b) ∨
    (¬ KeepOK l many ∧ e = .returned (.tuple #[.pointer none, .iface 24 (.int .i64 1)])))
theorem openS_succ (d : Value) (frm many : Int) (l : List Int) (k tb fb lb : Nat) (hk : k < l.length) : mput (setF (openS d frm many l k tb fb lb).fr) (at_ l k) (.bool true) = setF (openS d frm many l (k + 1) tb fb lb).fr := by
  funext y
  have ht : l.take (k + 1) = l.take k ++ [at_ l k] := by rw [List.take_succ_eq_append_getElem hk, HeapP.at_eq l k hk]
  unfold mput setF openS
  dsimp only
  rw [ht]
  by_cases e : y = at_ l k <;> simp [e]
theorem openS_new' {l : List Int} {many : Int} (d : Value) (frm : Int) (tb fb lb : Nat) {k : Nat} (h : ∀ j, j < k → 0 ≤ at_ l j ∧ at_ l j < many ∧ (0 < j → at_ l (j - 1) < at_ l j)) (hk : k < l.length) (ho : 0 < k → at_ l (k - 1) < at_ l k) : (setF (openS d frm many l k tb fb lb).fr) (at_ l k) = none := by
  have hlt : ∀ j, j ≤ k → ∀ i, i < j → at_ l i < at_ l j := by
    intro j
    induction j with
    | zero => intro _ i hi; omega
    | succ j ih =>
      intro hj i hi
      have h1 : at_ l j < at_ l (j + 1) := by
        by_cases e : j + 1 = k
        · have := ho (by omega)
          rw [← e, Nat.add_sub_cancel] at this
          exact this
        · have := (h (j + 1) (by omega)).2.2 (by omega)
          rw [Nat.add_sub_cancel] at this
          exact this
      by_cases e : i = j
      · subst e; exact h1
      · have := ih (by omega) i (by omega); omega
  have hn : (l.take k).contains (at_ l k) = false := by
    rcases e : (l.take k).contains (at_ l k) with _ | _
    · rfl
    · rw [List.contains_iff_mem] at e
      obtain ⟨i, hi, he⟩ := List.getElem_of_mem e
      rw [List.length_take] at hi
      rw [List.getElem_take, ← HeapP.at_eq l i (by omega)] at he
      have := hlt k (Nat.le_refl _) i (by omega)
      omega
  show (if (l.take k).contains (at_ l k) = true then some (Value.bool true) else none) = none
  rw [hn]
  rfl
theorem PoolAt.opened {w w1 : World} {p : Nat} {d : Value} {frm many : Int} {l : List Int} {k tb fb lb : Nat} (h : PoolAt w p (openS d frm many l k tb fb lb)) (hnew : (setF (openS d frm many l k tb fb lb).fr) (at_ l k) = none) (hk : k < l.length)
    (hm : MapV w1 fb (mput (setF (openS d frm many l k tb fb lb).fr) (at_ l k) (.bool true)) (if ((setF (openS d frm many l k tb fb lb).fr) (at_ l k)).isSome then k else k + 1)) (hg : w.grownBy w1 (some fb)) : PoolAt w1 p (openS d frm many l (k + 1) tb fb lb) := by
  have hkk : ∀ b, b < w.heap.size → b ≠ fb → w1.heap[b]? = w.heap[b]? := fun b h0 h1 => hg.block b h0 (fun e => h1 (Option.some.inj e))
  rw [hnew, openS_succ d frm many l k tb fb lb hk] at hm
  exact ⟨(hkk p h.blk.lt (blk_map h.fm h.blk)).trans h.blk, .inl ⟨rfl, rfl, rfl⟩, HeapP.heap_nil, h.tm.keep (hkk _ h.tm.lt h.tf), hm, h.lm.keep (hkk _ h.lm.lt h.fl.symm), fun x g l hx => (by cases hx), fun x y g l m hx => (by cases hx), h.tf, h.tl, h.fl⟩
theorem open_start (w : World) (d : Value) (frm many : Int) (l : List Int) : PoolAt ((((w.alloc (.map #[] 0)).alloc (.map #[] 0)).alloc (.map #[] 0)).alloc (.cells #[d, .int .i64 frm, .int .i64 many, .slice none 0 0, .int .i64 0, .map (some w.heap.size), .map (some (w.heap.size + 1)), .map (some (w.heap.size + 1 + 1))] 98)) (w.heap.size + 1 + 1 + 1) (openS d frm many l 0 w.heap.size (w.heap.size + 1) (w.heap.size + 1 + 1)) := by
  have hm0 := MapV.made w
  have hm1 := MapV.made (w.alloc (.map #[] 0))
  have hm2 := MapV.made ((w.alloc (.map #[] 0)).alloc (.map #[] 0))
  rw [show (w.alloc (.map #[] 0)).heap.size = w.heap.size + 1 by simp] at hm1
  rw [show ((w.alloc (.map #[] 0)).alloc (.map #[] 0)).heap.size = w.heap.size + 1 + 1 by simp] at hm2
  refine ⟨blk_new_at (by simp), .inl ⟨rfl, rfl, rfl⟩, HeapP.heap_nil, ((hm0.alloc _).alloc _).alloc _, ?_, hm2.alloc _, fun x g l hx => (by cases hx), fun x y g l m hx => (by cases hx), ?_, ?_, ?_⟩
  · exact (hm1.alloc _).alloc _
  · show w.heap.size ≠ w.heap.size + 1; omega
  · show w.heap.size ≠ w.heap.size + 1 + 1; omega
  · show w.heap.size + 1 ≠ w.heap.size + 1 + 1; omega

set_option maxHeartbeats 2000000 in
set_option maxRecDepth 100000 in
theorem popen_any (db bb B : Nat) (frm many n : Int) (A : Option Addr) (c : Nat) (l : List Int) (w : World) (hd : w.cell? ⟨db, 0, none⟩ = some (.pointer (some ⟨bb, 0, none⟩))) (h2 : w.cell? ⟨bb, 0, none⟩ = some (.int .i64 n))
    (hk : IArg w B A l) (hB : B ≤ w.heap.size) (hf0 : 0 ≤ frm) (hfn : frm ≤ n) (hm1 : 1 ≤ many) (hmM : many ≤ 1048576) (hmn : many ≤ n - frm) (hn : n ≤ 1099511627776) (hl : l.length ≤ 140737488351232) :
    Calls Tryd.prog 31 #[.pointer (some ⟨db, 0, none⟩), .int .i64 frm, .int .i64 many, .slice A l.length c] w (OpenPR (.pointer (some ⟨db, 0, none⟩)) frm many l w) := by
  have hmm : ∀ W, (Instr.makeMap 88 none).run Tryd.prog W = .ok (.map (some W.heap.size)) (W.alloc (.map #[] 0)) := fun W => run_makeMap _ W
  have hmf : ∀ W, (Instr.makeMap 94 none).run Tryd.prog W = .ok (.map (some W.heap.size)) (W.alloc (.map #[] 0)) := fun W => run_makeMap _ W
  have HK := Lib.hid hk
  clear hk
  go_enter Tryd.func31, Tryd.ntmps31
  go_wp2_with fail
  refine (sectors_any db bb n w hd h2).mono ?_
  rintro e w1 ⟨rfl, rfl⟩
  go_wp2_with fail
  have hst := open_start w (.pointer (some ⟨db, 0, none⟩)) frm many l
  have hbel : Below w.heap.size w ((((w.alloc (.map #[] 0)).alloc (.map #[] 0)).alloc (.map #[] 0)).alloc (.cells #[.pointer (some ⟨db, 0, none⟩), .int .i64 frm, .int .i64 many, .slice none 0 0, .int .i64 0, .map (some w.heap.size), .map (some (w.heap.size + 1)), .map (some (w.heap.size + 1 + 1))] 98)) :=
    ((((Below.refl _ _).alloc (Nat.le_refl _) _).alloc (by simp) _).alloc (by simp; omega) _).alloc (by simp; omega) _
  have HST := Lib.hid hst
  have HBEL := Lib.hid hbel
  clear hst hbel
  go_loopw [49] (fun i wr => ∃ (k : Nat), k ≤ l.length ∧ i = .int .i64 k ∧ (∀ j, j < k → 0 ≤ at_ l j ∧ at_ l j < many ∧ (0 < j → at_ l (j - 1) < at_ l j)) ∧ PoolAt wr (w.heap.size + 1 + 1 + 1) (openS (.pointer (some ⟨db, 0, none⟩)) frm many l k w.heap.size (w.heap.size + 1) (w.heap.size + 1 + 1)) ∧ Below w.heap.size w wr) (fun i _ => l.length - (intOf i).toNat)
  case atStart => exact ⟨0, Nat.zero_le _, rfl, fun j hj => by omega, HST.out, HBEL.out⟩
  case round =>
    obtain ⟨k, hk, rfl, hgood, hpa, hbl⟩ := hrel
    obtain ⟨c0, c1, c2, c3, c4, c5, c6', c7⟩ := hpa.cell
    have c6 : wr.cell? ⟨w.heap.size + 1 + 1 + 1, 6, none⟩ = some (.map (some (w.heap.size + 1))) := c6'
    clear c6'
    have HP := Lib.hid hpa
    have HG := Lib.hid hgood
    have HB2 := Lib.hid hbl
    clear hpa hgood c0 c1 c2 c3 c4 c5 c7
    by_cases hlt : k < l.length
    · obtain ⟨b, off, rfl, hbB, hc⟩ := (HK.out.below (hbl.mono hB)) (by omega)
      have hck := hc k hlt
      have hcp := hc (k - 1) (by omega)
      clear hc hbl
      by_cases hx0 : at_ l k < 0
      · have hbad : ¬ KeepOK l many := fun h => by have := (h k hlt).1; omega
        have HBAD := Lib.hid hbad
        clear hbad
        generalize at_ l k = x at *
        go_wp2_with fail
        go_ret2
        exact ⟨HB2.out, .inr ⟨HBAD.out, rfl⟩⟩
      · have hx1 : 0 ≤ at_ l k := by omega
        clear hx0
        by_cases hxm : many ≤ at_ l k
        · have hbad : ¬ KeepOK l many := fun h => by have := (h k hlt).2.1; omega
          have HBAD := Lib.hid hbad
          clear hbad
          generalize at_ l k = x at *
          go_wp2_with fail
          go_ret2
          exact ⟨HB2.out, .inr ⟨HBAD.out, rfl⟩⟩
        · have hx2 : at_ l k < many := by omega
          clear hxm
          rcases k with _ | j
          · have hord : 0 < 0 → at_ l (0 - 1) < at_ l 0 := fun h => by omega
            have hnew : setF (openS (.pointer (some ⟨db, 0, none⟩)) frm many l 0 w.heap.size (w.heap.size + 1) (w.heap.size + 1 + 1)).fr (at_ l 0) = none := rfl
            clear hcp
            rw [Nat.add_zero] at hck
            have hkn : setF (openS (.pointer (some ⟨db, 0, none⟩)) frm many l 0 w.heap.size (w.heap.size + 1) (w.heap.size + 1 + 1)).fr (at_ l (0)) = none := hnew
            obtain ⟨w2, hrun, hm2, hg2⟩ := HP.out.fm.put Tryd.underlying94 (show 0 < maxLen by unfold maxLen; omega) (i64_of (x := at_ l (0)) (by omega) (by omega)) (.bool true)
            have HP2 := Lib.hid (HP.out.opened hkn hlt hm2 hg2)
            have HB3 : Hid (Below w.heap.size w w2) := Lib.hid (HB2.out.trans ((Turn.of_grown hg2).below_ (fun b hb => (by have h1 : w.heap.size + 1 = b := Option.some.inj hb; omega)) HB2.out.size))
            have hrun2 : (Instr.mapUpdate 94 (.map (some (w.heap.size + 1))) (.int .i64 (at_ l (0))) (.bool true)).run Tryd.prog wr = .ok () w2 := hrun
            have HG3 : Hid (∀ j, j < 0 + 1 → 0 ≤ at_ l j ∧ at_ l j < many ∧ (0 < j → at_ l (j - 1) < at_ l j)) := Lib.hid fun j hj => by
              by_cases e : j = 0
              · rw [e]; exact ⟨by omega, by omega, hord⟩
              · exact HG.out j (by omega)
            clear hm2 hg2 hrun hkn hnew hord
            generalize at_ l 0 = x at *
            go_wp2_with fail
            exact ⟨⟨0 + 1, by omega, by go_num, HG3.out, HP2.out, HB3.out⟩, by simp [intOf]; omega⟩
          · rw [Nat.add_sub_cancel] at hcp
            by_cases hle : at_ l (j + 1) ≤ at_ l j
            · have hbad : ¬ KeepOK l many := fun h => by have := (h (j + 1) hlt).2.2 (by omega); rw [Nat.add_sub_cancel] at this; omega
              have HBAD := Lib.hid hbad
              clear hbad
              generalize at_ l (j + 1) = x at *
              generalize at_ l j = y at *
              go_wp2_with fail
              go_ret2
              exact ⟨HB2.out, .inr ⟨HBAD.out, rfl⟩⟩
            · have hlt3 : at_ l j < at_ l (j + 1) := by omega
              have hord : 0 < j + 1 → at_ l (j + 1 - 1) < at_ l (j + 1) := fun _ => by rw [Nat.add_sub_cancel]; exact hlt3
              have hnew := openS_new' (.pointer (some ⟨db, 0, none⟩)) frm w.heap.size (w.heap.size + 1) (w.heap.size + 1 + 1) (many := many) HG.out hlt hord
              clear hle
              have hkn : setF (openS (.pointer (some ⟨db, 0, none⟩)) frm many l (j + 1) w.heap.size (w.heap.size + 1) (w.heap.size + 1 + 1)).fr (at_ l (j + 1)) = none := hnew
              obtain ⟨w2, hrun, hm2, hg2⟩ := HP.out.fm.put Tryd.underlying94 (show (j + 1) < maxLen by unfold maxLen; omega) (i64_of (x := at_ l (j + 1)) (by omega) (by omega)) (.bool true)
              have HP2 := Lib.hid (HP.out.opened hkn hlt hm2 hg2)
              have HB3 : Hid (Below w.heap.size w w2) := Lib.hid (HB2.out.trans ((Turn.of_grown hg2).below_ (fun b hb => (by have h1 : w.heap.size + 1 = b := Option.some.inj hb; omega)) HB2.out.size))
              have hrun2 : (Instr.mapUpdate 94 (.map (some (w.heap.size + 1))) (.int .i64 (at_ l (j + 1))) (.bool true)).run Tryd.prog wr = .ok () w2 := hrun
              have HG3 : Hid (∀ m, m < j + 1 + 1 → 0 ≤ at_ l m ∧ at_ l m < many ∧ (0 < m → at_ l (m - 1) < at_ l m)) := Lib.hid fun m hj => by
                by_cases e : m = j + 1
                · rw [e]; exact ⟨by omega, by omega, hord⟩
                · exact HG.out m (by omega)
              clear hm2 hg2 hrun hkn hnew hord
              generalize at_ l (j + 1) = x at *
              generalize at_ l j = y at *
              go_wp2_with fail
              exact ⟨⟨j + 1 + 1, by omega, by go_num, HG3.out, HP2.out, HB3.out⟩, by simp [intOf]; omega⟩
    · obtain rfl : k = l.length := by omega
      clear hbl
      go_wp2_with fail
      go_ret2
      refine ⟨HB2.out, .inl ⟨HG.out, _, _, _, _, rfl, HP.out, fun b hb => ?_⟩⟩
      rcases hb with h | h | h | h | h | ⟨x, q, h⟩
      · omega
      · have : b = w.heap.size := h; omega
      · have : b = w.heap.size + 1 := h; omega
      · have : b = w.heap.size + 1 + 1 := h; omega
      · cases h
      · cases h
end Go.Proofs.YteediemhcocgdaaDoor
