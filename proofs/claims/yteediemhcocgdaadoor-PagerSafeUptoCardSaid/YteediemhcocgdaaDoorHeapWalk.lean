/-
  pager's heap: put and take.
-/
import Derived.Test.YteediemhcocgdaaDoorHeapPlain
import Derived.Test.YteediemhcocgdaaDoorMapV
import Derived.BigQuiet
import Derived.Deep.AppendLies
import Derived.ArgAppend
import Derived.Laws.Append
namespace Go.Proofs.YteediemhcocgdaaDoor
open Go.RowKit
open HeapP (at_ IsHeap swap)

def ci (x : Int) : Value := .int .i64 x
/-- A row of ints of a block of its own, or nil. -/
def IRow (w : World) (A : Option Addr) (c : Nat) (l : List Int) : Prop :=
  (A = none ∧ c = 0 ∧ l = []) ∨ ∃ g cs, A = some ⟨g, 0, none⟩ ∧ Blk w g 3 cs ∧ cs.length = c ∧ l.length ≤ c ∧ c ≤ maxLen ∧ cs.take l.length = l.map ci
theorem IRow.keep {w w' : World} {A : Option Addr} {c : Nat} {l : List Int} (h : IRow w A c l) (hk : ∀ b, blkOf A = some b → w'.heap[b]? = w.heap[b]?) : IRow w' A c l := by
  rcases h with h | ⟨g, cs, rfl, hb, r⟩
  · exact .inl h
  · exact .inr ⟨g, cs, rfl, (hk g rfl).trans hb, r⟩
theorem IRow.lt {w : World} {A : Option Addr} {c : Nat} {l : List Int} (h : IRow w A c l) : ∀ b, blkOf A = some b → b < w.heap.size := fun b hb => by
  rcases h with ⟨rfl, _⟩ | ⟨g, cs, rfl, h, _⟩
  · cases hb
  · obtain rfl : g = b := Option.some.inj hb
    exact h.lt
theorem IRow.own {w : World} {A : Option Addr} {c : Nat} {l : List Int} (h : IRow w A c l) : w.ownsRow 0 3 1 (.slice A l.length c) l.length (l.map ci) := by
  rcases h with ⟨rfl, rfl, rfl⟩ | ⟨g, cs, rfl, hb, hc, hl, hm, ht⟩
  · exact World.ownsRow_nil _ _ _ _
  · exact ⟨by simp, .inr ⟨g, c, cs.toArray, rfl, Nat.zero_le _, hb, hl, hm, by simp [hc], by simpa using ht⟩⟩
theorem irow_of_own {w : World} {v : Value} {n : Nat} {l : List Int} (h : w.ownsRow 0 3 1 v n (l.map ci)) : ∃ A c, v = .slice A l.length c ∧ n = l.length ∧ IRow w A c l := by
  obtain ⟨hlen, h2⟩ := h
  simp only [List.length_map, Nat.mul_one] at hlen
  rcases h2 with ⟨rfl, rfl⟩ | ⟨g, cap, cur, rfl, _, hb, hn, hm, hcur, ht⟩
  · have : l = [] := List.eq_nil_of_length_eq_zero hlen
    subst this
    exact ⟨none, 0, rfl, rfl, .inl ⟨rfl, rfl, rfl⟩⟩
  · rw [← hlen] at *
    exact ⟨some ⟨g, 0, none⟩, cap, rfl, rfl, .inr ⟨g, cur.toList, rfl, by simpa [Blk] using hb, by simpa using hcur, hn, hm, by simpa using ht⟩⟩

theorem icell {w : World} {g : Nat} {cs : List Value} {l : List Int} (hb : Blk w g 3 cs) (ht : cs.take l.length = l.map ci) {i : Nat} (hi : i < l.length) : w.cell? ⟨g, i, none⟩ = some (.int .i64 (at_ l i)) := by
  rw [hb.cell, ← List.getElem?_take_of_lt hi, ht, List.getElem?_map, List.getElem?_eq_getElem hi]
  rw [HeapP.at_eq l i hi]
  rfl
theorem iset {cs : List Value} {l : List Int} (ht : cs.take l.length = l.map ci) (i : Nat) (x : Int) : (cs.set i (.int .i64 x)).take (l.set i x).length = (l.set i x).map ci := by
  rw [List.length_set, List.take_set, ht, List.map_set]
  rfl

theorem int_info : (Tryd.prog.info? 3).map (fun i => (i.zero, i.size, i.bytes)) = some (some (.int .i64 0), 1, 8) := by kernel_rfl

theorem wp_append_int {w : World} {ops : Array Oper} {rest : List Oper} {o : Oper} {a : Act} {Q : Exit → Act → World → Prop} (hgd : o.guard = none) (s y : Operand)
    (ho : o.op = .call { callee := .builtin .append, args := #[s, y], argTypes := #[41, 41] }) (A : Option Addr) (c : Nat) (l : List Int) (b : Nat) (x : Int)
    (hs : a.eval s = .slice A l.length c) (hy : a.eval y = .slice (some ⟨b, 0, none⟩) 1 1) (hr : IRow w A c l) (hx : w.cell? ⟨b, 0, none⟩ = some (.int .i64 x)) (hl : l.length ≤ 1000000000)
    (h : ∀ g c' w', IRow w' (some ⟨g, 0, none⟩) c' (l ++ [x]) → w.grownBy w' (blkOf A) → blkOf A = some g ∨ g = w.heap.size → wpList Tryd.prog ops Q rest (a.put o.dst (.slice (some ⟨g, 0, none⟩) (l.length + 1) c')) w') :
    wpList Tryd.prog ops Q (o :: rest) a w := by
  obtain ⟨i0, hi, hz0, hz1, hz2⟩ := info_parts int_info
  obtain ⟨g, cap, w', hrun, hown, hg, hlie, _⟩ := run_append_lies (P := Tryd.prog) (w := w) 41 o.type 0 3 i0 (.int .i64 0) 1 8 Tryd.underlying41 hi hz0 hz1 hz2 rfl (by decide) _ _ _ hr.own ⟨b, 0, none⟩ 1 1 [.int .i64 x] rfl
    (fun j u hj => by
      rcases j with _ | j
      · simp at hj; subst hj; simpa [Addr.add] using hx
      · simp at hj) (by simp [Value.oneCell']) (by omega) (by unfold maxLen; omega) (by omega) (Nat.zero_le _) w.heap.size rfl
  rw [ownBlock_slice] at hg hlie
  have hown2 : w'.ownsRow 0 3 1 (.slice (some ⟨g, 0, none⟩) (l.length + 1) cap) (l.length + 1) ((l ++ [x]).map ci) := by
    rw [List.map_append]; exact hown
  obtain ⟨A', c', he, _, hr'⟩ := irow_of_own hown2
  injection he with h1 h2 h3
  subst h1 h3
  exact Lib.wpList_append_run w hgd s y _ _ ho _ _ hs hy _ w' hrun (h g cap w' hr' hg hlie)

/-- What put leaves: the row in the cell o of the block p. -/
def PutR (p o : Nat) (T : TypeId) (cs : List Value) (A : Option Addr) (l : List Int) (x : Int) (w : World) (e : Ending) (w' : World) : Prop :=
  e = .returned (.tuple #[]) ∧ ∃ A' c' l', l'.Perm (x :: l) ∧ IsHeap l' ∧ IRow w' A' c' l' ∧ Blk w' p T (cs.set o (.slice A' l'.length c')) ∧
    (∀ b, blkOf A' = some b → b ≠ p ∧ (blkOf A = some b ∨ w.heap.size ≤ b)) ∧ Turn (fun b => b = p ∨ blkOf A = some b) w w'

theorem putR_end {p o : Nat} {T : TypeId} {cs : List Value} {A : Option Addr} {l : List Int} {x : Int} {w wr : World} {g c1 : Nat} {l' : List Int} {ds' : List Value} (hgp : g ≠ p) (hfg : (g = p ∨ blkOf A = some g) ∨ w.heap.size ≤ g) (hlc : l.length + 1 ≤ c1) (hcm : c1 ≤ maxLen) (hl' : l'.length = l.length + 1)
    (h : l'.Perm (x :: l) ∧ IsHeap l' ∧ Blk wr g 3 ds' ∧ ds'.take l'.length = l'.map ci ∧ Blk wr p T (cs.set o (.slice (some ⟨g, 0, none⟩) (l.length + 1) c1)) ∧ ds'.length = c1 ∧ Turn (fun b => b = p ∨ blkOf A = some b) w wr) (nq : Nat) :
    PutR p o T cs A l x w (.returned (.tuple #[])) (wr.drewN nq) := by
  obtain ⟨h1, h2, h3, h4, h5, h6, h7⟩ := h
  refine ⟨rfl, some ⟨g, 0, none⟩, c1, l', h1, h2, .inr ⟨g, ds', rfl, h3, h6, by omega, hcm, h4⟩, by rw [hl']; exact h5, fun b hb => ?_, h7.drewN _⟩
  obtain rfl : g = b := Option.some.inj hb
  refine ⟨hgp, ?_⟩
  rcases hfg with (h | h) | h
  · exact absurd h hgp
  · exact .inl h
  · exact .inr h

set_option maxHeartbeats 2000000 in
set_option maxRecDepth 100000 in
theorem put_any (p o : Nat) (T : TypeId) (cs : List Value) (A : Option Addr) (c : Nat) (l : List Int) (x : Int) (w : World) (hb : Blk w p T cs) (hc : cs[o]? = some (.slice A l.length c)) (hr : IRow w A c l) (hp : blkOf A ≠ some p) (hh : IsHeap l) (hl : l.length ≤ 1000000000) :
    Calls Tryd.prog 79 #[.pointer (some ⟨p, o, none⟩), .int .i64 x] w (PutR p o T cs A l x w) := by
  have hcell : w.cell? ⟨p, o, none⟩ = some (.slice A l.length c) := by rw [hb.cell, hc]
  have hpl := hb.lt
  have hr1 : IRow (w.alloc (.cells #[Value.int .i64 x] 3)) A c l := hr.keep fun b hb => Below.heap_alloc w _ b (hr.lt b hb)
  have hcx : (w.alloc (.cells #[Value.int .i64 x] 3)).cell? ⟨w.heap.size, 0, none⟩ = some (.int .i64 x) := by simp
  have HR := Lib.hid hr
  have HB := Lib.hid (hb.alloc (.cells #[Value.int .i64 x] 3))
  clear hr hb
  go_enter Tryd.func79, Tryd.ntmps79
  go_wp2_with (at_builtin; refine wp_append_int rfl (.tmp 9) (.tmp 11) rfl A c l w.heap.size x rfl rfl hr1 hcx hl ?_; intro g c1 w1 hr2 hg2 hl2; have hfp : w1.frozen? ⟨p, o, none⟩ = false := (HB.out.grown hg2 (fun e => hp e.symm)).frozen o; have hcp : w1.cell? ⟨p, o, none⟩ = some (.slice A l.length c) := (by rw [(HB.out.grown hg2 (fun e => hp e.symm)).cell, hc]); have HR2 := Lib.hid hr2; have HG2 := Lib.hid hg2; have HL2 := Lib.hid hl2; clear hr2 hg2 hl2 hr1 hcell hcx)
  have hgp : g ≠ p := by
    rintro rfl
    rcases HL2.out with h | h
    · exact hp h
    · simp at h; omega
  have hfg : (g = p ∨ blkOf A = some g) ∨ w.heap.size ≤ g := by
    rcases HL2.out with h | h
    · exact .inl (.inr h)
    · simp at h; exact .inr (by omega)
  have hT : Turn (fun b => b = p ∨ blkOf A = some b) w w1 := ((Turn.refl _ w).alloc _).trans (Turn.of_grown HG2.out) fun b hb => .inl (.inr hb)
  have HT := Lib.hid hT
  have hB1 : Blk w1 p T cs := HB.out.grown HG2.out (fun e => hp e.symm)
  obtain ⟨ds, hD, hdl, hlc, hcm, htk⟩ : ∃ ds, Blk w1 g 3 ds ∧ ds.length = c1 ∧ (l ++ [x]).length ≤ c1 ∧ c1 ≤ maxLen ∧ ds.take (l ++ [x]).length = (l ++ [x]).map ci := by
    rcases HR2.out with ⟨h, _⟩ | ⟨g', ds, h, r⟩
    · cases h
    · cases h; exact ⟨ds, r⟩
  have hB2 := hB1.set_ o (.slice (some ⟨g, 0, none⟩) (l.length + 1) c1)
  have hD2 := hD.far (p := ⟨p, o, none⟩) hgp (.slice (some ⟨g, 0, none⟩) (l.length + 1) c1)
  have HI0 : Hid (Blk (w1.setCell ⟨p, o, none⟩ (.slice (some ⟨g, 0, none⟩) (l.length + 1) c1)) g 3 ds ∧ ds.take (l ++ [x]).length = (l ++ [x]).map ci ∧ Blk (w1.setCell ⟨p, o, none⟩ (.slice (some ⟨g, 0, none⟩) (l.length + 1) c1)) p T (cs.set o (.slice (some ⟨g, 0, none⟩) (l.length + 1) c1)) ∧ ds.length = c1) := Lib.hid ⟨hD2, htk, hB2, hdl⟩
  have ho : o < cs.length := (List.getElem?_eq_some_iff.1 hc).1
  rw [List.length_append, List.length_singleton] at hlc
  clear hT hB1 hD hdl htk hB2 hD2 HR2 HG2 HL2 HB HR hfp hcp
  go_loopw [4] (fun i wr => ∃ (k : Nat) (l' : List Int) (ds : List Value), i = .int .i64 k ∧ k < l'.length ∧ l'.length = l.length + 1 ∧ l'.Perm (x :: l) ∧ HeapP.UpInv l' k ∧ Blk wr g 3 ds ∧ ds.take l'.length = l'.map ci ∧ Blk wr p T (cs.set o (.slice (some ⟨g, 0, none⟩) (l.length + 1) c1)) ∧ ds.length = c1 ∧ Turn (fun b => b = p ∨ blkOf A = some b) w wr) (fun i _ => (intOf i).toNat)
  case atStart =>
    exact ⟨l.length, l ++ [x], ds, by go_num, by simp, by simp, List.perm_append_singleton x l, HeapP.up_start l x hh, HI0.out.1, HI0.out.2.1, HI0.out.2.2.1, HI0.out.2.2.2, HT.out.setCell (.inl (.inl rfl)) _⟩
  case round =>
    obtain ⟨k, l', ds', rfl, hk, hl', hpm, hup, hD, htk, hB, hdl, hT⟩ := hrel
    have hcp : wr.cell? ⟨p, o, none⟩ = some (.slice (some ⟨g, 0, none⟩) (l.length + 1) c1) := by rw [hB.cell, List.getElem?_set_self ho]
    by_cases h0 : k = 0
    · subst h0
      have HX := Lib.hid (And.intro hpm (And.intro (HeapP.up_end l' 0 hup (.inl rfl)) (And.intro hD (And.intro htk (And.intro hB (And.intro hdl hT))))))
      clear hpm hup hD htk hB hdl hT HI0 HT
      go_wp2_with fail
      go_quiet (fail)
      go_wp2_with fail
      go_end0
      exact putR_end hgp hfg hlc hcm hl' HX.out nq
    · have hq : (k - 1) / 2 < l'.length := by omega
      have hck := icell hD htk hk
      have hcq := icell hD htk hq
      have hk0 : 0 < k := by omega
      have hdiv : ((k : Int) - 1).tdiv 2 = (((k - 1) / 2 : Nat) : Int) := by
        rw [Int.tdiv_eq_ediv_of_nonneg (by omega)]; omega
      by_cases hs : at_ l' k < at_ l' ((k - 1) / 2)
      · have HX := Lib.hid (And.intro ((HeapP.swap_perm l' k ((k - 1) / 2) hk hq).trans hpm) (And.intro (HeapP.up_step l' k hup hk0 hk hs) (And.intro hD (And.intro htk (And.intro hB (And.intro hdl hT))))))
        have hswap : swap l' k ((k - 1) / 2) = (l'.set k (at_ l' ((k - 1) / 2))).set ((k - 1) / 2) (at_ l' k) := rfl
        have HSW := Lib.hid hswap
        have hfk := hD.frozen k
        have hfq := hD.frozen ((k - 1) / 2)
        have hkq : k ≠ (k - 1) / 2 := by omega
        clear hpm hup hD htk hB hdl hT HI0 HT hswap
        have HKQ := Lib.hid hkq
        have HQK : (k - 1) / 2 < k := by omega
        clear hkq
        generalize (k - 1) / 2 = q at *
        generalize at_ l' k = xk at *
        generalize at_ l' q = xq at *
        go_wp2_with fail
        go_quiet (fail)
        go_wp2_with fail
        go_region
        all_goals go_wp2_with fail
        have hD1 : Blk (wr.drewN (nq + 1)) g 3 ds' := HX.out.2.2.1
        have hB1 : Blk (wr.drewN (nq + 1)) p T (cs.set o (.slice (some ⟨g, 0, none⟩) (l.length + 1) c1)) := HX.out.2.2.2.2.1
        exact ⟨⟨q, swap l' k q, (ds'.set k (.int .i64 xq)).set q (.int .i64 xk), rfl, by rw [HeapP.swap_length]; exact hq, by rw [HeapP.swap_length]; exact hl', HX.out.1, HX.out.2.1, (hD1.set_ k _).set_ q _, by rw [HSW.out]; exact iset (iset HX.out.2.2.2.1 k xq) q xk,
          (hB1.far (p := ⟨g, k, none⟩) (fun e => hgp e.symm) _).far (p := ⟨g, q, none⟩) (fun e => hgp e.symm) _, by simpa using HX.out.2.2.2.2.2.1, ((HX.out.2.2.2.2.2.2.drewN _).setCell (p := ⟨g, k, none⟩) hfg _).setCell (p := ⟨g, q, none⟩) hfg _⟩, by simp [intOf]; omega⟩
      · have HX := Lib.hid (And.intro hpm (And.intro (HeapP.up_end l' k hup (.inr (by omega))) (And.intro hD (And.intro htk (And.intro hB (And.intro hdl hT))))))
        clear hpm hup hD htk hB hdl hT HI0 HT
        generalize (k - 1) / 2 = q at *
        generalize at_ l' k = xk at *
        generalize at_ l' q = xq at *
        go_wp2_with fail
        go_quiet (fail)
        go_wp2_with fail
        go_end0
        exact putR_end hgp hfg hlc hcm hl' HX.out nq
/-- What take leaves. -/
def TakeR (p o : Nat) (T : TypeId) (cs : List Value) (A : Option Addr) (c : Nat) (l : List Int) (w : World) (e : Ending) (w' : World) : Prop :=
  ∃ x l', (x :: l').Perm l ∧ (∀ y ∈ l', x ≤ y) ∧ IsHeap l' ∧ e = .returned (.tuple #[.int .i64 x, .bool true]) ∧ IRow w' A c l' ∧ Blk w' p T (cs.set o (.slice A l'.length c)) ∧ Turn (fun b => b = p ∨ blkOf A = some b) w w'

theorem take_none (p o : Nat) (T : TypeId) (cs : List Value) (A : Option Addr) (c : Nat) (w : World) (hb : Blk w p T cs) (hc : cs[o]? = some (.slice A 0 c)) :
    Calls Tryd.prog 80 #[.pointer (some ⟨p, o, none⟩)] w fun e w' => e = .returned (.tuple #[.int .i64 0, .bool false]) ∧ w = w' := by
  have hcell : w.cell? ⟨p, o, none⟩ = some (.slice A 0 c) := by rw [hb.cell, hc]
  go_enter Tryd.func80, Tryd.ntmps80
  go_wp2_with fail
  go_ret2
  exact ⟨rfl, rfl⟩

/-- What the loop of take holds. -/
structure TakeI (p o : Nat) (T : TypeId) (cs : List Value) (g c : Nat) (l : List Int) (x0 : Int) (n : Nat) (w : World) (i : Nat) (l' : List Int) (ds : List Value) (wr : World) : Prop where
  len : l'.length = n
  perm : (x0 :: l').Perm l
  down : HeapP.DownInv l' i
  blk : Blk wr g 3 ds
  row : ds.take l'.length = l'.map ci
  pool : Blk wr p T (cs.set o (.slice (some ⟨g, 0, none⟩) n c))
  size : ds.length = c
  turn : Turn (fun b => b = p ∨ g = b) w wr
theorem TakeI.drewN {p o : Nat} {T : TypeId} {cs : List Value} {g c : Nat} {l : List Int} {x0 : Int} {n : Nat} {w : World} {i : Nat} {l' : List Int} {ds : List Value} {wr : World} (h : TakeI p o T cs g c l x0 n w i l' ds wr) (nq : Nat) : TakeI p o T cs g c l x0 n w i l' ds (wr.drewN nq) :=
  ⟨h.len, h.perm, h.down, h.blk, h.row, h.pool, h.size, h.turn.drewN nq⟩
theorem takeR_end {p o : Nat} {T : TypeId} {cs : List Value} {g c : Nat} {l : List Int} {x0 : Int} {n : Nat} {w : World} {i : Nat} {l' : List Int} {ds : List Value} {wr : World} (h : TakeI p o T cs g c l x0 n w i l' ds wr) (hx : ∀ j, j < l.length → x0 ≤ at_ l j) (hcm : c ≤ maxLen) (hnc : n ≤ c)
    (hs : l'.length ≤ HeapP.kid l' i ∨ at_ l' i ≤ at_ l' (HeapP.kid l' i)) (nq : Nat) : TakeR p o T cs (some ⟨g, 0, none⟩) c l w (.returned (.tuple #[.int .i64 x0, .bool true])) (wr.drewN nq) := by
  refine ⟨x0, l', h.perm, HeapP.perm_least h.perm hx, HeapP.down_end l' i h.down hs, rfl, .inr ⟨g, ds, rfl, h.blk, h.size, by rw [h.len]; exact hnc, hcm, h.row⟩, by rw [h.len]; exact h.pool, (h.turn.drewN nq).mono fun b hb => ?_⟩
  rcases hb with hb | hb
  · exact .inl hb
  · exact .inr (by rw [hb]; rfl)
theorem takeI_swap {p o : Nat} {T : TypeId} {cs : List Value} {g c : Nat} {l : List Int} {x0 : Int} {n : Nat} {w : World} {i K : Nat} {l' : List Int} {ds : List Value} {wr : World} (h : TakeI p o T cs g c l x0 n w i l' ds wr) (hgp : g ≠ p) (hK : HeapP.kid l' i = K) (hKn : K < l'.length) (hi : i < l'.length)
    {xi xk : Int} (hxi : at_ l' i = xi) (hxk : at_ l' K = xk) (hs : xk < xi) (nq : Nat) :
    TakeI p o T cs g c l x0 n w K (swap l' i K) ((ds.set i (.int .i64 xk)).set K (.int .i64 xi)) (((wr.drewN nq).setCell ⟨g, i, none⟩ (.int .i64 xk)).setCell ⟨g, K, none⟩ (.int .i64 xi)) := by
  subst hK hxi hxk
  have hD1 : Blk (wr.drewN nq) g 3 ds := h.blk
  have hB1 : Blk (wr.drewN nq) p T (cs.set o (.slice (some ⟨g, 0, none⟩) n c)) := h.pool
  exact ⟨by rw [HeapP.swap_length]; exact h.len, ((HeapP.swap_perm l' i _ hi hKn).cons _).trans h.perm, HeapP.down_step l' i h.down hKn hs, (hD1.set_ i _).set_ _ _, iset (iset h.row i _) _ _,
    (hB1.far (p := ⟨g, i, none⟩) (fun e => hgp e.symm) _).far (p := ⟨g, _, none⟩) (fun e => hgp e.symm) _, by simpa using h.size, ((h.turn.drewN _).setCell (p := ⟨g, i, none⟩) (.inl (.inr rfl)) _).setCell (p := ⟨g, _, none⟩) (.inl (.inr rfl)) _⟩

set_option maxHeartbeats 16000000 in
set_option maxRecDepth 100000 in
theorem take_some (p o : Nat) (T : TypeId) (cs : List Value) (A : Option Addr) (c : Nat) (l : List Int) (w : World) (hb : Blk w p T cs) (hc : cs[o]? = some (.slice A l.length c)) (hr : IRow w A c l) (hp : blkOf A ≠ some p) (hh : IsHeap l) (hl : l.length ≤ 1000000000) (h0 : 0 < l.length) :
    Calls Tryd.prog 80 #[.pointer (some ⟨p, o, none⟩)] w (TakeR p o T cs A c l w) := by
  have hcell : w.cell? ⟨p, o, none⟩ = some (.slice A l.length c) := by rw [hb.cell, hc]
  have ho : o < cs.length := (List.getElem?_eq_some_iff.1 hc).1
  rcases hr with ⟨_, _, rfl⟩ | ⟨g, ds, rfl, hD, hdl, hlc, hcm, htk⟩
  · simp at h0
  · have hgp : g ≠ p := fun e => hp (by rw [e]; rfl)
    have hc0 := icell hD htk h0
    have hcl := icell hD htk (show l.length - 1 < l.length by omega)
    have hle : ((l.length : Int) - 1) = ((l.length - 1 : Nat) : Int) := by omega
    have hf0 := hD.frozen 0
    have hfp := hb.frozen o
    have HD := Lib.hid hD
    have HT := Lib.hid htk
    have HB := Lib.hid hb
    have HH := Lib.hid hh
    obtain ⟨n, hn⟩ : ∃ n, l.length = n + 1 := ⟨l.length - 1, by omega⟩
    have hn1 : l.length - 1 = n := by omega
    have hn9 : n ≤ 1000000000 := by omega
    rw [hn1] at hcl hle
    rw [hn] at hcell hlc
    have HN := Lib.hid hn
    clear hD htk hb hh hn hn1 hle
    generalize hx0 : at_ l 0 = x0 at *
    generalize hxn : at_ l n = xn at *
    go_enter Tryd.func80, Tryd.ntmps80
    go_wp2_with fail
    go_quiet (fail)
    go_wp2_with fail
    go_region
    all_goals go_wp2_with fail
    have hB1 : Blk (w.drewN (nq + 1)) p T cs := HB.out
    have hD1 : Blk (w.drewN (nq + 1)) g 3 ds := HD.out
    have hoff : HeapP.off l = (l.set 0 xn).take n := by
      unfold HeapP.off
      rw [HN.out, Nat.add_sub_cancel, hxn]
    have hX0 : ∀ j, j < l.length → x0 ≤ at_ l j := fun j hj => by
      rw [← hx0]
      exact HeapP.root_least l HH.out j hj
    have HX0 := Lib.hid hX0
    have hI0 : TakeI p o T cs g c l x0 n w 0 (HeapP.off l) (ds.set 0 (.int .i64 xn)) (((w.drewN (nq + 1)).setCell ⟨g, 0, none⟩ (.int .i64 xn)).setCell ⟨p, o, none⟩ (.slice (some ⟨g, 0, none⟩) n c)) := by
      refine ⟨by rw [HeapP.off_length, HN.out]; omega, by rw [← hx0]; exact HeapP.off_perm l h0, HeapP.down_start l HH.out, ?_, ?_, ?_, by simpa using hdl, ?_⟩
      · exact (hD1.set_ 0 _).far (p := ⟨p, o, none⟩) hgp _
      · have h1 := congrArg (List.take n) (iset HT.out 0 xn)
        rw [List.take_take, List.length_set, HN.out, Nat.min_eq_left (by omega)] at h1
        rw [HeapP.off_length, HN.out, Nat.add_sub_cancel, h1, ← List.map_take, hoff]
      · exact (hB1.far (p := ⟨g, 0, none⟩) (fun e => hgp e.symm) _).set_ o _
      · exact (((Turn.refl _ w).drewN _).setCell (p := ⟨g, 0, none⟩) (.inl (.inr rfl)) _).setCell (p := ⟨p, o, none⟩) (.inl (.inl rfl)) _
    have HI0 := Lib.hid hI0
    clear hI0 hX0 hoff hB1 hD1 hc0 hcl hf0 hfp hcell HD HT HB HH hx0 hxn hc
    go_loopw [6] (fun i wr => ∃ (k : Nat) (l' : List Int) (ds : List Value), i = .int .i64 k ∧ k ≤ n ∧ TakeI p o T cs g c l x0 n w k l' ds wr) (fun i _ => n - (intOf i).toNat)
    case atStart => exact ⟨0, _, _, rfl, by omega, HI0.out⟩
    case round =>
      obtain ⟨i, l', ds', rfl, hin, hI⟩ := hrel
      have hcp : wr.cell? ⟨p, o, none⟩ = some (.slice (some ⟨g, 0, none⟩) n c) := by rw [hI.pool.cell, List.getElem?_set_self ho]
      have hl' := hI.len
      obtain ⟨k, hk⟩ : ∃ k, k = 2 * i + 1 := ⟨_, rfl⟩
      have hk2 : 2 * (i : Int) + 1 = (k : Int) := by omega
      by_cases h2 : k + 1 < n
      · have hc1 := icell hI.blk hI.row (show k < l'.length by omega)
        have hc2 := icell hI.blk hI.row (show k + 1 < l'.length by omega)
        have hci := icell hI.blk hI.row (show i < l'.length by omega)
        have hfi := hI.blk.frozen i
        have HI := Lib.hid hI
        by_cases hlt : at_ l' (k + 1) < at_ l' k
        · have hK : HeapP.kid l' i = k + 1 := by
            subst hk
            unfold HeapP.kid
            rw [if_pos ⟨show 2 * i + 2 < l'.length by omega, hlt⟩]
          have hfk := hI.blk.frozen (k + 1)
          have HNK : i < k + 1 := by omega
          have h2i : (k : Int) + 1 < (n : Int) := by omega
          have hnle : decide ((n : Int) ≤ (k : Int) + 1) = false := decide_eq_false (by omega)
          clear hI HI0
          generalize h1 : at_ l' k = x1 at *
          generalize h2' : at_ l' (k + 1) = x2 at *
          generalize hi' : at_ l' i = xi at *
          have HK := Lib.hid hK
          have H2 := Lib.hid h2'
          have HI' := Lib.hid hi'
          clear hK h1 h2' hi' hk
          go_wp2_with fail
          go_quiet (fail)
          go_wp2_with fail
          by_cases hs : x2 < xi
          · go_quiet (fail)
            go_wp2_with fail
            go_region
            all_goals go_wp2_with fail
            exact ⟨⟨k + 1, _, _, by go_num, by omega, takeI_swap HI.out hgp HK.out (by omega) (by omega) HI'.out H2.out hs _⟩, by simp [intOf]; omega⟩
          · go_quiet (fail)
            go_wp2_with fail
            go_ret2
            exact takeR_end HI.out HX0.out hcm (by omega) (.inr (by rw [HK.out, H2.out, HI'.out]; omega)) _
        · have hK : HeapP.kid l' i = k := by
            subst hk
            unfold HeapP.kid
            rw [if_neg (fun h => hlt h.2)]
          have hfk := hI.blk.frozen k
          have HNK : i < k := by omega
          have h2i : (k : Int) + 1 < (n : Int) := by omega
          have hnle : decide ((n : Int) ≤ (k : Int)) = false := decide_eq_false (by omega)
          have hnle2 : k < n := by omega
          have hnle3 : decide (n ≤ k) = false := decide_eq_false (by omega)
          clear hI HI0
          generalize h1 : at_ l' k = x1 at *
          generalize h2' : at_ l' (k + 1) = x2 at *
          generalize hi' : at_ l' i = xi at *
          have HK := Lib.hid hK
          have H1 := Lib.hid h1
          have HI' := Lib.hid hi'
          have hle21 : x1 ≤ x2 := by omega
          clear hK h1 h2' hi' hk hlt
          go_wp2_with fail
          go_quiet (fail)
          go_wp2_with fail
          by_cases hs : x1 < xi
          · go_quiet (fail)
            go_wp2_with fail
            go_region
            all_goals go_wp2_with fail
            exact ⟨⟨k, _, _, by go_num, by omega, takeI_swap HI.out hgp HK.out (by omega) (by omega) HI'.out H1.out hs _⟩, by simp [intOf]; omega⟩
          · go_quiet (fail)
            go_wp2_with fail
            go_ret2
            exact takeR_end HI.out HX0.out hcm (by omega) (.inr (by rw [HK.out, H1.out, HI'.out]; omega)) _
      · by_cases h3 : k < n
        · have hc1 := icell hI.blk hI.row (show k < l'.length by omega)
          have hci := icell hI.blk hI.row (show i < l'.length by omega)
          have hfi := hI.blk.frozen i
          have HI := Lib.hid hI
          have hK : HeapP.kid l' i = k := by
            subst hk
            unfold HeapP.kid
            rw [if_neg (fun h => by have := h.1; omega)]
          have hfk := hI.blk.frozen k
          have HNK : i < k := by omega
          have h2i : decide ((k : Int) + 1 < (n : Int)) = false := decide_eq_false (by omega)
          have hnle : decide ((n : Int) ≤ (k : Int)) = false := decide_eq_false (by omega)
          have hnle2 : k < n := by omega
          have hnle3 : decide (n ≤ k) = false := decide_eq_false (by omega)
          clear hI HI0
          generalize h1 : at_ l' k = x1 at *
          generalize hi' : at_ l' i = xi at *
          have HK := Lib.hid hK
          have H1 := Lib.hid h1
          have HI' := Lib.hid hi'
          have hle2 : n ≤ k + 1 := by omega
          clear hK h1 hi' hk h2
          go_wp2_with fail
          go_quiet (fail)
          go_wp2_with fail
          by_cases hs : x1 < xi
          · go_quiet (fail)
            go_wp2_with fail
            go_region
            all_goals go_wp2_with fail
            exact ⟨⟨k, _, _, by go_num, by omega, takeI_swap HI.out hgp HK.out (by omega) (by omega) HI'.out H1.out hs _⟩, by simp [intOf]; omega⟩
          · go_quiet (fail)
            go_wp2_with fail
            go_ret2
            exact takeR_end HI.out HX0.out hcm (by omega) (.inr (by rw [HK.out, H1.out, HI'.out]; omega)) _
        · have HI := Lib.hid hI
          have hK : HeapP.kid l' i = k := by
            subst hk
            unfold HeapP.kid
            rw [if_neg (fun h => by have := h.1; omega)]
          have h2i : decide ((k : Int) + 1 < (n : Int)) = false := decide_eq_false (by omega)
          have hnle : decide ((n : Int) ≤ (k : Int)) = true := decide_eq_true (by omega)
          have hnle2 : n ≤ k := by omega
          have HK := Lib.hid hK
          clear hI HI0 hK hk
          go_wp2_with fail
          go_quiet (fail)
          go_wp2_with fail
          go_quiet (fail)
          go_wp2_with fail
          go_ret2
          exact takeR_end (HI.out.drewN _) HX0.out hcm (by omega) (.inl (by rw [HK.out]; omega)) _
end Go.Proofs.YteediemhcocgdaaDoor
