/-
  What the rows of this seat's laws over the table share: what their list gives, the witness' world, the row's last step.
-/
import Derived.Test.YteediemhcocgdaaDoorCards
import Derived.Test.YteediemhcocgdaaDoorTie
import Derived.Test.YteediemhcocgdaaDoorSumWalk
import Derived.WalkKit
import Derived.ProofKit
import Derived.OpenShut
import Derived.Deep.DeepHandedRow
import Derived.Lib.LaidTab
import Derived.Lib.SmallJoins
import Derived.Laws.IdiomArrays
namespace Go.Proofs.YteediemhcocgdaaDoor
open Go.ChangeShapes Go.WideShapes Go.ChangeAt Go.RowKit

theorem own : ownKnob Tryd.prog.godebug = none := by kernel_rfl
theorem gTab : Tryd.prog.globalNamed "blotter/sum.nibbles" = some 0 := by kernel_rfl
theorem gTabType : (Tryd.prog.globals[0]?).map (·.type) = some 82 := by kernel_rfl
theorem cellsNib : Tryd.prog.cellsOf 82 = 16 := by kernel_rfl
theorem cellsU32 : Tryd.prog.cellsOf 80 = 1 := by kernel_rfl
def tabInts : List Int := [0, 498536548, 997073096, 651767980, 1994146192, 1802195444, 1303535960, 1342533948, 3988292384, 4027552580, 3604390888, 3412177804, 2607071920, 2262029012, 2685067896, 3183342108]
theorem tabInts_eq : ∀ i, i < 16 → tabInts.getD i 0 = (SumP.tab i : Int) := by decide +kernel

/-- The table's cells hold its sixteen numbers. -/
theorem nib_of_table {W : World} (h : Lib.TabIs Tryd.prog W "blotter/sum.nibbles" .u32 tabInts) : Nib W := fun i hi => by
  have h1 := h.cell gTab i (by simpa [tabInts] using hi)
  rw [h1, tabInts_eq i hi]

/-- .. where the table is all that the row lists. -/
theorem nib_of_laid {W : World} (h : laidMetH Tryd.prog [("blotter/sum.nibbles", Rows.laid_blotter_sum_nibbles)] W) : Nib W :=
  nib_of_table (Lib.tabIs_of_head (rest := []) gTab gTabType Tryd.underlying82 Tryd.underlying80 cellsU32 cellsNib h)

/-- The row's last step, where all that was there lies as it lay. -/
theorem post_below {H : Type} {enc : TypeId × Value → H} {P : Program} {f : Func} {s : ChangeSpec} {apart fresh handsOn again : Bool} {W W' : World} {args : Array Value} {v : Value} {ds gs : List (DataW H)} {before pa pv : List MemPlace}
    (hW : DataW.Whole enc P f.params.toList s.vars apart W args.toList ds gs before)
    (hres : ∀ (b : Nat) (sp : Nat → Bool) (hd : Bool), DataW.TrodAll enc P W' b sp hd f.resultTypes.toList (v.resultList f.resultTypes.size) (s.fn H (ds ++ gs)).results [])
    (hargs : ∀ sp : Nat → Bool, (∀ p ∈ before, sp p.block = true) → DataW.TrodAll enc P W' 0 sp true f.params.toList args.toList (s.fn H (ds ++ gs)).args pa)
    (hvars : ∀ sp : Nat → Bool, (∀ p ∈ before, sp p.block = true) → DataW.TrodVars enc P W' sp s.vars (s.fn H (ds ++ gs)).vars pv)
    (hps : before = pa ++ pv) (hb : Below W.heap.size W W')
    (hok : ∀ (j : Nat) (t : TypeId) (r : Value), f.resultTypes[j]? = some t → (v.resultList f.resultTypes.size)[j]? = some r → Value.okWide P W' .any 0 t r) :
    s.post enc P f apart fresh handsOn again W args v W' := by
  have hlt : ∀ p ∈ before, p.block < W.heap.size := fun p hp => hW.lt p hp
  have hold : ∀ p ∈ before, (fun b => decide (b < W.heap.size)) p.block = true := fun p hp => by simpa using hlt p hp
  refine ⟨ds, gs, before, [], pa, pv, hW, hres _ _ _, hargs _ hold, hvars _ hold, World.keptBut_mono (fun p hp => ⟨hp, ?_⟩) (hb.frame (· ∈ before)), fun _ => ?_⟩
  · rw [hps, List.mem_append] at hp
    exact Or.inr hp
  · obtain ⟨_, _, _, _, _, hz, hn⟩ := hW
    refine ⟨hok, _, _, ([] ++ pa) ++ pv, ⟨[] ++ pa, pv, trodAll_append (hargs _ (fun _ _ => rfl)) (hres _ _ _), hvars _ (fun _ _ => rfl), rfl, ?_, ?_⟩, ?_⟩
    · intro b off hp
      have hin : MemPlace.cell b off ∈ before := by rw [hps]; simpa using hp
      rw [hb.frozen (hlt _ hin)]
      exact hz b off hin
    · intro ha
      have := hn ha
      rw [hps] at this
      simpa using this
    · intro p hp _
      rw [hps]
      simpa using hp

/-- A world for the witness: the settled one, the table holding what its initialiser lays. -/
noncomputable def laidWorld (os : Os) : World :=
  { World.holding Tryd.prog os ⟨#[], #[], []⟩ with heap := (World.holding Tryd.prog os ⟨#[], #[], []⟩).heap.modify 0 fun
      | .cells _ t frozen => .cells (tabInts.map (Value.int .u32)).toArray t frozen
      | o => o }

/-! ### Arguments -/
section
variable {H : Type} {enc : TypeId × Value → H} {P : Program} {W W' : World}
/-- All arguments read as they did, where all that was there lies as it lay. -/
theorem trodAll_stays (hl : laidOutB P = true) (hb : Below W.heap.size W W') (sp : Nat → Bool) : ∀ {ts : List TypeId} {vs : List Value} {ds : List (DataW H)} {p : List MemPlace},
    (∀ t ∈ ts, P.readableRec t = true ∧ t < P.types.size) → DataW.TrodAll enc P W 0 (fun _ => true) true ts vs ds p → (∀ x ∈ p, x.block < W.heap.size) → (∀ x ∈ p, sp x.block = true) →
    DataW.TrodAll enc P W' 0 sp true ts vs ds p
  | [], vs, ds, p, _, h, _, _ => by
    obtain ⟨rfl, rfl, rfl⟩ := trodAll_nil h
    exact trodAll_mk0
  | t :: ts, vs, ds, p, hr, h, hlt, hsp => by
    obtain ⟨v, vs', d, ds', q, r, rfl, rfl, rfl, h0, h1⟩ := trodAll_cons h
    exact trodAll_cons_mk (WideElems.Trod_stays hl (hr t (by simp)).1 (hr t (by simp)).2 h0 (fun x hx => hb.same (hlt x (by simp [hx]))) (fun x hx => hsp x (by simp [hx])))
      (trodAll_stays hl hb sp (fun t' ht' => hr t' (by simp [ht'])) h1 (fun x hx => hlt x (by simp [hx])) (fun x hx => hsp x (by simp [hx])))
end

set_option maxRecDepth 100000 in
/-- A law's end: true, and all arguments as they were. -/
theorem law_post {H : Type} {enc : TypeId × Value → H} {f : Func} {s : ChangeSpec} {fresh again : Bool} {W W' : World} {args : Array Value} {ds : List (DataW H)} {before : List MemPlace}
    (hW : DataW.Whole enc Tryd.prog f.params.toList s.vars false W args.toList ds [] before) (hv : s.vars = [])
    (hres : f.resultTypes = #[4]) (hfn : (s.fn H (ds ++ [])) = { results := [.lit (.bool true)], args := ds })
    (hr : ∀ t ∈ f.params.toList, Tryd.prog.readableRec t = true ∧ t < Tryd.prog.types.size) (hb : Below W.heap.size W W') :
    s.post enc Tryd.prog f false fresh false again W args (.bool true) W' := by
  have hW0 := hW
  have hlt : ∀ p ∈ before, p.block < W.heap.size := fun p hp => hW.lt p hp
  obtain ⟨p, q, hA0, hV, rfl, hfz, hnd⟩ := hW
  rw [hv] at hV
  obtain ⟨_, rfl⟩ := trodVars_none hV
  rw [List.append_nil] at hlt hW0
  refine post_below (pa := p) (pv := []) hW0 ?_ ?_ ?_ (by simp) hb ?_
  · intro b sp hd
    rw [hfn, hres]
    exact trodAll_cons_mk (shut_bool Tryd.underlying4 _) trodAll_mk0
  · intro sp hsp
    rw [hfn]
    exact trodAll_stays (by kernel_rfl) hb sp hr hA0 hlt hsp
  · intro sp _
    rw [hfn, hv]
    rfl
  · exact ok_one hres rfl (okWide_bool_mk Tryd.underlying4 _)

theorem lt_of_cell {w : World} {a : Addr} {v : Value} (h : w.cell? a = some v) : a.block < w.heap.size := by
  rcases Nat.lt_or_ge a.block w.heap.size with h1 | h1
  · exact h1
  · simp [World.cell?, Array.getElem?_eq_none h1] at h
theorem nib_pos {w : World} (h : Nib w) : 0 < w.heap.size := lt_of_cell (h 0 (by omega))

set_option maxRecDepth 100000 in
/-- An argument of bytes. -/
theorem open_bytes {H : Type} {enc : TypeId × Value → H} {W : World} {base : Nat} {v : Value} {d : DataW H} {p : List MemPlace}
    (hval : Value.okWide Tryd.prog W .any base 23 v) (h : DataW.Trod enc Tryd.prog W 0 (fun _ => true) true 23 v d p) :
    ∃ (A : Option Addr) (c : Nat) (l : List UInt8), v = .slice A l.length c ∧ l.length ≤ c ∧ c ≤ 9223372036854775807 ∧ Byt W W.heap.size A l ∧
      (l = [] ∨ ∃ elems spare, d = .slice elems spare ∧ elems.length = l.length) := by
  obtain ⟨a0, len, cap, rfl⟩ := okWide_slice Tryd.underlying23 hval
  obtain ⟨fuel, hf⟩ := h
  rcases open_ints Tryd.underlying23 Tryd.underlying5 (by kernel_rfl) hf with ⟨hcs, hx⟩ | ⟨a, len', cap', zs, hcs, _, hl, hm, hz, hx, hcell, hwz⟩
  · obtain ⟨rfl, rfl, rfl⟩ : a0 = none ∧ len = 0 ∧ cap = 0 := by simpa [Value.cells] using hcs
    exact ⟨none, 0, [], rfl, Nat.le_refl _, by omega, Byt.nil _ _ _, .inl rfl⟩
  · obtain ⟨rfl, rfl, rfl⟩ : a0 = some a ∧ len = len' ∧ cap = cap' := by simpa [Value.cells] using hcs
    simp only [if_true] at hz
    have hlen : ((zs.take len).map fun n => UInt8.ofNat n.toNat).length = len := by simp; omega
    refine ⟨some a, cap, (zs.take len).map fun n => UInt8.ofNat n.toNat, by rw [hlen], by rw [hlen]; exact hl, by unfold maxLen at hm; omega, ?_, ?_⟩
    · intro hpos
      rw [hlen] at hpos
      have h0 := hcell 0 (by omega)
      rw [show a.add 0 = a by simp [Addr.add]] at h0
      obtain ⟨b, off, spot⟩ := a
      have hsp : spot = none := by
        cases spot with
        | none => rfl
        | some s => simp only [World.cell?] at h0; split at h0 <;> simp at h0
      subst hsp
      refine ⟨b, off, rfl, lt_of_cell h0, fun i hi => ?_⟩
      rw [hlen] at hi
      have hi' : i < zs.length := by omega
      have hc := hcell i hi'
      rw [show (⟨b, off, none⟩ : Addr).add i = ⟨b, off + i, none⟩ by unfold Addr.add; split <;> simp_all] at hc
      rw [hc]
      have hw := bounds_u8 (hwz zs[i] (List.getElem_mem hi'))
      congr 2
      simp only [List.getD_eq_getElem?_getD, List.getElem?_map, List.getElem?_take_of_lt hi, List.getElem?_eq_getElem hi', Option.map_some, Option.getD_some]
      rw [UInt8.toNat_ofNat']
      omega
    · right
      simp only [Prod.mk.injEq] at hx
      refine ⟨_, _, hx.1, ?_⟩
      rw [hlen]
      simp [lits]
      omega
theorem bytes_reach {H : Type} {ts : List TypeId} {ds : List (DataW H)} (h : (DataW.weightsEach Tryd.prog ts ds).all (· ≤ reachBytes) = true) {j : Nat} {d : DataW H} {l : List UInt8} (ht : ts[j]? = some 23) (hd : ds[j]? = some d)
    (hl : l = [] ∨ ∃ elems spare, d = .slice elems spare ∧ elems.length = l.length) : l.length ≤ 140737488351232 := by
  rcases hl with rfl | ⟨elems, spare, rfl, he⟩
  · simp
  · have h1 := sized_slice h ht hd Tryd.underlying23
    rw [show Tryd.prog.bytesOf 5 = 1 by kernel_rfl] at h1
    have h2 : reachBytes = 140737488351232 := by decide
    omega

set_option maxRecDepth 100000 in
/-- An argument of four bytes, by value. -/
theorem open_arr4 {H : Type} {enc : TypeId × Value → H} {W : World} {base : Nat} {v : Value} {d : DataW H} {p : List MemPlace}
    (hval : Value.okWide Tryd.prog W .any base 39 v) (h : DataW.Trod enc Tryd.prog W 0 (fun _ => true) true 39 v d p) :
    ∃ e : List UInt8, e.length = 4 ∧ v = .agg (e.map cu8).toArray := by
  simp only [Value.okWide, Tryd.underlying39] at hval
  obtain ⟨cs, rfl, hsz, _⟩ := hval
  rw [show Tryd.prog.cellsOf 39 = 4 by kernel_rfl] at hsz
  obtain ⟨c0, c1, c2, c3, rfl⟩ := Joins.array4 hsz
  obtain ⟨fuel, hf⟩ := h
  obtain ⟨y0, y1, y2, y3, n, _, h0, h1, h2, h3⟩ := trod_array4 Tryd.underlying39 (by kernel_rfl) (by simpa [Value.cells] using hf)
  obtain ⟨a0, e0, _, w0⟩ := DataW.trod_int Tryd.underlying5 h0
  obtain ⟨a1, e1, _, w1⟩ := DataW.trod_int Tryd.underlying5 h1
  obtain ⟨a2, e2, _, w2⟩ := DataW.trod_int Tryd.underlying5 h2
  obtain ⟨a3, e3, _, w3⟩ := DataW.trod_int Tryd.underlying5 h3
  have key : ∀ a : Int, (Lit.int .u8 a).wf = true → Value.int .u8 a = cu8 (UInt8.ofNat a.toNat) := by
    intro a w
    have hb := bounds_u8 w
    rw [cu8, UInt8.toNat_ofNat']
    congr 1
    omega
  refine ⟨[UInt8.ofNat a0.toNat, UInt8.ofNat a1.toNat, UInt8.ofNat a2.toNat, UInt8.ofNat a3.toNat], rfl, ?_⟩
  simp only [List.cons.injEq, and_true] at e0 e1 e2 e3
  rw [e0, e1, e2, e3, key _ w0, key _ w1, key _ w2, key _ w3]
  rfl
end Go.Proofs.YteediemhcocgdaaDoor
