/-
  The law PagerSafe: what its walk keeps.
-/
import Derived.Test.YteediemhcocgdaaDoorWritesPlain
import Derived.Test.YteediemhcocgdaaDoorDiskCrash
namespace Go.Proofs.YteediemhcocgdaaDoor
open Go.RowKit

/-! ### The pool's calls beside the disk -/
theorem pdrop_d {K : Nat → Prop} {w : World} {p bb : Nat} {V : PV} {VD : DV} (h : PD K w p V bb VD) {x : Int} (hx : I64 x) : Calls Tryd.prog 34 #[.pointer (some ⟨p, 0, none⟩), .int .i64 x] w fun e w' => Kept K w w' ∧ (∃ v, e = .returned v) ∧
    (((∃ q, V.pg x = some q) ∧ PD K w' p (V.rmT x) bb VD) ∨ (V.pg x = none ∧ V.fr x = true ∧ PD K w' p (V.rmF x) bb VD) ∨ (V.pg x = none ∧ V.fr x = false ∧ PD K w' p V bb VD)) := by
  obtain ⟨T, rfl, hd, hok, hf, hp⟩ := h.pool
  refine (drop_v hp hx).mono ?_
  rintro e w' ⟨hk, ⟨h1, rfl, hp'⟩ | ⟨h1, h2, rfl, hp'⟩ | ⟨h1, h2, rfl, hp'⟩⟩
  · exact ⟨hk.mono fun b hb => .inl hb, ⟨_, rfl⟩, .inl ⟨h1, PD.of_pool hd hok hf hk hp'⟩⟩
  · exact ⟨hk.mono fun b hb => .inl hb, ⟨_, rfl⟩, .inr (.inl ⟨h1, h2, PD.of_pool hd hok hf hk hp'⟩)⟩
  · exact ⟨hk.mono fun b hb => .inl hb, ⟨_, rfl⟩, .inr (.inr ⟨h1, h2, PD.of_pool hd hok hf hk hp'⟩)⟩
theorem pwrite_none_d {K : Nat → Prop} {w : World} {p bb : Nat} {V : PV} {VD : DV} (h : PD K w p V bb VD) {x : Int} (hx : I64 x) (v : Value) (hp : V.pg x = none) : Calls Tryd.prog 47 #[.pointer (some ⟨p, 0, none⟩), .int .i64 x, v] w fun e w' => e = .returned (.int .i64 130) ∧ w = w' := by
  obtain ⟨T, rfl, hd, hok, hf, hpl⟩ := h.pool
  exact write_none_v hpl hx v hp
theorem psync_d {K : Nat → Prop} {w : World} {p bb : Nat} {V : PV} {VD : DV} (h : PD K w p V bb VD) (db : Nat) (hdn : VD.down = false) (ha : VD.armed = false) (hl : VD.wait.length ≤ 1000000000) (hdb : w.cell? ⟨db, 0, none⟩ = some (.pointer (some ⟨bb, 0, none⟩))) (kdb : K db) :
    Calls Tryd.prog 51 #[.pointer (some ⟨db, 0, none⟩)] w fun e w' => e = .returned .nilIface ∧ Kept K w w' ∧ PD K w' p V bb VD.sync := by
  obtain ⟨S, rfl, hpa, hok, hf, hdk⟩ := h.disk
  refine (dsync_v hdk db hdn hl hdb (.inl kdb)).mono ?_
  rintro e w' ⟨rfl, hd, hk⟩
  rw [act_free ha] at hd ⊢
  exact ⟨rfl, hk.mono fun b hb => .inl hb, PD.of_disk hpa hok hf hk hd⟩
theorem parm_d {K : Nat → Prop} {w : World} {p bb : Nat} {V : PV} {VD : DV} (h : PD K w p V bb VD) (hb : Nat) (a : Int) (d : Bool) (hh : Blk w hb 93 [.pointer (some ⟨bb, 0, none⟩)]) (haM : a ≤ 9223372036854775807) :
    Calls Tryd.prog 44 #[.pointer (some ⟨hb, 0, none⟩), .int .i64 a, .bool d] w fun e w' => e = .returned (.tuple #[]) ∧ Kept K w w' ∧ PD K w' p V bb (VD.arm a d) := by
  obtain ⟨S, rfl, hpa, hok, hf, hdk⟩ := h.disk
  refine (arm_v hdk hb a d hh haM).mono ?_
  rintro e w' ⟨rfl, hd, hk⟩
  exact ⟨rfl, hk.mono fun b hb => .inl hb, PD.of_disk hpa hok hf hk hd⟩
theorem pcrash_d {K : Nat → Prop} {w : World} {p bb : Nat} {V : PV} {VD : DV} (h : PD K w p V bb VD) (hb : Nat) (A : Option Addr) (c : Nat) (keep : List Bool) (hl : VD.wait.length ≤ 1000000000) (hh : Blk w hb 93 [.pointer (some ⟨bb, 0, none⟩)]) (hk : BIn w A keep K) (hkl : keep.length ≤ 140737488355328) :
    Calls Tryd.prog 46 #[.pointer (some ⟨hb, 0, none⟩), .slice A keep.length c] w fun e w' => e = .returned (.tuple #[]) ∧ Kept K w w' ∧ Dk K w' bb (VD.crash keep) := by
  obtain ⟨S, rfl, hpa, hok, hf, hdk⟩ := h.disk
  refine (crash_v hdk hb A c keep hl hh (fun hp => ?_) hkl).mono ?_
  · obtain ⟨g, off, h1, h2, h3⟩ := hk hp
    exact ⟨g, off, h1, .inl h2, h3⟩
  · rintro e w' ⟨rfl, hd, hk⟩
    exact ⟨rfl, hk.mono fun b hb => .inl hb, hd.less fun b hb => .inl hb⟩
theorem PD.push {K K' : Nat → Prop} {w w' : World} {p bb : Nat} {V : PV} {VD : DV} {row : Option Nat} (h : PD K w p V bb VD) (hg : w.grownBy w' row) (hr : ∀ r, row = some r → K r) (hK : ∀ b, K' b → K b ∨ (w.heap.size ≤ b ∧ b < w'.heap.size)) : PD K' w' p V bb VD := by
  obtain ⟨⟨S, T, hv, htv, ha, hok, hd, hdok, h1, h2⟩, hl⟩ := h
  refine ⟨⟨S, T, hv, htv, ha.keep fun b hb => hg.block b (ha.lt hb) fun e => (h1 b hb).1 (hr b e.symm), hok, hd.keep fun b hb => hg.block b (hd.lt hb) fun e => h2 b hb (hr b e.symm), hdok, fun b hb => ⟨fun hk => ?_, (h1 b hb).2⟩, fun b hb hk => ?_⟩, fun b hb => ?_⟩
  · rcases hK b hk with h3 | h3
    · exact (h1 b hb).1 h3
    · have := ha.lt hb; omega
  · rcases hK b hk with h3 | h3
    · exact h2 b hb h3
    · have := hd.lt hb; omega
  · rcases hK b hb with h3 | h3
    · exact Nat.lt_of_lt_of_le (hl b h3) hg.size
    · exact h3.2

/-! ### What a sector may hold -/
theorem act_put_may {V : DV} {x : Int} {l : List UInt8} : (∀ y m, (V.act fun X => X.put x l).2.may y m → V.may y m ∨ (y = x ∧ m = l)) := fun y m h => by
  rcases ha : V.armed with _ | _
  · rw [act_free ha] at h
    exact may_put h
  · by_cases h0 : V.acts = 0
    · rw [act_down ha h0] at h
      rcases hd : V.done with _ | _
      · rw [hd] at h; exact .inl h
      · rw [hd] at h; exact may_put (V := V) h
    · rw [act_less ha h0] at h
      exact may_put (V := { V with acts := V.acts - 1 }) h
theorem flushD_may (frm : Int) : ∀ (l : List (Int × List UInt8)) (V : DV), (∀ y m, (flushD frm l V).2.may y m → V.may y m ∨ ∃ e ∈ l, y = frm + e.1) ∧ (flushD frm l V).2.n = V.n ∧ (flushD frm l V).2.wait.length ≤ V.wait.length + l.length
  | [], V => ⟨fun y m h => .inl h, rfl, Nat.le_refl _⟩
  | (x, b) :: r, V => by
    cases hd : V.down with
    | true =>
      rw [flushD_down hd]
      exact ⟨fun y m h => .inl h, rfl, Nat.le_add_right _ _⟩
    | false =>
      have ha := act_put_n (V := V) (x := frm + x) (l := layB x.toNat b)
      have hm := act_put_may (V := V) (x := frm + x) (l := layB x.toNat b)
      cases hr : (V.act fun X => X.put (frm + x) (layB x.toNat b)).1 with
      | true =>
        rw [flushD_bad hd hr]
        exact ⟨fun y m h => (hm y m h).imp id fun h => ⟨_, List.mem_cons_self, h.1⟩, ha.1, by have := ha.2; simp; omega⟩
      | false =>
        rw [flushD_good hd hr]
        obtain ⟨h1, h2, h3⟩ := flushD_may frm r (V.act fun X => X.put (frm + x) (layB x.toNat b)).2
        refine ⟨fun y m h => ?_, h2.trans ha.1, by have := ha.2; simp; omega⟩
        rcases h1 y m h with h | ⟨e, he, h⟩
        · exact (hm y m h).imp id fun h => ⟨_, List.mem_cons_self, h.1⟩
        · exact .inr ⟨e, List.mem_cons_of_mem _ he, h⟩
theorem putAll_sound (frm : Int) : ∀ (l : List (Int × List UInt8)) (V : DV), V.sound → (putAll frm l V).sound
  | [], _, h => h
  | _ :: r, _, h => putAll_sound frm r _ (DV.sound_put h _ _)

theorem Byt.take_ {w : World} {B : Nat} {A : Option Addr} {l : List UInt8} (h : Byt w B A l) (k : Nat) : Byt w B A (l.take k) := fun hl => by
  rw [List.length_take] at hl
  obtain ⟨b, off, hA, hb, hc⟩ := h (by omega)
  refine ⟨b, off, hA, hb, fun i hi => ?_⟩
  rw [List.length_take] at hi
  rw [hc i (by omega)]
  congr 3
  rw [List.getD_eq_getElem?_getD, List.getD_eq_getElem?_getD, List.getElem?_take_of_lt (by omega)]

theorem size_u8 : (Tryd.prog.info? 5).map (fun i => i.size) = some 1 := by kernel_rfl
theorem slice_to (A : Option Addr) (n c m : Nat) (h : m ≤ c) (W : World) : (Instr.sliceAt 23 (.slice A n c) none (some (.int .i64 (m : Int))) none).run Tryd.prog W = .ok (.slice A m c) W := by
  obtain ⟨i0, hi, hz⟩ : ∃ i0, Tryd.prog.info? 5 = some i0 ∧ i0.size = 1 := by
    have := size_u8
    rcases hx : Tryd.prog.info? 5 with _ | i0
    · rw [hx] at this; cases this
    · rw [hx] at this; exact ⟨i0, rfl, by simpa using this⟩
  have he : Tryd.prog.underlying 23 = some (.slice (Tryd.prog.elem 23)) := by rw [Tryd.underlying23]; kernel_rfl
  have he2 : Tryd.prog.elem 23 = 5 := by kernel_rfl
  rw [run_sliceAt_slice _ _ _ _ _ _ he, run_slice_h _ _ _ _ _ he _ _ (by omega) (by omega), he2]
  rcases A with _ | ⟨b, o, s⟩ <;> simp [sizeOf, typeInfo, hi, sliced, Addr.add, Result.andThen]
theorem min_run (n m : Nat) (h : m = min n 500) (W : World) : (Builtin.min_ #[3, 3] 3 #[.int .i64 (n : Int), .int .i64 500]).run Tryd.prog W = .ok (.int .i64 (m : Int)) W := by
  have : (if (500 : Int) < (n : Int) then (500 : Int) else (n : Int)) = (m : Int) := by split <;> omega
  simp [Builtin.min_, Builtin.min2, this]

namespace SafeP
open WritesP (upd)
/-- The first pages are taken and hold what was written. -/
structure Hd (V : PV) (k : Nat) (f : Nat → List UInt8) : Prop where
  pg : ∀ n : Nat, n < k → (f n).length = 500 ∧ ∃ g, V.pg n = some (g, f n)
  no : ∀ x : Int, (k : Int) ≤ x → V.pg x = none
  fr : ∀ x, V.fr x = false
  lf : ∀ x, V.lf x = false
theorem Hd.any {V : PV} {k : Nat} {f : Nat → List UInt8} (h : Hd V k f) (hm : V.many = 36) (hk : k < 20) : V.free (k : Int) := ⟨by omega, by omega, h.no _ (Int.le_refl _), h.fr _, h.lf _⟩
theorem Hd.next {V : PV} {k : Nat} {f : Nat → List UInt8} (h : Hd V k f) (hm : V.many = 36) (hk : k < 20) {n : Int} (hf : V.free n) (hl : ∀ x, V.free x → n ≤ x) : n = k := by
  have h2 := hl _ (h.any hm hk)
  by_cases e : n = k
  · exact e
  · obtain ⟨_, g, hg⟩ := h.pg n.toNat (by have := hf.1; omega)
    rw [show ((n.toNat : Nat) : Int) = n by have := hf.1; omega] at hg
    have := hf.2.2.1
    rw [hg] at this
    cases this
theorem Hd.wr {V : PV} {k : Nat} {f : Nat → List UInt8} (h : Hd V k f) (g g' : Nat) (b : List UInt8) (hb : b.length ≤ 500) : Hd ((V.tk k g).wr k g' b) (k + 1) (upd f k (wrote b)) := by
  refine ⟨fun n hn => ?_, fun x hx => ?_, h.fr, h.lf⟩
  · show (if n = k then wrote b else f n).length = 500 ∧ ∃ g2, (if (n : Int) = k then some (g', wrote b) else if (n : Int) = k then some (g, zeros 500) else V.pg n) = some (g2, if n = k then wrote b else f n)
    by_cases e : n = k
    · rw [if_pos e, if_pos (by omega)]
      exact ⟨wrote_length b hb, g', rfl⟩
    · rw [if_neg e, if_neg (by omega), if_neg (by omega)]
      exact h.pg n (by omega)
  · show (if x = k then some (g', wrote b) else if x = k then some (g, zeros 500) else V.pg x) = none
    rw [if_neg (by omega), if_neg (by omega)]
    exact h.no x (by omega)
/-- The first pages are not to be had. -/
def Off (V : PV) (k : Nat) : Prop := ∀ n : Nat, n < k → V.pg n = none ∧ (V.fr n = true ∨ V.lf n = true)
theorem Hd.off {V : PV} {k : Nat} {f : Nat → List UInt8} (h : Hd V k f) : Off V.frz k := fun n hn => by
  obtain ⟨_, g, hg⟩ := h.pg n hn
  refine ⟨rfl, .inl ?_⟩
  show (V.fr n || (V.pg n).isSome) = true
  rw [hg]; simp
theorem Off.free {V : PV} {k : Nat} (h : Off V k) {x : Int} (hf : V.free x) : (k : Int) ≤ x := by
  by_cases e : x < k
  · obtain ⟨_, h1⟩ := h x.toNat (by have := hf.1; omega)
    rw [show ((x.toNat : Nat) : Int) = x by have := hf.1; omega] at h1
    rcases h1 with h1 | h1
    · rw [hf.2.2.2.1] at h1; cases h1
    · rw [hf.2.2.2.2] at h1; cases h1
  · omega
theorem Off.taken {V : PV} {k : Nat} (h : Off V k) {x : Int} (h0 : 0 ≤ x) {q : Nat × List UInt8} (hq : V.pg x = some q) : (k : Int) ≤ x := by
  by_cases e : x < k
  · obtain ⟨h1, _⟩ := h x.toNat (by omega)
    rw [show ((x.toNat : Nat) : Int) = x by omega, hq] at h1
    cases h1
  · omega
theorem Off.tk {V : PV} {k : Nat} (h : Off V k) {x : Int} (hx : (k : Int) ≤ x) (g : Nat) : Off (V.tk x g) k := fun n hn => ⟨by
  show (if (n : Int) = x then some (g, zeros 500) else V.pg n) = none
  rw [if_neg (by omega)]
  exact (h n hn).1, (h n hn).2⟩
theorem Off.wr {V : PV} {k : Nat} (h : Off V k) {x : Int} (hx : (k : Int) ≤ x) (g : Nat) (m : List UInt8) : Off (V.wr x g m) k := fun n hn => ⟨by
  show (if (n : Int) = x then some (g, wrote m) else V.pg n) = none
  rw [if_neg (by omega)]
  exact (h n hn).1, (h n hn).2⟩
theorem Off.rmT {V : PV} {k : Nat} (h : Off V k) (x : Int) : Off (V.rmT x) k := fun n hn => ⟨by
  show (if (n : Int) = x then none else V.pg n) = none
  rw [(h n hn).1]
  split <;> rfl, (h n hn).2⟩
theorem Off.rmF {V : PV} {k : Nat} (h : Off V k) (x : Int) : Off (V.rmF x) k := fun n hn => ⟨(h n hn).1, by
  show (if (n : Int) = x then false else V.fr n) = true ∨ (if (n : Int) = x then true else V.lf n) = true
  by_cases e : (n : Int) = x
  · rw [if_pos e, if_pos e]; exact .inr rfl
  · rw [if_neg e, if_neg e]; exact (h n hn).2⟩
/-- The first pages' sectors hold what was written, wherever the power goes. -/
def Sec (VD : DV) (k : Nat) (f : Nat → List UInt8) : Prop := ∀ n : Nat, n < k → (f n).length = 500 ∧ ∀ m, VD.may (3 + (n : Int)) m → m = layB n (f n)
theorem Sec.flush {V : PV} {VD : DV} {k : Nat} {f : Nat → List UInt8} (h : Sec VD k f) (ho : Off V k) {ks : List Int} (hk : TakenK V ks) (g : Int → List UInt8) : Sec (flushD 3 (ks.map fun x => (x, g x)) VD).2 k f := fun n hn => ⟨(h n hn).1, fun m hm => by
  rcases (flushD_may 3 _ VD).1 _ _ hm with h1 | ⟨e, he, h1⟩
  · exact (h n hn).2 m h1
  · obtain ⟨x, hx, rfl⟩ := List.mem_map.1 he
    have h1' : (3 : Int) + n = 3 + x := h1
    obtain rfl : x = (n : Int) := by omega
    exact absurd (ho n hn).1 ((hk.2 _).1 hx)⟩
/-- .. behind the first flush and the sync. -/
theorem Hd.sec {V : PV} {VD : DV} {k : Nat} {f : Nat → List UInt8} (h : Hd V k f) {ks : List Int} (hk : TakenK V ks) (hs : VD.sound) (a : Int) (d : Bool) : Sec (((putAll 3 (ks.map fun x => (x, V.bytes x)) VD).sync).arm a d) k f := fun n hn => by
  obtain ⟨h5, g, hg⟩ := h.pg n hn
  refine ⟨h5, fun m hm => ?_⟩
  have hm' : (putAll 3 (ks.map fun x => (x, V.bytes x)) VD).sync.may (3 + (n : Int)) m := hm
  rw [(may_sync (putAll_sound 3 _ VD hs) hm').1, putAll_in 3 V.bytes n ks VD ((hk.2 _).2 (by rw [hg]; simp))]
  unfold PV.bytes
  rw [hg]
  rfl
theorem Sec.crash {VD : DV} {k : Nat} {f : Nat → List UInt8} (h : Sec VD k f) (keep : List Bool) (d : Value) (n : Nat) (hn : n < k) : PageIs (PV.open_ d 3 36 ((List.range k).map fun (n : Nat) => (n : Int))) (VD.crash keep) n (f n) := by
  refine .inr ⟨rfl, ?_, (h n hn).2 _ may_crash⟩
  show ((List.range k).map fun (n : Nat) => (n : Int)).contains (n : Int) = true
  rw [List.contains_iff_mem]
  exact List.mem_map.2 ⟨n, List.mem_range.2 hn, rfl⟩
theorem keepok (k : Nat) (hk : k ≤ 36) : KeepOK ((List.range k).map fun (n : Nat) => (n : Int)) 36 := by
  intro i hi
  have hi' : i < k := by simpa using hi
  have e : ∀ j, j < k → HeapP.at_ ((List.range k).map fun (n : Nat) => (n : Int)) j = j := fun j hj => by
    rw [HeapP.at_eq _ j (by simpa using hj)]; simp
  rw [e i hi']
  refine ⟨by omega, by omega, fun h0 => ?_⟩
  rw [e (i - 1) (by omega)]
  omega
theorem Hd.congr {V : PV} {k : Nat} {f g : Nat → List UInt8} (h : Hd V k f) (hf : ∀ n, n < k → f n = g n) : Hd V k g := ⟨fun n hn => by rw [← hf n hn]; exact h.pg n hn, h.no, h.fr, h.lf⟩
def at2 (l : List (List UInt8)) : Nat → List UInt8 := fun n => l.getD n []
theorem at2_push (l : List (List UInt8)) (x : List UInt8) : ∀ n, n < l.length + 1 → upd (at2 l) l.length x n = at2 (l ++ [x]) n := fun n hn => by
  unfold upd at2
  by_cases e : n = l.length
  · rw [if_pos e, e]; simp
  · rw [if_neg e, List.getD_eq_getElem?_getD, List.getD_eq_getElem?_getD, List.getElem?_append_left (by omega)]

def sv (l : List UInt8) : Value := .string ⟨l.toArray⟩
def nums (k : Nat) : List Int := (List.range k).map fun (n : Nat) => (n : Int)
theorem nums_length (k : Nat) : (nums k).length = k := by simp [nums]
theorem nums_succ (k : Nat) : nums (k + 1) = nums k ++ [(k : Int)] := by simp [nums, List.range_succ]
theorem ownsRow_keep {w w' : World} {B size n : Nat} {e : TypeId} {v : Value} {xs : List Value} (h : w.ownsRow B e size v n xs) (hk : ∀ g, v.ownBlock = some g → w'.heap[g]? = w.heap[g]?) : w'.ownsRow B e size v n xs := by
  refine ⟨h.1, h.2.imp id ?_⟩
  rintro ⟨g, cap, cur, hv, hg, hh, r⟩
  exact ⟨g, cap, cur, hv, hg, (hk g (by rw [hv]; rfl)).trans hh, r⟩
theorem row_push (t e : TypeId) (z : Value) (bytes : Nat) (hinfo : (Tryd.prog.info? e).map (fun i => (i.zero, i.size, i.bytes)) = some (some z, 1, bytes)) (ht : Tryd.prog.underlying t = some (.slice e)) (hz : z.cells.size = 1) (hby : bytes ≤ 100)
    {W : World} {B n : Nat} {v : Value} {xs : List Value} (h : W.ownsRow B e 1 v n xs) (x : Value) (hx : x.oneCell' = true) (hn : n ≤ 1000) (hB : B ≤ W.heap.size) (ty : TypeId) :
    ∃ g c M, (Builtin.append_ #[t, t] ty #[v, .slice (some ⟨W.heap.size, 0, none⟩) 1 1]).run Tryd.prog (W.alloc (.cells #[x] e)) = .ok (.slice (some ⟨g, 0, none⟩) (n + 1) c) M ∧ M.ownsRow B e 1 (.slice (some ⟨g, 0, none⟩) (n + 1) c) (n + 1) (xs ++ [x]) ∧ W.grownBy M v.ownBlock ∧ (v.ownBlock = some g ∨ W.heap.size ≤ g) ∧ g < M.heap.size := by
  obtain ⟨i0, hi, hz0, hz1, hz2⟩ := info_parts hinfo
  have hal : Below W.heap.size W (W.alloc (.cells #[x] e)) := (Below.refl _ _).alloc (Nat.le_refl _) _
  have hsz : (W.alloc (.cells #[x] e)).heap.size = W.heap.size + 1 := by simp
  have hnew : Blk (W.alloc (.cells #[x] e)) W.heap.size e [x] := Blk.new W e [x]
  generalize W.alloc (.cells #[x] e) = W1 at *
  obtain ⟨g, cap, M, hr, hown, hg, hlie, hlt⟩ := run_append_lies (P := Tryd.prog) (w := W1) t ty B e i0 z 1 bytes ht hi hz0 hz1 hz2 hz (by decide) v n xs (ownsRow_keep h fun g hg => hal.block g (World.ownsRow.lt h g hg).2) ⟨W.heap.size, 0, none⟩ 1 1 [x] rfl
    (fun j u hj => by
      rcases j with _ | j
      · simp at hj; subst hj; exact hnew.cell 0
      · simp at hj) (by simpa using hx) (by omega) (by unfold maxLen; omega) (by
        have : (n + 1) * bytes ≤ 1001 * 100 := Nat.mul_le_mul (by omega) hby
        omega) (by omega) W1.heap.size rfl
  refine ⟨g, cap, M, hr, hown, ⟨hg.os.trans hal.os, hg.tape.trans hal.tape, hg.output.trans hal.output, by have := hg.size; omega, fun b hb hne => (hg.block b (by omega) hne).trans (hal.block b hb)⟩, hlie.imp id fun h => by omega, hlt⟩

/-- The blocks that the law keeps. -/
def KS (w : World) (db hb : Nat) (v1 v2 : Value) (b : Nat) : Prop := b < w.heap.size ∨ b = db ∨ b = hb ∨ v1.ownBlock = some b ∨ v2.ownBlock = some b
/-- What stands in every round. -/
structure Sf (w : World) (db bb hb p : Nat) (v1 v2 : Value) (ls : List (List UInt8)) (k : Nat) (V : PV) (VD : DV) (wr : World) : Prop where
  pd : PD (KS w db hb v1 v2) wr p V bb VD
  r1 : wr.ownsRow w.heap.size 9 1 v1 ls.length (ls.map sv)
  r2 : wr.ownsRow w.heap.size 3 1 v2 k ((nums k).map ci)
  ne : ∀ g, v1.ownBlock = some g → v2.ownBlock = some g → False
  hand : Blk wr hb 93 [.pointer (some ⟨bb, 0, none⟩)]
  hdb : wr.cell? ⟨db, 0, none⟩ = some (.pointer (some ⟨bb, 0, none⟩))
  n1 : ∀ g, v1.ownBlock = some g → g ≠ hb ∧ g ≠ db
  n2 : ∀ g, v2.ownBlock = some g → g ≠ hb ∧ g ≠ db
  d : V.d = .pointer (some ⟨db, 0, none⟩)
  frm : V.frm = 3
  many : V.many = 36
  n : VD.n = 40
  bel : Below w.heap.size w wr
theorem Sf.step {w : World} {db bb hb p : Nat} {v1 v2 : Value} {ls : List (List UInt8)} {k : Nat} {V V' : PV} {VD VD' : DV} {wr w' : World} (h : Sf w db bb hb p v1 v2 ls k V VD wr) (hk : Kept (KS w db hb v1 v2) wr w') (hp : PD (KS w db hb v1 v2) w' p V' bb VD')
    (h1 : V'.d = V.d) (h2 : V'.frm = V.frm) (h3 : V'.many = V.many) (h4 : VD'.n = VD.n) : Sf w db bb hb p v1 v2 ls k V' VD' w' :=
  ⟨hp, ownsRow_keep h.r1 fun g hg => hk.block g (World.ownsRow.lt h.r1 g hg).2 fun hn => hn (.inr (.inr (.inr (.inl hg)))), ownsRow_keep h.r2 fun g hg => hk.block g (World.ownsRow.lt h.r2 g hg).2 fun hn => hn (.inr (.inr (.inr (.inr hg)))),
    h.ne, hk.blk h.hand (.inr (.inr (.inl rfl))), (World.cell?_of_block (hk.block db (cell_lt h.hdb) fun hn => hn (.inr (.inl rfl)))).trans h.hdb, h.n1, h.n2, h1.trans h.d, h2.trans h.frm, h3.trans h.many, h4.trans h.n,
    h.bel.trans (hk.below (fun _ hb => .inl hb) h.bel.size)⟩
theorem Sf.keep {w : World} {db bb hb p : Nat} {v1 v2 : Value} {ls : List (List UInt8)} {k : Nat} {V : PV} {VD : DV} {wr w' : World} (h : Sf w db bb hb p v1 v2 ls k V VD wr) (hk : Below wr.heap.size wr w') : Sf w db bb hb p v1 v2 ls k V VD w' :=
  h.step (Kept.of_below hk h.pd.lt) (h.pd.keep hk) rfl rfl rfl rfl
theorem Sf.push1 {w : World} {db bb hb p : Nat} {v1 v2 : Value} {ls : List (List UInt8)} {k : Nat} {V : PV} {VD : DV} {wr : World} (h : Sf w db bb hb p v1 v2 ls k V VD wr) (x : List UInt8) (hn : ls.length ≤ 1000) (ty : TypeId) :
    ∃ g c M, (Builtin.append_ #[76, 76] ty #[v1, .slice (some ⟨wr.heap.size, 0, none⟩) 1 1]).run Tryd.prog (wr.alloc (.cells #[sv x] 9)) = .ok (.slice (some ⟨g, 0, none⟩) (ls.length + 1) c) M ∧ Sf w db bb hb p (.slice (some ⟨g, 0, none⟩) (ls.length + 1) c) v2 (ls ++ [x]) k V VD M := by
  obtain ⟨g, c, M, hr, ho, hg, hl, hlt⟩ := row_push 76 9 (.string ByteArray.empty) 16 (by kernel_rfl) Tryd.underlying76 rfl (by omega) h.r1 (sv x) rfl hn h.bel.size ty
  have hb1 := h.r1.lt
  have hown : (Value.slice (some ⟨g, 0, none⟩) (ls.length + 1) c).ownBlock = some g := rfl
  have hgw : g < wr.heap.size → v1.ownBlock = some g := fun hlt => hl.resolve_right (by omega)
  have hK : ∀ b, KS w db hb (.slice (some ⟨g, 0, none⟩) (ls.length + 1) c) v2 b → KS w db hb v1 v2 b ∨ (wr.heap.size ≤ b ∧ b < M.heap.size) := fun b hb => by
    rcases hb with h1 | h1 | h1 | h1 | h1
    · exact .inl (.inl h1)
    · exact .inl (.inr (.inl h1))
    · exact .inl (.inr (.inr (.inl h1)))
    · rw [hown] at h1
      cases h1
      rcases hl with h2 | h2
      · exact .inl (.inr (.inr (.inr (.inl h2))))
      · exact .inr ⟨h2, hlt⟩
    · exact .inl (.inr (.inr (.inr (.inr h1))))
  have hdl := cell_lt h.hdb
  have hhl := h.hand.lt
  refine ⟨g, c, M, hr, h.pd.push hg (fun r e => .inr (.inr (.inr (.inl e)))) hK, by rw [List.length_append, List.map_append]; exact ho, ownsRow_keep h.r2 fun b hb => hg.block b (h.r2.lt b hb).2 fun e => h.ne b e.symm hb, fun b hb hb2 => ?_, ?_, ?_, fun b hb => ?_, h.n2, h.d, h.frm, h.many, h.n, ?_⟩
  · rw [hown] at hb
    cases hb
    exact h.ne g (hgw (h.r2.lt g hb2).2) hb2
  · exact (hg.block hb hhl fun e => (h.n1 hb e.symm).1 rfl).trans h.hand
  · exact (World.cell?_of_block (hg.block db hdl fun e => (h.n1 db e.symm).2 rfl)).trans h.hdb
  · rw [hown] at hb
    cases hb
    refine ⟨fun e => ?_, fun e => ?_⟩
    · subst e; exact (h.n1 g (hgw hhl)).1 rfl
    · subst e; exact (h.n1 g (hgw hdl)).2 rfl
  · exact h.bel.trans ⟨hg.os, hg.tape, hg.output, hg.size, fun b hb => hg.block b (Nat.lt_of_lt_of_le hb h.bel.size) fun e => by have := (hb1 b e.symm).1; omega⟩
theorem Sf.push2 {w : World} {db bb hb p : Nat} {v1 v2 : Value} {ls : List (List UInt8)} {k : Nat} {V : PV} {VD : DV} {wr : World} (h : Sf w db bb hb p v1 v2 ls k V VD wr) (hn : k ≤ 1000) (ty : TypeId) :
    ∃ g c M, (Builtin.append_ #[41, 41] ty #[v2, .slice (some ⟨wr.heap.size, 0, none⟩) 1 1]).run Tryd.prog (wr.alloc (.cells #[.int .i64 (k : Int)] 3)) = .ok (.slice (some ⟨g, 0, none⟩) (k + 1) c) M ∧ Sf w db bb hb p v1 (.slice (some ⟨g, 0, none⟩) (k + 1) c) ls (k + 1) V VD M := by
  obtain ⟨g, c, M, hr, ho, hg, hl, hlt⟩ := row_push 41 3 (.int .i64 0) 8 (by kernel_rfl) Tryd.underlying41 rfl (by omega) h.r2 (.int .i64 (k : Int)) rfl hn h.bel.size ty
  have hb1 := h.r2.lt
  have hown : (Value.slice (some ⟨g, 0, none⟩) (k + 1) c).ownBlock = some g := rfl
  have hgw : g < wr.heap.size → v2.ownBlock = some g := fun hlt => hl.resolve_right (by omega)
  have hK : ∀ b, KS w db hb v1 (.slice (some ⟨g, 0, none⟩) (k + 1) c) b → KS w db hb v1 v2 b ∨ (wr.heap.size ≤ b ∧ b < M.heap.size) := fun b hb => by
    rcases hb with h1 | h1 | h1 | h1 | h1
    · exact .inl (.inl h1)
    · exact .inl (.inr (.inl h1))
    · exact .inl (.inr (.inr (.inl h1)))
    · exact .inl (.inr (.inr (.inr (.inl h1))))
    · rw [hown] at h1
      cases h1
      rcases hl with h2 | h2
      · exact .inl (.inr (.inr (.inr (.inr h2))))
      · exact .inr ⟨h2, hlt⟩
  have hdl := cell_lt h.hdb
  have hhl := h.hand.lt
  refine ⟨g, c, M, hr, h.pd.push hg (fun r e => .inr (.inr (.inr (.inr e)))) hK, ownsRow_keep h.r1 fun b hb => hg.block b (h.r1.lt b hb).2 fun e => h.ne b hb e.symm, by rw [nums_succ, List.map_append]; exact ho, fun b hb hb2 => ?_, ?_, ?_, h.n1, fun b hb => ?_, h.d, h.frm, h.many, h.n, ?_⟩
  · rw [hown] at hb2
    cases hb2
    exact h.ne g hb (hgw (h.r1.lt g hb).2)
  · exact (hg.block hb hhl fun e => (h.n2 hb e.symm).1 rfl).trans h.hand
  · exact (World.cell?_of_block (hg.block db hdl fun e => (h.n2 db e.symm).2 rfl)).trans h.hdb
  · rw [hown] at hb
    cases hb
    refine ⟨fun e => ?_, fun e => ?_⟩
    · subst e; exact (h.n2 g (hgw hhl)).1 rfl
    · subst e; exact (h.n2 g (hgw hdl)).2 rfl
  · exact h.bel.trans ⟨hg.os, hg.tape, hg.output, hg.size, fun b hb => hg.block b (Nat.lt_of_lt_of_le hb h.bel.size) fun e => by have := (hb1 b e.symm).1; omega⟩
theorem Sf.len1 {w : World} {db bb hb p : Nat} {v1 v2 : Value} {ls : List (List UInt8)} {k : Nat} {V : PV} {VD : DV} {wr : World} (h : Sf w db bb hb p v1 v2 ls k V VD wr) : ∃ A c, v1 = .slice A ls.length c := by
  rcases h.r1.2 with ⟨hv, h0⟩ | ⟨g, cap, cur, hv, _⟩
  · exact ⟨none, 0, by rw [h0]; exact hv⟩
  · exact ⟨_, cap, hv⟩
theorem Sf.len2 {w : World} {db bb hb p : Nat} {v1 v2 : Value} {ls : List (List UInt8)} {k : Nat} {V : PV} {VD : DV} {wr : World} (h : Sf w db bb hb p v1 v2 ls k V VD wr) : ∃ A c, v2 = .slice A k c := by
  rcases h.r2.2 with ⟨hv, h0⟩ | ⟨g, cap, cur, hv, _⟩
  · exact ⟨none, 0, by rw [h0]; exact hv⟩
  · exact ⟨_, cap, hv⟩
/-- The cells of a row of one's own. -/
theorem row_cells {w : World} {B n : Nat} {e : TypeId} {A : Option Addr} {m c : Nat} {xs : List Value} (h : w.ownsRow B e 1 (.slice A m c) n xs) (hn : 0 < n) : ∃ g, A = some ⟨g, 0, none⟩ ∧ B ≤ g ∧ g < w.heap.size ∧ ∀ i, i < n → w.cell? ⟨g, i, none⟩ = xs[i]? := by
  rcases h.2 with ⟨_, h0⟩ | ⟨g, cap, cur, hv, hg, hh, hc, hcM, hsz, htk⟩
  · omega
  · injection hv with hA
    subst hA
    refine ⟨g, rfl, hg, (h.lt g rfl).2, fun i hi => ?_⟩
    rw [Nat.mul_one] at htk
    rw [cell_of_row w g i cur _ (0, 0) hh, ← htk, List.getElem?_take_of_lt hi, Array.getElem?_toList]
end SafeP
end Go.Proofs.YteediemhcocgdaaDoor
