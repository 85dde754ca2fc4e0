/-
  wal's Log: Append.
-/
import Derived.Test.YteediemhcocgdaaDoorWalAct2
import Derived.BigRegion
namespace Go.Proofs.YteediemhcocgdaaDoor
open Go.RowKit
open WalP (Stamp secs)

/-- A record's part. -/
def part (b : List UInt8) (i : Nat) : List UInt8 := (b.drop (i * 492)).take 492
theorem part_le (b : List UInt8) (i : Nat) : (part b i).length ≤ 492 := by unfold part; simp; omega
def lst_ (L : LV) (b : List UInt8) (i : Nat) : Stamp := ⟨L.ep, L.cnt, i, secs b.length, (part b i).length⟩
def sect (L : LV) (b : List UInt8) (i : Nat) : List UInt8 := (lst_ L b i).bytes (part b i)
/-- One sector of it written. -/
def wr1 (L : LV) (b : List UInt8) (k : Nat) (V : DV) : Bool × DV := V.act fun X => X.put ((L.frm + L.used + k : Nat) : Int) (sect L b k)
/-- So many have been written. -/
def Steps (L : LV) (b : List UInt8) (V : DV) : Nat → DV → Prop
  | 0, V' => V' = V
  | k + 1, V' => ∃ V1, Steps L b V k V1 ∧ wr1 L b k V1 = (false, V')
theorem act_keeps {V V' : DV} {x : Int} {l : List UInt8} (h : V.act (fun X => X.put x l) = (false, V')) : V'.n = V.n ∧ V'.down = V.down ∧ V'.wait.length = V.wait.length + 1 := by
  rcases ha : V.armed with _ | _
  · rw [act_free ha] at h
    cases h
    exact ⟨rfl, rfl, by simp [DV.put]⟩
  · by_cases h0 : V.acts = 0
    · rw [act_down ha h0] at h
      cases h
    · rw [act_less ha h0] at h
      cases h
      exact ⟨rfl, rfl, by simp [DV.put]⟩
theorem steps_keeps {L : LV} {b : List UInt8} {V : DV} : ∀ (k : Nat) (V' : DV), Steps L b V k V' → V'.n = V.n ∧ V'.down = V.down ∧ V'.wait.length = V.wait.length + k
  | 0, V', h => by cases h; exact ⟨rfl, rfl, rfl⟩
  | k + 1, V', h => by
    obtain ⟨V1, h1, h2⟩ := h
    obtain ⟨a, b, c⟩ := steps_keeps k V1 h1
    obtain ⟨d, e, f⟩ := act_keeps h2
    exact ⟨d.trans a, e.trans b, by omega⟩
def LV.add (L : LV) (n : Nat) : LV := { L with used := L.used + n, cnt := L.cnt + 1 }
/-- What Append leaves, where it is carried out. -/
def AppendR (K : Nat → Prop) (bb lb : Nat) (L : LV) (b : List UInt8) (V : DV) (w : World) (e : Ending) (w' : World) : Prop :=
  Turn (fun x => ¬ K x ∨ x = lb) w w' ∧ ((e = .returned .nilIface ∧ ∃ V', Steps L b V (secs b.length) V' ∧ Dk K w' bb V' ∧ Blk w' lb 105 (L.add (secs b.length)).cells) ∨
    (∃ k V1, k < secs b.length ∧ Steps L b V k V1 ∧ (wr1 L b k V1).1 = true ∧ e = .returned (.iface 24 (.int .i64 5)) ∧ Dk K w' bb (wr1 L b k V1).2 ∧ Blk w' lb 105 (L.die true).cells))

theorem Byt.keptA {w w' : World} {B : Nat} {A : Option Addr} {l : List UInt8} (h : Byt w B A l) (hk : ∀ g, blkOf A = some g → w'.heap[g]? = w.heap[g]?) : Byt w' B A l := fun hl => by
  obtain ⟨b, off, hA, hb, hc⟩ := h hl
  exact ⟨b, off, hA, hb, fun i hi => (World.cell?_of_block (hk b (by rw [hA]; rfl))).trans (hc i hi)⟩
/-- A slice's address so far on. -/
def addA (A : Option Addr) (n : Nat) : Option Addr := A.map fun a => ⟨a.block, a.off + n, none⟩
theorem Byt.part {w : World} {B : Nat} {A : Option Addr} {b : List UInt8} (h : Byt w B A b) (i : Nat) : Byt w B (addA A (i * 492)) (part b i) := fun hl => by
  have hlen : (Go.Proofs.YteediemhcocgdaaDoor.part b i).length = min 492 (b.length - i * 492) := by unfold Go.Proofs.YteediemhcocgdaaDoor.part; simp
  obtain ⟨g, off, rfl, hg, hc⟩ := h (by omega)
  refine ⟨g, off + i * 492, rfl, hg, fun j hj => ?_⟩
  have := hc (i * 492 + j) (by omega)
  rw [← Nat.add_assoc] at this
  rw [this]
  congr 3
  unfold Go.Proofs.YteediemhcocgdaaDoor.part
  rw [List.getD_eq_getElem?_getD, List.getD_eq_getElem?_getD, List.getElem?_take_of_lt (by omega), List.getElem?_drop]

/-- One round's act, behind its three new blocks. -/
theorem append_act {K : Nat → Prop} {wr : World} {bb : Nat} {V1 : DV} (h : Dk K wr bb V1) (L : LV) (lb lbx k B c' : Nat) (A' : Option Addr) (b : List UInt8)
    (hlb : Blk wr lb 105 L.cells) (hlbx : wr.cell? ⟨lbx, 0, none⟩ = some (.pointer (some ⟨lb, 0, none⟩))) (hdb : wr.cell? ⟨L.db, 0, none⟩ = some (.pointer (some ⟨bb, 0, none⟩))) (hb : Byt wr B A' (part b k)) (hB : B ≤ wr.heap.size) (hn : Nib wr) (h0 : 0 < wr.heap.size)
    (hs : (lst_ L b k).ok) (hx : ((L.frm + L.used + k : Nat) : Int) < V1.n) (hdn : V1.down = false) (hl : V1.wait.length ≤ 1000000000) (hL : L.frm ≤ 1099511627776 ∧ L.used ≤ 1099511627776 ∧ k ≤ 1099511627776) (klb : K lb) (klbx : K lbx) (kdb : K L.db) :
    Calls Tryd.prog 64 #[.pointer (some ⟨lb, 0, none⟩), .func (.func 65) #[] #[.pointer (some ⟨lbx, 0, none⟩), .pointer (some ⟨wr.heap.size, 0, none⟩), .pointer (some ⟨wr.heap.size + 1 + 1, 0, none⟩), .pointer (some ⟨wr.heap.size + 1, 0, none⟩)]]
      (((wr.alloc (.cells #[.int .i64 (k : Int)] 3)).alloc (.cells #[.slice A' (part b k).length c'] 23)).alloc (.cells #[.int .i64 L.ep, .int .i64 L.cnt, .int .i64 (k : Int), .int .i64 (secs b.length : Nat), .int .i64 (part b k).length] 111)).drew
      fun e w' => e = .returned (errV (wr1 L b k V1).1) ∧ Dk K w' bb (wr1 L b k V1).2 ∧ Blk w' lb 105 (L.die (wr1 L b k V1).1).cells ∧ Turn (fun x => ¬ K x ∨ x = lb) wr w' := by
  have hKl := h.lt
  have hal : Below wr.heap.size wr (((wr.alloc (.cells #[.int .i64 (k : Int)] 3)).alloc (.cells #[.slice A' (part b k).length c'] 23)).alloc (.cells #[.int .i64 L.ep, .int .i64 L.cnt, .int .i64 (k : Int), .int .i64 (secs b.length : Nat), .int .i64 (part b k).length] 111)).drew := ((((Below.refl _ wr).alloc (Nat.le_refl _) _).alloc (by simp) _).alloc (by simp; omega) _).drew
  have hsz : (((wr.alloc (.cells #[.int .i64 (k : Int)] 3)).alloc (.cells #[.slice A' (part b k).length c'] 23)).alloc (.cells #[.int .i64 L.ep, .int .i64 L.cnt, .int .i64 (k : Int), .int .i64 (secs b.length : Nat), .int .i64 (part b k).length] 111)).drew.heap.size = wr.heap.size + 3 := by
    show (((wr.alloc _).alloc _).alloc _).heap.size = _; simp
  have hix : (((wr.alloc (.cells #[.int .i64 (k : Int)] 3)).alloc (.cells #[.slice A' (part b k).length c'] 23)).alloc (.cells #[.int .i64 L.ep, .int .i64 L.cnt, .int .i64 (k : Int), .int .i64 (secs b.length : Nat), .int .i64 (part b k).length] 111)).drew.cell? ⟨wr.heap.size, 0, none⟩ = some (.int .i64 k) :=
    (((Blk.new wr 3 [.int .i64 (k : Int)]).alloc _).alloc _).cell 0
  have hpx : (((wr.alloc (.cells #[.int .i64 (k : Int)] 3)).alloc (.cells #[.slice A' (part b k).length c'] 23)).alloc (.cells #[.int .i64 L.ep, .int .i64 L.cnt, .int .i64 (k : Int), .int .i64 (secs b.length : Nat), .int .i64 (part b k).length] 111)).drew.cell? ⟨wr.heap.size + 1, 0, none⟩ = some (.slice A' (part b k).length c') :=
    ((blk_new_at (w := wr.alloc (.cells #[.int .i64 (k : Int)] 3)) (t := 23) (cs := [.slice A' (part b k).length c']) (by simp)).alloc _).cell 0
  have hsx : Blk (((wr.alloc (.cells #[.int .i64 (k : Int)] 3)).alloc (.cells #[.slice A' (part b k).length c'] 23)).alloc (.cells #[.int .i64 L.ep, .int .i64 L.cnt, .int .i64 (k : Int), .int .i64 (secs b.length : Nat), .int .i64 (part b k).length] 111)).drew (wr.heap.size + 1 + 1) 111 (stCells (lst_ L b k)) :=
    blk_new_at (w := (wr.alloc (.cells #[.int .i64 (k : Int)] 3)).alloc (.cells #[.slice A' (part b k).length c'] 23)) (t := 111) (cs := stCells (lst_ L b k)) (by simp)
  generalize (((wr.alloc (.cells #[.int .i64 (k : Int)] 3)).alloc (.cells #[.slice A' (part b k).length c'] 23)).alloc (.cells #[.int .i64 L.ep, .int .i64 L.cnt, .int .i64 (k : Int), .int .i64 (secs b.length : Nat), .int .i64 (part b k).length] 111)).drew = W at *
  have hd3 := h.more (w' := W) (K' := fun x => K x ∨ x = wr.heap.size ∨ x = wr.heap.size + 1 ∨ x = wr.heap.size + 1 + 1) hal (fun x hx => by
    rcases hx with e | e | e | e
    · exact .inl e
    · exact .inr ⟨by omega, by omega⟩
    · exact .inr ⟨by omega, by omega⟩
    · exact .inr ⟨by omega, by omega⟩)
  refine (lact_v (K := fun x => K x ∨ x = wr.heap.size ∨ x = wr.heap.size + 1 ∨ x = wr.heap.size + 1 + 1) (bb := bb) L lb (wr1 L b k V1) _ _ _ _ (hlb.below hal hlb.lt) (.inl klb)
    (append1_v hd3 L (lst_ L b k) lb lbx wr.heap.size (wr.heap.size + 1 + 1) (wr.heap.size + 1) k B A' c' (part b k) (hlb.below hal hlb.lt) ((hal.cell (p := ⟨lbx, 0, none⟩) (cell_lt hlbx)).trans hlbx) hix hsx hpx ((hal.cell (p := ⟨L.db, 0, none⟩) (cell_lt hdb)).trans hdb)
      hs (hb.below (hal.mono hB)) (by omega) (part_le b k) (hn.below hal h0) (by omega) hx hdn hl hL (.inl klb) (.inl klbx) (.inr (.inl rfl)) (.inr (.inr (.inr rfl))) (.inr (.inr (.inl rfl))) (.inl kdb))).mono ?_
  rintro e w' ⟨h1, h2, h3, h4⟩
  refine ⟨h1, h2.less fun x hx => .inl hx, h3, ((Turn.of_below hal).mono fun x hx => ?_).trans h4 fun x hx => ?_⟩
  · exact .inl fun hk => by have := hKl x hk; omega
  · rcases hx with hx | hx
    · exact .inl (.inl fun hk => hx (.inl hk))
    · exact .inl (.inr hx)

theorem append_turn {K : Nat → Prop} {w W0 wr w3 : World} {lb x0 : Nat} (h1 : Below w.heap.size w W0) (h2 : Kept (fun x => K x ∨ x = w.heap.size) W0 wr) (h3 : Turn (fun x => ¬ (K x ∨ x = x0) ∨ x = lb) wr w3) : Turn (fun x => ¬ K x ∨ x = lb) w w3 := by
  have hs2 := h2.size
  have hs3 := h3.size
  have hs1 := h1.size
  refine ⟨h3.os.trans (h2.os.trans h1.os), h3.tape.trans (h2.tape.trans h1.tape), h3.output.trans (h2.output.trans h1.output), by omega, fun x hx hn => ?_⟩
  have hK : K x := Classical.byContradiction fun h => hn (.inl h)
  refine (h3.block x (by omega) fun h => ?_).trans ((h2.block x (by omega) fun h => h (.inl hK)).trans (h1.block x hx))
  rcases h with h | h
  · exact h (.inl hK)
  · exact hn (.inr h)

set_option maxHeartbeats 4000000 in
set_option maxRecDepth 100000 in
theorem append_v {K : Nat → Prop} {w : World} {bb : Nat} {V : DV} (h : Dk K w bb V) (L : LV) (lb B : Nat) (A : Option Addr) (c : Nat) (b : List UInt8)
    (hlb : Blk w lb 105 L.cells) (hdb : w.cell? ⟨L.db, 0, none⟩ = some (.pointer (some ⟨bb, 0, none⟩))) (hb : Byt w B A b) (hB : B ≤ w.heap.size) (hbc : b.length ≤ c) (hc63 : c ≤ 9223372036854775807) (hn : Nib w) (h0 : 0 < w.heap.size)
    (hlen : b.length ≤ 262144) (hroom : L.used + secs b.length ≤ L.many) (hdisk : ((L.frm + L.many : Nat) : Int) ≤ V.n) (hep : L.ep < 2 ^ 48) (hcnt : L.cnt < 2 ^ 32) (hdead : L.dead = false) (hdn : V.down = false) (hl : V.wait.length ≤ 100000000)
    (klb : K lb) (kdb : K L.db) (kA : 0 < b.length → ∀ g, blkOf A = some g → K g) (k0 : K 0) :
    Calls Tryd.prog 38 #[.pointer (some ⟨lb, 0, none⟩), .slice A b.length c] w (AppendR K bb lb L b V w) := by
  have hM := h.ok.2.2.2
  have hsec : secs b.length ≤ 533 := by unfold secs; split <;> omega
  have hsec1 : 1 ≤ secs b.length := by unfold secs; rw [if_neg (by omega)]; omega
  have hsecl : ∀ i, i < secs b.length → i = 0 ∨ i * 492 < b.length := by
    intro i hi
    unfold secs at hi
    rw [if_neg (by omega)] at hi
    omega
  have HX := Lib.hid h
  have HL := Lib.hid hlb
  have HB := Lib.hid hb
  have HN := Lib.hid hn
  have HD := Lib.hid hdb
  have HSL := Lib.hid hsecl
  have d6 : w.cell? ⟨lb, 6, none⟩ = some (.bool false) := by have := hlb.cell 6; rw [← hdead]; exact this
  have hal0 : Below w.heap.size w (w.alloc (.cells #[.pointer (some ⟨lb, 0, none⟩)] 56)) := (Below.refl _ _).alloc (Nat.le_refl _) _
  have d6' : (w.alloc (.cells #[.pointer (some ⟨lb, 0, none⟩)] 56)).cell? ⟨lb, 6, none⟩ = some (.bool false) := (hal0.cell (p := ⟨lb, 6, none⟩) hlb.lt).trans d6
  have HL0 := Lib.hid (hlb.below hal0 hlb.lt)
  clear h hlb hb hn hdb hsecl
  go_enter Tryd.func38, Tryd.ntmps38
  go_wp2_with fail
  refine (sectors_any_ b.length _ (by omega)).mono ?_
  rintro e w1 ⟨rfl, rfl⟩
  generalize hsn : secs b.length = n at *
  have HSN := Lib.hid hsn
  clear hsn
  go_wp2_with fail
  refine (room_any L lb _ HL0.out (by omega) (by omega)).mono ?_
  rintro e w2 ⟨rfl, nd, rfl⟩
  go_wp2_with fail
  have hal1 : Below w.heap.size w ((w.alloc (.cells #[.pointer (some ⟨lb, 0, none⟩)] 56)).drewN nd) := below_drewN ((Below.refl w.heap.size w).alloc (Nat.le_refl _) _) nd
  have hbx0 : ((w.alloc (.cells #[.pointer (some ⟨lb, 0, none⟩)] 56)).drewN nd).cell? ⟨w.heap.size, 0, none⟩ = some (.pointer (some ⟨lb, 0, none⟩)) := by show (w.alloc _).cell? _ = _; simp
  have hz0 : ((w.alloc (.cells #[.pointer (some ⟨lb, 0, none⟩)] 56)).drewN nd).heap.size = w.heap.size + 1 := by show (w.alloc _).heap.size = _; simp
  clear d6 d6'
  generalize (w.alloc (.cells #[.pointer (some ⟨lb, 0, none⟩)] 56)).drewN nd = W0 at *
  have HBX := Lib.hid hbx0
  have HDK0 := Lib.hid (HX.out.more (w' := W0) (K' := fun x => K x ∨ x = w.heap.size) hal1 (fun x hx => by
    rcases hx with h | h
    · exact .inl h
    · exact .inr ⟨by omega, by omega⟩))
  have HLB := Lib.hid (HL.out.below hal1 HL.out.lt)
  have HDB := Lib.hid ((hal1.cell (p := ⟨L.db, 0, none⟩) (cell_lt HD.out)).trans HD.out)
  have HBY := Lib.hid (HB.out.below (hal1.mono hB))
  have HNB := Lib.hid (HN.out.below hal1 h0)
  have HAL := Lib.hid hal1
  clear hal1 hbx0 hal0
  go_loopw [30] (fun s30 wr => ∃ (k : Nat) (V' : DV), k ≤ n ∧ s30 = .int .i64 k ∧ Steps L b V k V' ∧ Dk (fun x => K x ∨ x = w.heap.size) wr bb V' ∧ Kept (fun x => K x ∨ x = w.heap.size) W0 wr) (fun s30 _ => n - (intOf s30).toNat)
  case atStart => exact ⟨0, V, by omega, rfl, rfl, HDK0.out, Kept.refl _ _⟩
  case round =>
    obtain ⟨k, V1, hk, rfl, hst, hd1, hk1⟩ := hrel
    have HST := Lib.hid hst
    have HD1 := Lib.hid hd1
    have HK1 := Lib.hid hk1
    have hzr : W0.heap.size ≤ wr.heap.size := hk1.size
    have HLB1 := Lib.hid (hk1.blk HLB.out (.inl klb))
    have HBX1 := Lib.hid ((World.cell?_of_block (hk1.block w.heap.size (by omega) fun hn => hn (.inr rfl))).trans HBX.out)
    have HDB1 := Lib.hid ((World.cell?_of_block (hk1.block L.db (cell_lt HDB.out) fun hn => hn (.inl kdb))).trans HDB.out)
    have HNB1 := Lib.hid (Nib.kept HNB.out hk1 (.inl k0) (by omega))
    clear hst hd1 hk1
    by_cases hlt : k < n
    · have hp1 : (part b k).length = min 492 (b.length - k * 492) := by unfold part; simp
      have hd0 : ∀ o1 o2, ((wr.alloc o1).alloc o2).cell? ⟨lb, 3, none⟩ = some (.int .i64 L.ep) := fun o1 o2 => (((HLB1.out.alloc o1).alloc o2).cell 3)
      have hd1 : ∀ o1 o2, ((wr.alloc o1).alloc o2).cell? ⟨lb, 4, none⟩ = some (.int .i64 L.cnt) := fun o1 o2 => (((HLB1.out.alloc o1).alloc o2).cell 4)
      have hd2 : ∀ o1 o2, ((wr.alloc o1).alloc o2).cell? ⟨w.heap.size, 0, none⟩ = some (.pointer (some ⟨lb, 0, none⟩)) := fun o1 o2 => (World.cell?_alloc_lt _ _ ⟨w.heap.size, 0, none⟩ (by simp; omega)).trans ((World.cell?_alloc_lt _ _ ⟨w.heap.size, 0, none⟩ (by show w.heap.size < _; omega)).trans HBX1.out)
      have hd3 : ∀ o2, ((wr.alloc (.cells #[.int .i64 (k : Int)] 3)).alloc o2).cell? ⟨wr.heap.size, 0, none⟩ = some (.int .i64 (k : Int)) := fun o2 => (World.cell?_alloc_lt _ _ ⟨wr.heap.size, 0, none⟩ (by simp)).trans (by simp)
      have hd4 : ∀ o1 v, ((wr.alloc o1).alloc (.cells #[v] 23)).cell? ⟨wr.heap.size + 1, 0, none⟩ = some v := fun o1 v => (blk_new_at (w := wr.alloc o1) (t := 23) (cs := [v]) (by simp)).cell 0
      have he0 : ∀ o1 o2 o3, (((wr.alloc o1).alloc o2).alloc o3).cell? ⟨lb, 3, none⟩ = some (.int .i64 L.ep) := fun o1 o2 o3 => ((((HLB1.out.alloc o1).alloc o2).alloc o3).cell 3)
      have he1 : ∀ o1 o2 o3, (((wr.alloc o1).alloc o2).alloc o3).cell? ⟨lb, 4, none⟩ = some (.int .i64 L.cnt) := fun o1 o2 o3 => ((((HLB1.out.alloc o1).alloc o2).alloc o3).cell 4)
      have he2 : ∀ o1 o2 o3, (((wr.alloc o1).alloc o2).alloc o3).cell? ⟨w.heap.size, 0, none⟩ = some (.pointer (some ⟨lb, 0, none⟩)) := fun o1 o2 o3 => (World.cell?_alloc_lt _ _ ⟨w.heap.size, 0, none⟩ (by simp; omega)).trans (hd2 o1 o2)
      have he3 : ∀ o2 o3, (((wr.alloc (.cells #[.int .i64 (k : Int)] 3)).alloc o2).alloc o3).cell? ⟨wr.heap.size, 0, none⟩ = some (.int .i64 (k : Int)) := fun o2 o3 => (World.cell?_alloc_lt _ _ ⟨wr.heap.size, 0, none⟩ (by simp; omega)).trans (hd3 o2)
      have he4 : ∀ o1 v o3, (((wr.alloc o1).alloc (.cells #[v] 23)).alloc o3).cell? ⟨wr.heap.size + 1, 0, none⟩ = some v := fun o1 v o3 => (World.cell?_alloc_lt _ _ ⟨wr.heap.size + 1, 0, none⟩ (by simp)).trans (hd4 o1 v)
      have HP1 := Lib.hid hp1
      have hbyr : Byt wr B A b := fun hpos => (HBY.out.keptA fun g hg => HK1.out.block g (HDK0.out.lt g (.inl (kA hpos g hg))) fun hn => hn (.inl (kA hpos g hg))) hpos
      obtain ⟨hn1, hn2, hn3⟩ := steps_keeps k V1 HST.out
      have hrd : ∀ (A' : Option Addr) (c' : Nat), Byt wr B A' (part b k) → _ := fun A' c' hby' => append_act HD1.out L lb w.heap.size k B c' A' b HLB1.out HBX1.out HDB1.out hby' (by omega) HNB1.out (by omega)
        ⟨hep, hcnt, by show k < 65536; omega, by show secs b.length < 65536; rw [HSN.out]; omega, by show (part b k).length < 65536; have := part_le b k; omega⟩ (by rw [hn1]; omega) (by rw [hn2]; exact hdn) (by omega) ⟨by omega, by omega, by omega⟩ (.inl klb) (.inr rfl) (.inl kdb)
      rw [HSN.out] at hrd
      have HRD := Lib.hid hrd
      have HBYR := Lib.hid hbyr
      clear hrd hbyr hn1 hn2 hn3
      by_cases hbp : 0 < b.length
      · have hkl : k * 492 < b.length := by rcases HSL.out k hlt with h | h <;> omega
        obtain ⟨g, off, rfl, hgB, _⟩ := HBY.out hbp
        have hlc : ¬ c = k * 492 := by omega
        by_cases hlast : b.length < (k + 1) * 492
        · clear hp1
          go_wp2_with fail
          rw [show b.length - k * 492 = (part b k).length by rw [HP1.out]; omega]
          go_region_held3 (fun W => W.cell? ⟨w.heap.size, 0, none⟩ = some (.pointer (some ⟨lb, 0, none⟩)) ∧ W.cell? ⟨lb, 3, none⟩ = some (.int .i64 L.ep) ∧ W.cell? ⟨lb, 4, none⟩ = some (.int .i64 L.cnt) ∧ W.cell? ⟨wr.heap.size, 0, none⟩ = some (.int .i64 k) ∧ W.cell? ⟨wr.heap.size + 1, 0, none⟩ = some (.slice (some ⟨g, off + k * 492, none⟩) (part b k).length (c - k * 492)))
            (first | exact ⟨hd2 _ _, hd0 _ _, hd1 _ _, hd3 _, hd4 _ _⟩ | exact ⟨he2 _ _ _, he0 _ _ _, he1 _ _ _, he3 _ _, he4 _ _ _⟩)
            (fail)
          clear hd0 hd1 hd2 hd3 hd4 he0 he1 he2 he3 he4
          go_wp2_with fail
          refine (HRD.out _ _ (HBYR.out.part k)).mono ?_
          rintro e w3 ⟨rfl, hd, hlb3, ht⟩
          have HD3 := Lib.hid hd
          have HLB3 := Lib.hid hlb3
          have HT3 := Lib.hid ht
          clear hd hlb3 ht
          rcases hr : (wr1 L b k V1).1 with _ | _
          · have hv : errV false = .nilIface := rfl
            rw [hv]
            have HR := Lib.hid hr
            clear hr hv
            go_wp2_with fail
            refine ⟨⟨k + 1, (wr1 L b k V1).2, by omega, by go_num, ⟨V1, HST.out, ?_⟩, HD3.out, ?_⟩, by simp [intOf]; omega⟩
            · rw [← HR.out]
            · have hl3 : Blk w3 lb 105 L.cells := by
                have := HLB3.out
                rw [HR.out] at this
                have e2 : L.die false = L := by unfold LV.die; simp
                rw [e2] at this
                exact this
              refine HK1.out.trans ⟨HT3.out.os, HT3.out.tape, HT3.out.output, HT3.out.size, fun x hx hn => ?_⟩
              by_cases e : x = lb
              · rw [e]
                exact hl3.trans HLB1.out.symm
              · exact HT3.out.block x hx fun h => by
                  rcases h with h | h
                  · exact hn h
                  · exact e h
          · have hv : errV true = .iface 24 (.int .i64 5) := rfl
            rw [hv]
            have HR := Lib.hid hr
            clear hr hv
            go_wp2_with fail
            go_ret
            refine ⟨append_turn HAL.out HK1.out HT3.out, .inr ⟨k, V1, ?_, HST.out, HR.out, rfl, HD3.out.less fun x hx => .inl hx, ?_⟩⟩
            · rw [HSN.out]; exact hlt
            · have := HLB3.out
              rw [HR.out] at this
              exact this
        · clear hp1
          have hn2 : (((k : Int) + 1) * 492).toNat = (k + 1) * 492 := by omega
          go_wp2_with fail
          rw [show (k + 1) * 492 - k * 492 = (part b k).length by rw [HP1.out]; omega]
          clear hn2
          go_region_held3 (fun W => W.cell? ⟨w.heap.size, 0, none⟩ = some (.pointer (some ⟨lb, 0, none⟩)) ∧ W.cell? ⟨lb, 3, none⟩ = some (.int .i64 L.ep) ∧ W.cell? ⟨lb, 4, none⟩ = some (.int .i64 L.cnt) ∧ W.cell? ⟨wr.heap.size, 0, none⟩ = some (.int .i64 k) ∧ W.cell? ⟨wr.heap.size + 1, 0, none⟩ = some (.slice (some ⟨g, off + k * 492, none⟩) (part b k).length (c - k * 492)))
            (first | exact ⟨hd2 _ _, hd0 _ _, hd1 _ _, hd3 _, hd4 _ _⟩ | exact ⟨he2 _ _ _, he0 _ _ _, he1 _ _ _, he3 _ _, he4 _ _ _⟩)
            (fail)
          clear hd0 hd1 hd2 hd3 hd4 he0 he1 he2 he3 he4
          go_wp2_with fail
          refine (HRD.out _ _ (HBYR.out.part k)).mono ?_
          rintro e w3 ⟨rfl, hd, hlb3, ht⟩
          have HD3 := Lib.hid hd
          have HLB3 := Lib.hid hlb3
          have HT3 := Lib.hid ht
          clear hd hlb3 ht
          rcases hr : (wr1 L b k V1).1 with _ | _
          · have hv : errV false = .nilIface := rfl
            rw [hv]
            have HR := Lib.hid hr
            clear hr hv
            go_wp2_with fail
            refine ⟨⟨k + 1, (wr1 L b k V1).2, by omega, by go_num, ⟨V1, HST.out, ?_⟩, HD3.out, ?_⟩, by simp [intOf]; omega⟩
            · rw [← HR.out]
            · have hl3 : Blk w3 lb 105 L.cells := by
                have := HLB3.out
                rw [HR.out] at this
                have e2 : L.die false = L := by unfold LV.die; simp
                rw [e2] at this
                exact this
              refine HK1.out.trans ⟨HT3.out.os, HT3.out.tape, HT3.out.output, HT3.out.size, fun x hx hn => ?_⟩
              by_cases e : x = lb
              · rw [e]
                exact hl3.trans HLB1.out.symm
              · exact HT3.out.block x hx fun h => by
                  rcases h with h | h
                  · exact hn h
                  · exact e h
          · have hv : errV true = .iface 24 (.int .i64 5) := rfl
            rw [hv]
            have HR := Lib.hid hr
            clear hr hv
            go_wp2_with fail
            go_ret
            refine ⟨append_turn HAL.out HK1.out HT3.out, .inr ⟨k, V1, ?_, HST.out, HR.out, rfl, HD3.out.less fun x hx => .inl hx, ?_⟩⟩
            · rw [HSN.out]; exact hlt
            · have := HLB3.out
              rw [HR.out] at this
              exact this
      · have hb0 : b.length = 0 := by omega
        obtain rfl : b = [] := List.eq_nil_of_length_eq_zero hb0
        have hk0 : k = 0 := by rcases HSL.out k hlt with h | h <;> omega
        subst hk0
        have hpl : (part [] 0).length = 0 := rfl
        have HPL := Lib.hid hpl
        clear hp1 hpl
        have hr0 : ∀ (A' : Option Addr) (c' : Nat), _ := fun A' c' => HRD.out A' c' (Byt.nil wr B A')
        simp only [HPL.out] at hr0
        have HR0 := Lib.hid hr0
        clear hr0
        rcases A with _ | a
        · go_wp2_with fail
          go_region_held3 (fun W => W.cell? ⟨w.heap.size, 0, none⟩ = some (.pointer (some ⟨lb, 0, none⟩)) ∧ W.cell? ⟨lb, 3, none⟩ = some (.int .i64 L.ep) ∧ W.cell? ⟨lb, 4, none⟩ = some (.int .i64 L.cnt) ∧ W.cell? ⟨wr.heap.size, 0, none⟩ = some (.int .i64 0) ∧ W.cell? ⟨wr.heap.size + 1, 0, none⟩ = some (.slice none 0 c))
            (first | exact ⟨hd2 _ _, hd0 _ _, hd1 _ _, hd3 _, hd4 _ _⟩ | exact ⟨he2 _ _ _, he0 _ _ _, he1 _ _ _, he3 _ _, he4 _ _ _⟩)
            (fail)
          clear hd0 hd1 hd2 hd3 hd4 he0 he1 he2 he3 he4
          go_wp2_with fail
          refine (HR0.out _ _).mono ?_
          rintro e w3 ⟨rfl, hd, hlb3, ht⟩
          have HD3 := Lib.hid hd
          have HLB3 := Lib.hid hlb3
          have HT3 := Lib.hid ht
          clear hd hlb3 ht
          rcases hr : (wr1 L [] 0 V1).1 with _ | _
          · have hv : errV false = .nilIface := rfl
            rw [hv]
            have HR := Lib.hid hr
            clear hr hv
            go_wp2_with fail
            refine ⟨?_, by simp [intOf]; omega⟩; (repeat apply Exists.intro); refine ⟨⟨0 + 1, (wr1 L [] 0 V1).2, by omega, by first | rfl | go_num, ⟨V1, HST.out, ?_⟩, HD3.out, ?_⟩, rfl⟩
            · rw [← HR.out]
            · have hl3 : Blk w3 lb 105 L.cells := by
                have := HLB3.out
                rw [HR.out] at this
                have e2 : L.die false = L := by unfold LV.die; simp
                rw [e2] at this
                exact this
              refine HK1.out.trans ⟨HT3.out.os, HT3.out.tape, HT3.out.output, HT3.out.size, fun x hx hn => ?_⟩
              by_cases e : x = lb
              · rw [e]
                exact hl3.trans HLB1.out.symm
              · exact HT3.out.block x hx fun h => by
                  rcases h with h | h
                  · exact hn h
                  · exact e h
          · have hv : errV true = .iface 24 (.int .i64 5) := rfl
            rw [hv]
            have HR := Lib.hid hr
            clear hr hv
            go_wp2_with fail
            go_ret
            refine ⟨append_turn HAL.out HK1.out HT3.out, .inr ⟨0, V1, ?_, HST.out, HR.out, rfl, HD3.out.less fun x hx => .inl hx, ?_⟩⟩
            · rw [HSN.out]; exact hlt
            · have := HLB3.out
              rw [HR.out] at this
              exact this
        · by_cases hc0 : c = 0
          · subst hc0
            go_wp2_with fail
            go_region_held3 (fun W => W.cell? ⟨w.heap.size, 0, none⟩ = some (.pointer (some ⟨lb, 0, none⟩)) ∧ W.cell? ⟨lb, 3, none⟩ = some (.int .i64 L.ep) ∧ W.cell? ⟨lb, 4, none⟩ = some (.int .i64 L.cnt) ∧ W.cell? ⟨wr.heap.size, 0, none⟩ = some (.int .i64 0) ∧ W.cell? ⟨wr.heap.size + 1, 0, none⟩ = some (.slice (some a) 0 0))
              (first | exact ⟨hd2 _ _, hd0 _ _, hd1 _ _, hd3 _, hd4 _ _⟩ | exact ⟨he2 _ _ _, he0 _ _ _, he1 _ _ _, he3 _ _, he4 _ _ _⟩)
              (fail)
            clear hd0 hd1 hd2 hd3 hd4 he0 he1 he2 he3 he4
            go_wp2_with fail
            refine (HR0.out _ _).mono ?_
            rintro e w3 ⟨rfl, hd, hlb3, ht⟩
            have HD3 := Lib.hid hd
            have HLB3 := Lib.hid hlb3
            have HT3 := Lib.hid ht
            clear hd hlb3 ht
            rcases hr : (wr1 L [] 0 V1).1 with _ | _
            · have hv : errV false = .nilIface := rfl
              rw [hv]
              have HR := Lib.hid hr
              clear hr hv
              go_wp2_with fail
              refine ⟨?_, by simp [intOf]; omega⟩; (repeat apply Exists.intro); refine ⟨⟨0 + 1, (wr1 L [] 0 V1).2, by omega, by first | rfl | go_num, ⟨V1, HST.out, ?_⟩, HD3.out, ?_⟩, rfl⟩
              · rw [← HR.out]
              · have hl3 : Blk w3 lb 105 L.cells := by
                  have := HLB3.out
                  rw [HR.out] at this
                  have e2 : L.die false = L := by unfold LV.die; simp
                  rw [e2] at this
                  exact this
                refine HK1.out.trans ⟨HT3.out.os, HT3.out.tape, HT3.out.output, HT3.out.size, fun x hx hn => ?_⟩
                by_cases e : x = lb
                · rw [e]
                  exact hl3.trans HLB1.out.symm
                · exact HT3.out.block x hx fun h => by
                    rcases h with h | h
                    · exact hn h
                    · exact e h
            · have hv : errV true = .iface 24 (.int .i64 5) := rfl
              rw [hv]
              have HR := Lib.hid hr
              clear hr hv
              go_wp2_with fail
              go_ret
              refine ⟨append_turn HAL.out HK1.out HT3.out, .inr ⟨0, V1, ?_, HST.out, HR.out, rfl, HD3.out.less fun x hx => .inl hx, ?_⟩⟩
              · rw [HSN.out]; exact hlt
              · have := HLB3.out
                rw [HR.out] at this
                exact this
          · go_wp2_with fail
            go_region_held3 (fun W => W.cell? ⟨w.heap.size, 0, none⟩ = some (.pointer (some ⟨lb, 0, none⟩)) ∧ W.cell? ⟨lb, 3, none⟩ = some (.int .i64 L.ep) ∧ W.cell? ⟨lb, 4, none⟩ = some (.int .i64 L.cnt) ∧ W.cell? ⟨wr.heap.size, 0, none⟩ = some (.int .i64 0) ∧ W.cell? ⟨wr.heap.size + 1, 0, none⟩ = some (.slice (some a) 0 c))
              (first | exact ⟨hd2 _ _, hd0 _ _, hd1 _ _, hd3 _, hd4 _ _⟩ | exact ⟨he2 _ _ _, he0 _ _ _, he1 _ _ _, he3 _ _, he4 _ _ _⟩)
              (fail)
            clear hd0 hd1 hd2 hd3 hd4 he0 he1 he2 he3 he4
            go_wp2_with fail
            refine (HR0.out _ _).mono ?_
            rintro e w3 ⟨rfl, hd, hlb3, ht⟩
            have HD3 := Lib.hid hd
            have HLB3 := Lib.hid hlb3
            have HT3 := Lib.hid ht
            clear hd hlb3 ht
            rcases hr : (wr1 L [] 0 V1).1 with _ | _
            · have hv : errV false = .nilIface := rfl
              rw [hv]
              have HR := Lib.hid hr
              clear hr hv
              go_wp2_with fail
              refine ⟨?_, by simp [intOf]; omega⟩; (repeat apply Exists.intro); refine ⟨⟨0 + 1, (wr1 L [] 0 V1).2, by omega, by first | rfl | go_num, ⟨V1, HST.out, ?_⟩, HD3.out, ?_⟩, rfl⟩
              · rw [← HR.out]
              · have hl3 : Blk w3 lb 105 L.cells := by
                  have := HLB3.out
                  rw [HR.out] at this
                  have e2 : L.die false = L := by unfold LV.die; simp
                  rw [e2] at this
                  exact this
                refine HK1.out.trans ⟨HT3.out.os, HT3.out.tape, HT3.out.output, HT3.out.size, fun x hx hn => ?_⟩
                by_cases e : x = lb
                · rw [e]
                  exact hl3.trans HLB1.out.symm
                · exact HT3.out.block x hx fun h => by
                    rcases h with h | h
                    · exact hn h
                    · exact e h
            · have hv : errV true = .iface 24 (.int .i64 5) := rfl
              rw [hv]
              have HR := Lib.hid hr
              clear hr hv
              go_wp2_with fail
              go_ret
              refine ⟨append_turn HAL.out HK1.out HT3.out, .inr ⟨0, V1, ?_, HST.out, HR.out, rfl, HD3.out.less fun x hx => .inl hx, ?_⟩⟩
              · rw [HSN.out]; exact hlt
              · have := HLB3.out
                rw [HR.out] at this
                exact this
    · have hkn : k = n := by omega
      have hx0 := HBX1.out
      have c4 : wr.cell? ⟨lb, 4, none⟩ = some (.int .i64 L.cnt) := HLB1.out.cell 4
      have c5 : wr.cell? ⟨lb, 5, none⟩ = some (.int .i64 L.used) := HLB1.out.cell 5
      have f4 := HLB1.out.frozen 4
      have f5 := HLB1.out.frozen 5
      have hne : ¬ lb = w.heap.size := fun e => by have := HX.out.lt lb klb; omega
      have hfin : Blk ((wr.setCell ⟨lb, 5, none⟩ (.int .i64 ((L.used : Int) + n))).setCell ⟨lb, 4, none⟩ (.int .i64 ((L.cnt : Int) + 1))) lb 105 (L.add n).cells := by
        have := (HLB1.out.set_ 5 (.int .i64 ((L.used : Int) + n))).set_ 4 (.int .i64 ((L.cnt : Int) + 1))
        have e2 : (L.add n).cells = (L.cells.set 5 (.int .i64 ((L.used : Int) + n))).set 4 (.int .i64 ((L.cnt : Int) + 1)) := by
          unfold LV.add LV.cells
          simp
        rw [e2]
        exact this
      have hdf := (HD1.out.turnK (turn_at wr lb 5 (.int .i64 ((L.used : Int) + n))) (fun x hx => .inl (hx ▸ .inl klb))).turnK (turn_at _ lb 4 (.int .i64 ((L.cnt : Int) + 1))) (fun x hx => .inl (hx ▸ .inl klb))
      have htf : Turn (fun x => ¬ (K x ∨ x = w.heap.size) ∨ x = lb) wr ((wr.setCell ⟨lb, 5, none⟩ (.int .i64 ((L.used : Int) + n))).setCell ⟨lb, 4, none⟩ (.int .i64 ((L.cnt : Int) + 1))) :=
        ((turn_at wr lb 5 (.int .i64 ((L.used : Int) + n))).trans (turn_at _ lb 4 (.int .i64 ((L.cnt : Int) + 1))) fun x hx => .inl hx).mono fun x hx => .inr hx
      have HFIN := Lib.hid (And.intro hfin (And.intro hdf htf))
      clear hfin hdf htf
      subst hkn
      go_wp2_with fail
      go_ret
      refine ⟨append_turn HAL.out HK1.out HFIN.out.2.2, .inl ⟨rfl, V1, ?_, HFIN.out.2.1.less fun x hx => .inl hx, ?_⟩⟩
      · rw [HSN.out]; exact HST.out
      · rw [HSN.out]; exact HFIN.out.1
end Go.Proofs.YteediemhcocgdaaDoor
