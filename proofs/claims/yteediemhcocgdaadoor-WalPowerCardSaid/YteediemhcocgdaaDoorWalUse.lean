import Derived.Test.YteediemhcocgdaaDoorWalSt
import Derived.Test.YteediemhcocgdaaDoorWalAppend
import Derived.Test.YteediemhcocgdaaDoorWalOpen
/-
  wal: what was appended is found: the plain law.
-/
namespace Go.Proofs.YteediemhcocgdaaDoor
open Go.RowKit
open WalP (Stamp secs readR parse)

theorem parse_body (s : Stamp) (hs : s.ok) (p : List UInt8) : parse (s.body p) = s := by
  obtain ⟨e, r, q, ps, l⟩ := s
  obtain ⟨h1, h2, h3, h4, h5⟩ := hs
  simp only at h1 h2 h3 h4 h5
  have d : ∀ n k j, k ≤ j → (SumP.be n k).drop j = [] := fun n k j hj => List.drop_of_length_le (by rw [SumP.be_length]; exact hj)
  have e1 : ((Stamp.body ⟨e, r, q, ps, l⟩ p).drop 0).take 6 = SumP.be e 6 := by simp [Stamp.body, Stamp.head, SumP.be_length]
  have e2 : ((Stamp.body ⟨e, r, q, ps, l⟩ p).drop 6).take 4 = SumP.be r 4 := by simp [Stamp.body, Stamp.head, SumP.be_length]
  have e3 : ((Stamp.body ⟨e, r, q, ps, l⟩ p).drop 10).take 2 = SumP.be q 2 := by simp [Stamp.body, Stamp.head, List.drop_append, SumP.be_length, d]
  have e4 : ((Stamp.body ⟨e, r, q, ps, l⟩ p).drop 12).take 2 = SumP.be ps 2 := by simp [Stamp.body, Stamp.head, List.drop_append, SumP.be_length, d]
  have e5 : ((Stamp.body ⟨e, r, q, ps, l⟩ p).drop 14).take 2 = SumP.be l 2 := by simp [Stamp.body, Stamp.head, List.drop_append, SumP.be_length, d]
  unfold parse
  rw [e1, e2, e3, e4, e5]
  simp only [SumP.rd_be]
  rw [Nat.mod_eq_of_lt h1, Nat.mod_eq_of_lt h2, Nat.mod_eq_of_lt h3, Nat.mod_eq_of_lt h4, Nat.mod_eq_of_lt h5]
theorem readR_bytes (s : Stamp) (hs : s.ok) (p : List UInt8) (hp : p.length ≤ 492) (hl : s.l = p.length) : readR (s.bytes p) = some (s, p) := by
  unfold readR Stamp.bytes
  rw [SumP.openR_sealed]
  simp only
  rw [parse_body s hs p, if_neg (by omega)]
  have hd : (s.body p).drop (16 + s.l) = List.replicate (492 - p.length) 0 := by
    unfold Stamp.body
    rw [List.drop_append, List.drop_of_length_le (by rw [List.length_append, WalP.head_length, hl]; omega), List.length_append, WalP.head_length, hl]
    simp
  have ht : ((s.body p).drop 16).take s.l = p := by
    unfold Stamp.body
    rw [List.append_assoc, List.drop_append, List.drop_of_length_le (by rw [WalP.head_length]; omega), WalP.head_length, hl]
    simp
  rw [hd, ht, if_pos (by simp)]
theorem readR_parse {l : List UInt8} {st : Stamp} {p : List UInt8} (h : readR l = some (st, p)) : st = parse (l.take (l.length - 4)) := by
  unfold readR at h
  split at h
  · cases h
  · rename_i m hm
    split at h
    · cases h
    · split at h
      · have h1 := congrArg Prod.fst (Option.some.inj h)
        unfold SumP.openR at hm
        split at hm
        · rw [Option.some.inj hm]
          exact h1.symm
        · cases hm
      · cases h
theorem rd_zeros (n : Nat) : SumP.rd (List.replicate n 0) = 0 := by
  unfold SumP.rd
  induction n with
  | zero => rfl
  | succ n ih => rw [List.replicate_succ, List.foldl_cons]; exact ih
theorem readR_zero {st : Stamp} {p : List UInt8} (h : readR z512 = some (st, p)) : st.e = 0 := by
  rw [readR_parse h]
  unfold parse
  simp only
  rw [List.drop_zero, List.take_take]
  unfold z512
  rw [List.take_replicate]
  exact rd_zeros _

/-- No sector of the area bears this epoch, from k on. -/
def NoEp (ep frm many k : Nat) (V : DV) : Prop := ∀ i, k ≤ i → i < many → ∀ st p, readR (V.now ((frm + i : Nat) : Int)) = some (st, p) → st.e ≠ ep
theorem steps_now {L : LV} {b : List UInt8} {V : DV} (ha : V.armed = false) : ∀ (k : Nat) (V' : DV), Steps L b V k V' → V'.armed = false ∧ (∀ j, j < k → V'.now ((L.frm + L.used + j : Nat) : Int) = sect L b j) ∧ ∀ x : Int, (x < (L.frm + L.used : Nat) ∨ (L.frm + L.used + k : Nat) ≤ x) → V'.now x = V.now x
  | 0, V', h => by cases h; exact ⟨ha, fun j hj => by omega, fun x _ => rfl⟩
  | k + 1, V', h => by
    obtain ⟨V1, h1, h2⟩ := h
    obtain ⟨a1, a2, a3⟩ := steps_now ha k V1 h1
    unfold wr1 at h2
    rw [act_free a1] at h2
    cases h2
    refine ⟨a1, fun j hj => ?_, fun x hx => ?_⟩
    · show (if _ then _ else _) = _
      by_cases hjk : j = k
      · subst hjk; rw [if_pos rfl]
      · rw [if_neg (by omega)]; exact a2 j (by omega)
    · show (if _ then _ else _) = _
      rw [if_neg (by omega)]
      exact a3 x (by omega)

/-- What lies in a log's area: the records rs, and nothing else that this epoch wrote. -/
structure LaidL (L : LV) (V : DV) (rs : List (List UInt8)) : Prop where
  cnt : L.cnt = rs.length
  used : L.used ≤ L.many
  cu : L.cnt ≤ L.used
  scan : ∃ ps, scanTo L.ep (fun k => V.now ((L.frm + k : Nat) : Int)) L.used = some ⟨rs, [], ps, 0, L.used⟩
  clean : NoEp L.ep L.frm L.many L.used V
theorem scanTo_congr {ep : Nat} {f g : Nat → List UInt8} : ∀ (k : Nat), (∀ j, j < k → f j = g j) → scanTo ep f k = scanTo ep g k
  | 0, _ => rfl
  | k + 1, h => by
    unfold scanTo
    rw [scanTo_congr k fun j hj => h j (by omega), h k (by omega)]
theorem LaidL.found {L : LV} {V : DV} {rs : List (List UInt8)} (h : LaidL L V rs) : (found L.ep (fun k => V.now ((L.frm + k : Nat) : Int)) L.many).out = rs ∧ (Go.Proofs.YteediemhcocgdaaDoor.found L.ep (fun k => V.now ((L.frm + k : Nat) : Int)) L.many).used = L.used := by
  obtain ⟨ps, hs⟩ := h.scan
  by_cases hu : L.used = L.many
  · rw [hu] at hs ⊢
    rw [found_all hs]
    exact ⟨rfl, rfl⟩
  · have hlt : L.used < L.many := Nat.lt_of_le_of_ne h.used hu
    have hn : scanTo L.ep (fun k => V.now ((L.frm + k : Nat) : Int)) (L.used + 1) = none := by
      unfold scanTo
      rw [hs, Option.bind_some]
      unfold scan1
      split
      · rfl
      · rename_i st p hr
        rw [if_neg fun hf => h.clean L.used (Nat.le_refl _) hlt st p hr hf.1]
    rw [found_cut hs hn hlt]
    exact ⟨rfl, rfl⟩
theorem part_take (b : List UInt8) (j : Nat) : b.take (j * 492) ++ part b j = b.take ((j + 1) * 492) := by
  unfold part
  rw [show (j + 1) * 492 = j * 492 + 492 by omega, List.take_add]
theorem secs_spec {n : Nat} (h : n ≤ 262144) : 1 ≤ secs n ∧ n ≤ secs n * 492 ∧ (∀ j, j + 1 < secs n → (j + 1) * 492 ≤ n) := by
  unfold secs
  rw [if_neg (by omega)]
  refine ⟨by omega, by omega, fun j hj => by omega⟩
theorem LaidL.add {L : LV} {V V' : DV} {rs : List (List UInt8)} (h : LaidL L V rs) (b : List UInt8) (hb : b.length ≤ 262144) (hr : L.used + secs b.length ≤ L.many) (hep : L.ep < 2 ^ 48) (hm : L.many ≤ 1073741824) (ha : V.armed = false) (hs : Steps L b V (secs b.length) V') :
    LaidL (L.add (secs b.length)) V' (rs ++ [b]) := by
  obtain ⟨s1, s2, s3⟩ := secs_spec hb
  obtain ⟨a1, a2, a3⟩ := steps_now ha _ _ hs
  have hsM : secs b.length ≤ 533 := by unfold secs; split <;> omega
  have hok : ∀ j, j < secs b.length → (lst_ L b j).ok := fun j hj => ⟨hep, by show L.cnt < 2 ^ 32; have := h.cu; have := h.used; omega, by show j < 2 ^ 16; omega, by show secs b.length < 2 ^ 16; omega, by show (part b j).length < 2 ^ 16; have := part_le b j; omega⟩
  have hrd : ∀ j, j < secs b.length → readR (V'.now ((L.frm + (L.used + j) : Nat) : Int)) = some (lst_ L b j, part b j) := fun j hj => by
    have := a2 j hj
    rw [Nat.add_assoc] at this
    rw [this]
    exact readR_bytes _ (hok j hj) _ (part_le b j) rfl
  have h0 : ∃ ps, scanTo L.ep (fun k => V'.now ((L.frm + k : Nat) : Int)) L.used = some ⟨rs, [], ps, 0, L.used⟩ := by
    obtain ⟨ps, hs0⟩ := h.scan
    refine ⟨ps, ?_⟩
    rw [← hs0]
    exact scanTo_congr _ fun j hj => a3 _ (.inl (by omega))
  have hj : ∀ j, j < secs b.length → ∃ ps, scanTo L.ep (fun k => V'.now ((L.frm + k : Nat) : Int)) (L.used + j) = some ⟨rs, b.take (j * 492), ps, j, L.used⟩ ∧ (0 < j → ps = secs b.length) := by
    intro j
    induction j with
    | zero =>
      intro _
      obtain ⟨ps, hs0⟩ := h0
      exact ⟨ps, by simpa using hs0, by omega⟩
    | succ j ih =>
      intro hj
      obtain ⟨ps, hs1, hs2⟩ := ih (by omega)
      refine ⟨secs b.length, ?_, fun _ => rfl⟩
      have hps : Scan.ps ⟨rs, b.take (j * 492), ps, j, L.used⟩ (lst_ L b j) = secs b.length := by
        unfold Scan.ps
        simp only
        split
        · rfl
        · exact hs2 (by omega)
      rw [← Nat.add_assoc]
      unfold scanTo
      rw [hs1, Option.bind_some]
      unfold scan1
      rw [hrd j (by omega)]
      simp only
      rw [if_pos ⟨rfl, h.cnt, rfl, hps.symm, by rw [hps]; show j < _; omega⟩, hps, if_pos (by show j + 1 < _; omega), if_neg (by
        show ¬ (part b j).length < 492
        have := s3 j hj
        unfold part
        rw [List.length_take, List.length_drop]
        omega), part_take]
  obtain ⟨ps, hl1, hl2⟩ := hj (secs b.length - 1) (by omega)
  have hps : Scan.ps ⟨rs, b.take ((secs b.length - 1) * 492), ps, secs b.length - 1, L.used⟩ (lst_ L b (secs b.length - 1)) = secs b.length := by
    unfold Scan.ps
    simp only
    split
    · rfl
    · exact hl2 (by omega)
  refine ⟨by show L.cnt + 1 = _; rw [h.cnt]; simp, hr, by show L.cnt + 1 ≤ L.used + _; have := h.cu; omega, ⟨secs b.length, ?_⟩, ?_⟩
  · show scanTo L.ep _ (L.used + secs b.length) = _
    rw [show L.used + secs b.length = L.used + (secs b.length - 1) + 1 by omega]
    unfold scanTo
    have hl1' := hl1
    show (scanTo L.ep (fun k => V'.now ((L.frm + k : Nat) : Int)) _).bind _ = _
    rw [hl1', Option.bind_some]
    unfold scan1
    show (match readR (V'.now ((L.frm + (L.used + (secs b.length - 1)) : Nat) : Int)) with | none => none | some (st, b) => _) = _
    rw [hrd _ (by omega)]
    simp only
    rw [if_pos ⟨rfl, h.cnt, rfl, hps.symm, by rw [hps]; show secs b.length - 1 < _; omega⟩, hps, if_neg (by show ¬ (secs b.length - 1 + 1 < _); omega), part_take,
      List.take_of_length_le (by rw [show secs b.length - 1 + 1 = secs b.length by omega]; exact s2), if_pos rfl,
      show L.used + (secs b.length - 1) + 1 = L.used + secs b.length by omega]
    rfl
  · intro i hi hi2 st p hrr
    have := a3 ((L.frm + i : Nat) : Int) (.inr (by have : L.used + secs b.length ≤ i := hi; omega))
    rw [show (LV.add L (secs b.length)).frm = L.frm from rfl, this] at hrr
    exact h.clean i (by have : L.used + secs b.length ≤ i := hi; omega) hi2 st p hrr
end Go.Proofs.YteediemhcocgdaaDoor

/-
  wal's Open refused; Open of an area in which nothing of its epoch stands.
-/
namespace Go.Proofs.YteediemhcocgdaaDoor
open Go.RowKit
open WalP (Stamp secs readR)

set_option maxHeartbeats 2000000 in
set_option maxRecDepth 100000 in
theorem wopen_bad {K : Nat → Prop} {w : World} {bb : Nat} {V : DV} (h : Dk K w bb V) (db frm many : Nat) (ep : Int) (hdb : w.cell? ⟨db, 0, none⟩ = some (.pointer (some ⟨bb, 0, none⟩)))
    (hm1 : 1 ≤ many) (hfn : ((frm + many : Nat) : Int) ≤ V.n) (hbad : ep < 1 ∨ 1099511627776 < ep) :
    Calls Tryd.prog 37 #[.pointer (some ⟨db, 0, none⟩), .int .i64 frm, .int .i64 many, .int .i64 ep] w
      fun e w' => e = .returned (.tuple #[.pointer none, .slice none 0 0, .iface 24 (.int .i64 1)]) ∧ Below w.heap.size w w' := by
  have hM := h.ok.2.2.2
  have hV0 := h.cell0
  have hwr : IntKind.i64.wrap (V.n - (frm : Int)) = V.n - frm := IntWalk.i64_in _ (by omega)
  have hdb1 : (w.alloc (.cells #[.int .i64 ep] 3)).cell? ⟨db, 0, none⟩ = some (.pointer (some ⟨bb, 0, none⟩)) := (World.cell?_alloc_lt _ _ _ (cell_lt hdb)).trans hdb
  have hV1 : (w.alloc (.cells #[.int .i64 ep] 3)).cell? ⟨bb, 0, none⟩ = some (.int .i64 V.n) := (World.cell?_alloc_lt _ _ _ (cell_lt hV0)).trans hV0
  have hc1 : ¬ (frm : Int) < 0 := by omega
  have hc2 : ¬ (many : Int) < 1 := by omega
  have hc3 : ¬ V.n < (frm : Int) := by omega
  have hc4 : ¬ V.n - (frm : Int) < (many : Int) := by omega
  have hal : Below w.heap.size w (w.alloc (.cells #[.int .i64 ep] 3)) := (Below.refl _ _).alloc (Nat.le_refl _) _
  clear h
  by_cases hc5 : ep < 1
  · clear hbad
    go_enter Tryd.func37, Tryd.ntmps37
    go_wp2_with fail
    refine (sectors_any db bb V.n _ hdb1 hV1).mono ?_
    rintro e w1 ⟨rfl, rfl⟩
    go_wp2_with fail
    exact bodyPost_ret (v := .tuple #[.pointer none, .slice none 0 0, .iface 24 (.int .i64 1)]) (by simp [results, Tryd.results37, go_sem]) rfl ⟨rfl, hal⟩
  · have hc6 : 1099511627776 < ep := hbad.resolve_left hc5
    clear hbad
    go_enter Tryd.func37, Tryd.ntmps37
    go_wp2_with fail
    refine (sectors_any db bb V.n _ hdb1 hV1).mono ?_
    rintro e w1 ⟨rfl, rfl⟩
    go_wp2_with fail
    exact bodyPost_ret (v := .tuple #[.pointer none, .slice none 0 0, .iface 24 (.int .i64 1)]) (by simp [results, Tryd.results37, go_sem]) rfl ⟨rfl, hal⟩

theorem found_clean {ep frm many : Nat} {V : DV} (h : NoEp ep frm many 0 V) (hm : 1 ≤ many) : found ep (fun k => V.now ((frm + k : Nat) : Int)) many = .start := by
  refine found_cut (k := 0) rfl ?_ (by omega)
  show (scan1 ep 0 _ .start) = none
  unfold scan1
  split
  · rfl
  · rename_i st p hr
    rw [if_neg fun hf => h 0 (Nat.le_refl _) (by omega) st p hr hf.1]
theorem LaidL.fresh {db ep frm many : Nat} {V : DV} (h : NoEp ep frm many 0 V) : LaidL ⟨db, frm, many, ep, 0, 0, false⟩ V [] :=
  ⟨rfl, Nat.zero_le _, Nat.le_refl _, ⟨0, rfl⟩, h⟩
theorem NoEp.new (ep frm many : Nat) (n : Int) (h : 1 ≤ ep) : NoEp ep frm many 0 (DV.new n) := fun i _ _ st p hr => by
  have := readR_zero hr
  omega
/-- Another epoch's log writes. -/
theorem NoEp.steps {L : LV} {b : List UInt8} {V V' : DV} {ep frm many : Nat} (h : NoEp ep frm many 0 V) (hne : L.ep ≠ ep) (hb : b.length ≤ 262144) (hep : L.ep < 2 ^ 48) (hc : L.cnt < 2 ^ 32) (ha : V.armed = false) (hs : Steps L b V (secs b.length) V') : NoEp ep frm many 0 V' := by
  obtain ⟨s1, s2, s3⟩ := secs_spec hb
  have hsM : secs b.length ≤ 533 := by unfold secs; split <;> omega
  obtain ⟨a1, a2, a3⟩ := steps_now ha _ _ hs
  intro i _ hi st p hr
  by_cases hin : L.frm + L.used ≤ frm + i ∧ frm + i < L.frm + L.used + secs b.length
  · obtain ⟨j, hj⟩ : ∃ j, frm + i = L.frm + L.used + j := ⟨frm + i - (L.frm + L.used), by omega⟩
    have hj2 : j < secs b.length := by omega
    rw [hj, a2 j hj2] at hr
    unfold sect at hr
    rw [readR_bytes (lst_ L b j) ⟨hep, hc, by show j < 2 ^ 16; omega, by show secs b.length < 2 ^ 16; omega, by show (part b j).length < 2 ^ 16; have := part_le b j; omega⟩ _ (part_le b j) rfl] at hr
    cases hr
    exact hne
  · rw [a3 _ (by omega)] at hr
    exact h i (Nat.zero_le _) hi st p hr
end Go.Proofs.YteediemhcocgdaaDoor

/-
  wal's Log: Append refused.
-/
namespace Go.Proofs.YteediemhcocgdaaDoor
open Go.RowKit
open WalP (Stamp secs)

set_option maxRecDepth 100000 in
theorem append_long (L : LV) (lb : Nat) (A : Option Addr) (c n : Nat) (w : World) (hlb : Blk w lb 105 L.cells) (hdead : L.dead = false) (hn : 262144 < n) (hn2 : n ≤ 140737488355328) :
    Calls Tryd.prog 38 #[.pointer (some ⟨lb, 0, none⟩), .slice A n c] w fun e w' => e = .returned (.iface 24 (.int .i64 2)) ∧ Below w.heap.size w w' := by
  have d6 : w.cell? ⟨lb, 6, none⟩ = some (.bool false) := by have := hlb.cell 6; rw [← hdead]; exact this
  have hal0 : Below w.heap.size w (w.alloc (.cells #[.pointer (some ⟨lb, 0, none⟩)] 56)) := (Below.refl _ _).alloc (Nat.le_refl _) _
  have d6' : (w.alloc (.cells #[.pointer (some ⟨lb, 0, none⟩)] 56)).cell? ⟨lb, 6, none⟩ = some (.bool false) := (hal0.cell (p := ⟨lb, 6, none⟩) hlb.lt).trans d6
  have HA := Lib.hid hal0
  have hs : secs n = 0 := by unfold secs; rw [if_pos hn]
  have HS := Lib.hid hs
  clear hlb hs hal0
  go_enter Tryd.func38, Tryd.ntmps38
  go_wp2_with fail
  refine (sectors_any_ n _ hn2).mono ?_
  rintro e w1 ⟨rfl, rfl⟩
  rw [HS.out]
  go_wp2_with fail
  go_ret
  exact ⟨rfl, HA.out⟩

set_option maxRecDepth 100000 in
theorem append_full (L : LV) (lb : Nat) (A : Option Addr) (c n : Nat) (w : World) (hlb : Blk w lb 105 L.cells) (hdead : L.dead = false) (hn : n ≤ 262144) (hm : L.many ≤ 1099511627776) (hu : L.used ≤ 1099511627776) (hroom : L.many < L.used + secs n) :
    Calls Tryd.prog 38 #[.pointer (some ⟨lb, 0, none⟩), .slice A n c] w fun e w' => e = .returned (.iface 24 (.int .i64 121)) ∧ Below w.heap.size w w' := by
  have d6 : w.cell? ⟨lb, 6, none⟩ = some (.bool false) := by have := hlb.cell 6; rw [← hdead]; exact this
  have hal0 : Below w.heap.size w (w.alloc (.cells #[.pointer (some ⟨lb, 0, none⟩)] 56)) := (Below.refl _ _).alloc (Nat.le_refl _) _
  have d6' : (w.alloc (.cells #[.pointer (some ⟨lb, 0, none⟩)] 56)).cell? ⟨lb, 6, none⟩ = some (.bool false) := (hal0.cell (p := ⟨lb, 6, none⟩) hlb.lt).trans d6
  have hsec1 : 1 ≤ secs n ∧ secs n ≤ 533 := by unfold secs; rw [if_neg (by omega)]; omega
  have HA := Lib.hid hal0
  have HL0 := Lib.hid (hlb.below hal0 hlb.lt)
  clear hlb hal0
  go_enter Tryd.func38, Tryd.ntmps38
  go_wp2_with fail
  refine (sectors_any_ n _ (by omega)).mono ?_
  rintro e w1 ⟨rfl, rfl⟩
  generalize secs n = m at *
  go_wp2_with fail
  refine (room_any L lb _ HL0.out hm hu).mono ?_
  rintro e w2 ⟨rfl, nd, rfl⟩
  go_wp2_with fail
  go_ret
  exact ⟨rfl, below_drewN HA.out nd⟩

set_option maxRecDepth 100000 in
theorem append_dead (L : LV) (lb : Nat) (A : Option Addr) (c n : Nat) (w : World) (hlb : Blk w lb 105 L.cells) (hdead : L.dead = true) (hn2 : n ≤ 140737488355328) :
    Calls Tryd.prog 38 #[.pointer (some ⟨lb, 0, none⟩), .slice A n c] w fun e w' => e = .returned (.iface 24 (.int .i64 122)) ∧ Below w.heap.size w w' := by
  have d6 : w.cell? ⟨lb, 6, none⟩ = some (.bool true) := by have := hlb.cell 6; rw [← hdead]; exact this
  have hal0 : Below w.heap.size w (w.alloc (.cells #[.pointer (some ⟨lb, 0, none⟩)] 56)) := (Below.refl _ _).alloc (Nat.le_refl _) _
  have d6' : (w.alloc (.cells #[.pointer (some ⟨lb, 0, none⟩)] 56)).cell? ⟨lb, 6, none⟩ = some (.bool true) := (hal0.cell (p := ⟨lb, 6, none⟩) hlb.lt).trans d6
  have HA := Lib.hid hal0
  clear hlb hal0
  go_enter Tryd.func38, Tryd.ntmps38
  go_wp2_with fail
  refine (sectors_any_ n _ hn2).mono ?_
  rintro e w1 ⟨rfl, rfl⟩
  generalize secs n = m at *
  go_wp2_with fail
  go_ret
  exact ⟨rfl, HA.out⟩
end Go.Proofs.YteediemhcocgdaaDoor

/-
  A log in use, on a disk that is not armed: Append whatever comes.
-/
namespace Go.Proofs.YteediemhcocgdaaDoor
open Go.RowKit
open WalP (Stamp secs readR)

/-- A log L at lb, over a disk with view V at bb; the records rs lie in its area. -/
structure Lg (K : Nat → Prop) (w : World) (bb : Nat) (V : DV) (lb : Nat) (L : LV) (rs : List (List UInt8)) : Prop where
  dk : Dk K w bb V
  lg : Blk w lb 105 L.cells
  db : w.cell? ⟨L.db, 0, none⟩ = some (.pointer (some ⟨bb, 0, none⟩))
  nib : Nib w
  w0 : 0 < w.heap.size
  laid : LaidL L V rs
  many : L.many ≤ 1073741824
  fits : ((L.frm + L.many : Nat) : Int) ≤ V.n
  ep : L.ep < 2 ^ 48
  dead : L.dead = false
  armed : V.armed = false
  down : V.down = false
  kl : K lb
  kd : K L.db
  k0 : K 0
def takes (L : LV) (b : List UInt8) : Prop := b.length ≤ 262144 ∧ L.used + secs b.length ≤ L.many
instance (L : LV) (b : List UInt8) : Decidable (takes L b) := by unfold takes; infer_instance
/-- What Append leaves. -/
def AppR (K : Nat → Prop) (w : World) (bb : Nat) (V : DV) (lb : Nat) (L : LV) (rs : List (List UInt8)) (b : List UInt8) (e : Ending) (w' : World) : Prop :=
  Turn (fun x => ¬ K x ∨ x = lb) w w' ∧
    ((takes L b ∧ e = .returned .nilIface ∧ ∃ V', Steps L b V (secs b.length) V' ∧ Lg K w' bb V' lb (L.add (secs b.length)) (rs ++ [b])) ∨
      (¬ takes L b ∧ e = .returned (.iface 24 (.int .i64 (if b.length ≤ 262144 then 121 else 2))) ∧ Lg K w' bb V lb L rs))
theorem Turn.nib {w w' : World} {fq : Nat → Prop} (h : Nib w) (ht : Turn fq w w') (h0 : 0 < w.heap.size) (hq : ¬ fq 0) : Nib w' := fun i hi => (World.cell?_of_block (ht.block 0 h0 hq)).trans (h i hi)
theorem Lg.keep {K : Nat → Prop} {w w' : World} {bb : Nat} {V : DV} {lb : Nat} {L : LV} {rs : List (List UInt8)} (h : Lg K w bb V lb L rs) (hb : Below w.heap.size w w') : Lg K w' bb V lb L rs :=
  ⟨h.dk.keep hb, h.lg.below hb h.lg.lt, (hb.cell (p := ⟨L.db, 0, none⟩) (cell_lt h.db)).trans h.db, h.nib.below hb h.w0, Nat.lt_of_lt_of_le h.w0 hb.size, h.laid, h.many, h.fits, h.ep, h.dead, h.armed, h.down, h.kl, h.kd, h.k0⟩
theorem app_v {K : Nat → Prop} {w : World} {bb : Nat} {V : DV} {lb : Nat} {L : LV} {rs : List (List UInt8)} (h : Lg K w bb V lb L rs) (B : Nat) (A : Option Addr) (c : Nat) (b : List UInt8)
    (hb : Byt w B A b) (hB : B ≤ w.heap.size) (hbc : b.length ≤ c) (hc63 : c ≤ 9223372036854775807) (hlen : b.length ≤ 140737488355328) (hl : V.wait.length ≤ 100000000) (kA : 0 < b.length → ∀ g, blkOf A = some g → K g) (hne : L.db ≠ lb) :
    Calls Tryd.prog 38 #[.pointer (some ⟨lb, 0, none⟩), .slice A b.length c] w (AppR K w bb V lb L rs b) := by
  have hM := h.dk.ok.2.2.2
  have hu := h.laid.used
  have hm := h.many
  by_cases h1 : b.length ≤ 262144
  · by_cases h2 : L.used + secs b.length ≤ L.many
    · refine (append_v h.dk L lb B A c b h.lg h.db hb hB hbc hc63 h.nib h.w0 h1 h2 h.fits h.ep (by have := h.laid.cu; omega) h.dead h.down hl h.kl h.kd kA h.k0).mono ?_
      rintro e w' ⟨ht, ⟨rfl, V', hs, hdk, hlg⟩ | ⟨k, V1, hk, hs, hbad, _⟩⟩
      · obtain ⟨a1, _⟩ := steps_now h.armed _ _ hs
        obtain ⟨n1, n2, _⟩ := steps_keeps _ _ hs
        refine ⟨ht, .inl ⟨⟨h1, h2⟩, rfl, V', hs, hdk, hlg, ?_, Turn.nib h.nib ht h.w0 fun hq => ?_, Nat.lt_of_lt_of_le h.w0 ht.size, h.laid.add b h1 h2 h.ep h.many h.armed hs, h.many, by rw [n1]; exact h.fits, h.ep, h.dead, a1, by rw [n2]; exact h.down, h.kl, h.kd, h.k0⟩⟩
        · exact (World.cell?_of_block (ht.block L.db (cell_lt h.db) fun hq => hq.elim (fun hn => hn h.kd) hne)).trans h.db
        · rcases hq with hn | e
          · exact hn h.k0
          · have h6 := h.nib 0 (by decide)
            have h7 := h.lg.cell 0
            rw [← e, h6] at h7
            cases h7
      · obtain ⟨a1, _⟩ := steps_now h.armed _ _ hs
        unfold wr1 at hbad
        rw [act_free a1] at hbad
        cases hbad
    · refine (append_full L lb A c b.length w h.lg h.dead h1 (by omega) (by omega) (by omega)).mono ?_
      rintro e w' ⟨rfl, hbel⟩
      exact ⟨Turn.of_below hbel |>.mono fun x hx => .inl fun hk => by have := h.dk.lt x hk; omega, .inr ⟨fun hh => h2 hh.2, by rw [if_pos h1], h.keep hbel⟩⟩
  · refine (append_long L lb A c b.length w h.lg h.dead (by omega) hlen).mono ?_
    rintro e w' ⟨rfl, hbel⟩
    exact ⟨Turn.of_below hbel |>.mono fun x hx => .inl fun hk => by have := h.dk.lt x hk; omega, .inr ⟨fun hh => h1 hh.1, by rw [if_neg h1], h.keep hbel⟩⟩
/-- Open of an area with what lies in it. -/
theorem lopen_v {K : Nat → Prop} {w : World} {bb : Nat} {V : DV} (h : Dk K w bb V) (L : LV) (rs : List (List UInt8)) (db : Nat) (hdb : w.cell? ⟨db, 0, none⟩ = some (.pointer (some ⟨bb, 0, none⟩)))
    (hn : Nib w) (h0 : 0 < w.heap.size) (hl : LaidL L V rs) (hm1 : 1 ≤ L.many) (hmM : L.many ≤ 1073741824) (hfn : ((L.frm + L.many : Nat) : Int) ≤ V.n) (he1 : 1 ≤ L.ep) (heM : L.ep ≤ 1099511627776) (hdn : V.down = false) :
    Calls Tryd.prog 37 #[.pointer (some ⟨db, 0, none⟩), .int .i64 L.frm, .int .i64 L.many, .int .i64 L.ep] w
      (OpenR w ⟨db, L.frm, L.many, L.ep, rs.length, L.used, false⟩ rs) := by
  have := wopen_v h db L.frm L.many L.ep hdb hn h0 hm1 hmM hfn he1 heM hdn
  obtain ⟨f1, f2⟩ := hl.found
  rw [f1, f2] at this
  exact this
theorem Lg.more {K K' : Nat → Prop} {w w' : World} {bb : Nat} {V : DV} {lb : Nat} {L : LV} {rs : List (List UInt8)} (h : Lg K w bb V lb L rs) (hb : Below w.heap.size w w') (hK : ∀ b, K' b → K b ∨ (w.heap.size ≤ b ∧ b < w'.heap.size)) (hK' : ∀ b, K b → K' b) : Lg K' w' bb V lb L rs :=
  ⟨h.dk.more hb hK, h.lg.below hb h.lg.lt, (hb.cell (p := ⟨L.db, 0, none⟩) (cell_lt h.db)).trans h.db, h.nib.below hb h.w0, Nat.lt_of_lt_of_le h.w0 hb.size, h.laid, h.many, h.fits, h.ep, h.dead, h.armed, h.down, hK' _ h.kl, hK' _ h.kd, hK' _ h.k0⟩
theorem Lg.less {K K' : Nat → Prop} {w : World} {bb : Nat} {V : DV} {lb : Nat} {L : LV} {rs : List (List UInt8)} (h : Lg K w bb V lb L rs) (hK : ∀ b, K' b → K b) (h1 : K' lb) (h2 : K' L.db) (h3 : K' 0) : Lg K' w bb V lb L rs :=
  ⟨h.dk.less hK, h.lg, h.db, h.nib, h.w0, h.laid, h.many, h.fits, h.ep, h.dead, h.armed, h.down, h1, h2, h3⟩
/-- What a log's turn leaves below. -/
theorem turn_below {K : Nat → Prop} {w w' : World} {lb B : Nat} (ht : Turn (fun x => ¬ K x ∨ x = lb) w w') (hB : B ≤ w.heap.size) (hK : ∀ b, b < B → K b ∧ b ≠ lb) : Below B w w' :=
  ⟨ht.os, ht.tape, ht.output, ht.size, fun b hb => ht.block b (by omega) fun h => h.elim (fun hn => hn (hK b hb).1) (hK b hb).2⟩
theorem turn_blk {K : Nat → Prop} {w w' : World} {lb g : Nat} {t : TypeId} {cs : List Value} (ht : Turn (fun x => ¬ K x ∨ x = lb) w w') (h : Blk w g t cs) (hK : K g) (hne : g ≠ lb) : Blk w' g t cs :=
  (ht.block g h.lt fun hn => hn.elim (fun hn => hn hK) hne).trans h
/-- A row among rows. -/
theorem RowsAt.at_ {W : World} {B Br : Nat} {v : Value} {ls : List (List UInt8)} (h : RowsAt W B Br v ls) (i : Nat) (hi : i < ls.length) :
    ∃ g cap A c, v = .slice (some ⟨g, 0, none⟩) ls.length cap ∧ W.cell? ⟨g, i, none⟩ = some (.slice A (ls.getD i []).length c) ∧ (ls.getD i []).length ≤ c ∧ c ≤ 9223372036854775807 ∧ Byt W W.heap.size A (ls.getD i []) := by
  obtain ⟨rs, rfl, h2, h3, h4⟩ := h
  rw [List.length_map] at hi
  obtain ⟨hl, (⟨hv, h0⟩ | ⟨g, cap, cur, hv, hg, hh, hc, hcM, hsz, htk⟩)⟩ := h2
  · omega
  · have hmem : rs[i] ∈ rs := List.getElem_mem hi
    have hget : ((rs.map (·.2.2)).getD i []) = rs[i].2.2 := by rw [List.getD_eq_getElem?_getD, List.getElem?_map, List.getElem?_eq_getElem hi]; rfl
    have ho := (h3 _ hmem).1
    have hle := ho.len_le
    refine ⟨g, cap, rs[i].1, rs[i].2.1, by rw [List.length_map]; exact hv, ?_, by rw [hget]; exact hle.1, hle.2, by rw [hget]; exact ho.byt⟩
    rw [cell_of_row W g i cur _ (0, 0) hh, hget]
    rw [Nat.mul_one] at htk
    have h5 : (cur.toList.take rs.length)[i]? = (rs.map rv)[i]? := by rw [htk]
    rw [List.getElem?_take_of_lt hi, List.getElem?_map, List.getElem?_eq_getElem hi] at h5
    rw [← Array.getElem?_toList, h5]
    rfl
end Go.Proofs.YteediemhcocgdaaDoor
