/-
  What a log's area holds behind a loss of power: the plain law.
-/
import Derived.Test.YteediemhcocgdaaDoorWalUse
import Derived.Test.YteediemhcocgdaaDoorDiskPlain
namespace Go.Proofs.YteediemhcocgdaaDoor
open Go.RowKit
open WalP (Stamp secs readR parse)

/-- Bytes of which no epoch from k on is told. -/
def low (k : Nat) (l : List UInt8) : Prop := ∀ st p, readR l = some (st, p) → st.e < k
theorem low_zero {k : Nat} (h : 1 ≤ k) : low k z512 := fun st p hr => by
  have := readR_zero hr
  omega
theorem low.more {k k' : Nat} {l : List UInt8} (h : low k l) (hk : k ≤ k') : low k' l := fun st p hr => by
  have := h st p hr
  omega
theorem low_sect {L : LV} {b : List UInt8} {j : Nat} (hb : b.length ≤ 262144) (hj : j < secs b.length) (hep : L.ep < 2 ^ 48) (hc : L.cnt < 2 ^ 32) : low (L.ep + 1) (sect L b j) := fun st p hr => by
  have hsM : secs b.length ≤ 533 := by unfold secs; split <;> omega
  unfold sect at hr
  rw [readR_bytes (lst_ L b j) ⟨hep, hc, by show j < 2 ^ 16; omega, by show secs b.length < 2 ^ 16; omega, by show (part b j).length < 2 ^ 16; have := part_le b j; omega⟩ _ (part_le b j) rfl] at hr
  cases hr
  show L.ep < L.ep + 1
  omega

theorem NoEp.of_low {V : DV} {ep frm many : Nat} (h : ∀ x l, V.may x l → low ep l) (hs : V.sound) : NoEp ep frm many 0 V := fun i _ _ st p hr => by
  have hm : V.may ((frm + i : Nat) : Int) (V.now ((frm + i : Nat) : Int)) := by
    rw [hs]
    rcases laidW_may V.safe V.wait ((frm + i : Nat) : Int) with h | h
    · exact .inl h
    · exact .inr h
  have := h _ _ hm st p hr
  omega
/-! ### Scans -/
theorem scan_le {ep : Nat} {F : Nat → List UInt8} {U : Nat} {t : Scan} (h : scanTo ep F U = some t) : ∀ {K : Nat}, K ≤ U → ∃ s, scanTo ep F K = some s ∧ s.out <+: t.out := by
  induction U generalizing t with
  | zero =>
    intro K hK
    obtain rfl : K = 0 := by omega
    exact ⟨t, h, List.prefix_refl _⟩
  | succ U ih =>
    intro K hK
    by_cases e : K = U + 1
    · subst e
      exact ⟨t, h, List.prefix_refl _⟩
    · have h' := h
      unfold scanTo at h'
      rw [Option.bind_eq_some_iff] at h'
      obtain ⟨u, hu, hs⟩ := h'
      obtain ⟨s, h1, h2⟩ := ih hu (K := K) (by omega)
      refine ⟨s, h1, h2.trans ?_⟩
      unfold scan1 at hs
      split at hs
      · cases hs
      · split at hs
        · split at hs
          · split at hs
            · cases hs
            · cases hs
              exact List.prefix_refl _
          · split at hs
            · cases hs
              exact List.prefix_append _ _
            · cases hs
        · cases hs
theorem scan1_ep {ep i : Nat} {l : List UInt8} {s t : Scan} (h : scan1 ep i l s = some t) : ∃ st p, readR l = some (st, p) ∧ st.e = ep := by
  unfold scan1 at h
  split at h
  · cases h
  · rename_i st p hr
    split at h
    · rename_i hf
      exact ⟨st, p, hr, hf.1⟩
    · cases h
theorem scan1_low {ep i : Nat} {l : List UInt8} {s : Scan} (h : low ep l) : scan1 ep i l s = none := by
  rcases hx : scan1 ep i l s with _ | t
  · rfl
  · obtain ⟨st, p, hr, he⟩ := scan1_ep hx
    have := h st p hr
    omega
/-- What is found where each sector is as it was laid, or an older one. -/
theorem found_power {ep : Nat} {F g : Nat → List UInt8} {U many : Nat} {t : Scan} (h : scanTo ep F U = some t) (hU : U ≤ many) (hg : ∀ j, j < many → (j < U ∧ g j = F j) ∨ low ep (g j)) :
    (found ep g many).out <+: t.out ∧ ∀ U0 s0, U0 ≤ U → scanTo ep F U0 = some s0 → (∀ j, j < U0 → g j = F j) → s0.out <+: (found ep g many).out := by
  have key : ∃ K, K ≤ U ∧ (∀ j, j < K → g j = F j) ∧ (K = U ∨ g K ≠ F K) := by
    clear hg h
    induction U with
    | zero => exact ⟨0, Nat.le_refl _, fun j hj => by omega, .inl rfl⟩
    | succ U ih =>
      obtain ⟨K, h1, h2, h3⟩ := ih (by omega)
      rcases h3 with h3 | h3
      · subst h3
        by_cases e : g K = F K
        · exact ⟨K + 1, Nat.le_refl _, fun j hj => by
            by_cases e2 : j = K
            · rw [e2]; exact e
            · exact h2 j (by omega), .inl rfl⟩
        · exact ⟨K, by omega, h2, .inr e⟩
      · exact ⟨K, by omega, h2, .inr h3⟩
  obtain ⟨K, hK, heq, hend⟩ := key
  obtain ⟨s, hs, hpre⟩ := scan_le h hK
  have hsg : scanTo ep g K = some s := (scanTo_congr K heq).trans hs
  have hf : found ep g many = s := by
    by_cases e : K = many
    · rw [← e]; exact found_all hsg
    · refine found_cut hsg ?_ (by omega)
      unfold scanTo
      rw [hsg, Option.bind_some]
      refine scan1_low ?_
      rcases hg K (by omega) with ⟨h1, h2⟩ | h1
      · rcases hend with h3 | h3
        · omega
        · exact absurd h2 h3
      · exact h1
  rw [hf]
  refine ⟨hpre, fun U0 s0 hU0 hs0 h0 => ?_⟩
  by_cases hlt : K < U0
  · rcases hend with h3 | h3
    · omega
    · exact absurd (h0 K hlt) h3
  · obtain ⟨s1, h1, h2⟩ := scan_le hs (K := U0) (by omega)
    rw [hs0] at h1
    cases h1
    exact h2

/-! ### Acts -/
theorem act_put {V : DV} {x : Int} {l : List UInt8} (r : Bool × DV) (hr : V.act (fun X => X.put x l) = r) :
    r.2.n = V.n ∧ (V.sound → r.2.sound) ∧ (∀ y m, r.2.may y m → V.may y m ∨ (y = x ∧ m = l)) ∧ r.2.wait.length ≤ V.wait.length + 1 ∧ (r.1 = false → r.2.down = V.down ∧ r.2.now = fun y => if y = x then l else V.now y) := by
  subst hr
  rcases ha : V.armed with _ | _
  · rw [act_free ha]
    exact ⟨rfl, fun h => DV.sound_put h x l, fun y m h => may_put h, by simp [DV.put], fun _ => ⟨rfl, rfl⟩⟩
  · by_cases h0 : V.acts = 0
    · rw [act_down ha h0]
      rcases hd : V.done with _ | _
      · exact ⟨rfl, fun h => h, fun y m h => .inl h, Nat.le_succ _, fun h => by cases h⟩
      · exact ⟨rfl, fun h => DV.sound_put h x l, fun y m h => may_put (V := V) h, by simp [DV.put], fun h => by cases h⟩
    · rw [act_less ha h0]
      exact ⟨rfl, fun h => DV.sound_put h x l, fun y m h => may_put (V := V) h, by simp [DV.put], fun _ => ⟨rfl, rfl⟩⟩
theorem act_sync {V : DV} (r : Bool × DV) (hr : V.act DV.sync = r) (hs : V.sound) :
    r.2.n = V.n ∧ r.2.sound ∧ (∀ y m, r.2.may y m → V.may y m) ∧ r.2.wait.length ≤ V.wait.length ∧ (r.1 = false → r.2.down = V.down ∧ r.2.now = V.now ∧ ∀ y m, r.2.may y m → m = V.now y) := by
  subst hr
  rcases ha : V.armed with _ | _
  · rw [act_free ha]
    exact ⟨rfl, DV.sound_sync hs, fun y m h => (may_sync hs h).2, Nat.zero_le _, fun _ => ⟨rfl, rfl, fun y m h => (may_sync hs h).1⟩⟩
  · by_cases h0 : V.acts = 0
    · rw [act_down ha h0]
      rcases hd : V.done with _ | _
      · exact ⟨rfl, hs, fun y m h => h, Nat.le_refl _, fun h => by cases h⟩
      · exact ⟨rfl, DV.sound_sync hs, fun y m h => (may_sync hs (x := y) (l := m) h).2, Nat.zero_le _, fun h => by cases h⟩
    · rw [act_less ha h0]
      exact ⟨rfl, DV.sound_sync hs, fun y m h => (may_sync hs (x := y) (l := m) h).2, Nat.zero_le _, fun _ => ⟨rfl, rfl, fun y m h => (may_sync hs (x := y) (l := m) h).1⟩⟩
/-- What so many sectors written leave. -/
theorem steps_may {L : LV} {b : List UInt8} {V : DV} : ∀ (k : Nat) (V' : DV), Steps L b V k V' → (V.sound → V'.sound) ∧ (∀ x l, V'.may x l → V.may x l ∨ ∃ j, j < k ∧ x = ((L.frm + L.used + j : Nat) : Int) ∧ l = sect L b j) ∧
    (∀ j, j < k → V'.now ((L.frm + L.used + j : Nat) : Int) = sect L b j) ∧ ∀ x : Int, (x < (L.frm + L.used : Nat) ∨ (L.frm + L.used + k : Nat) ≤ x) → V'.now x = V.now x
  | 0, V', h => by cases h; exact ⟨id, fun x l h => .inl h, fun j hj => by omega, fun x _ => rfl⟩
  | k + 1, V', h => by
    obtain ⟨V1, h1, h2⟩ := h
    obtain ⟨a1, a2, a3, a4⟩ := steps_may k V1 h1
    obtain ⟨b1, b2, b3, b4, b5⟩ := act_put _ h2
    obtain ⟨c1, c2⟩ := b5 rfl
    refine ⟨fun h => b2 (a1 h), fun x l h => ?_, fun j hj => ?_, fun x hx => ?_⟩
    · rcases b3 x l h with h | ⟨e1, e2⟩
      · exact (a2 x l h).imp id fun ⟨j, h1, h2, h3⟩ => ⟨j, by omega, h2, h3⟩
      · exact .inr ⟨k, by omega, e1, e2⟩
    · show V'.now _ = _
      rw [show V'.now = _ from c2]
      by_cases e : j = k
      · subst e; simp
      · show (if _ then _ else _) = _
        rw [if_neg (by omega)]; exact a3 j (by omega)
    · rw [show V'.now = _ from c2]
      show (if _ then _ else _) = _
      rw [if_neg (by omega)]
      exact a4 x (by omega)
theorem steps_free {L : LV} {b : List UInt8} {G : DV} (ha : G.armed = false) : ∀ k, ∃ G', Steps L b G k G'
  | 0 => ⟨G, rfl⟩
  | k + 1 => by
    obtain ⟨G1, h1⟩ := steps_free ha k
    obtain ⟨a1, _⟩ := steps_now ha k G1 h1
    exact ⟨_, G1, h1, by unfold wr1; rw [act_free a1]⟩

/-! ### A log whose disk may lose its power -/
/-- The records rs stand in what G reads, and each sector holds its own of them or something older; the first m0 records are certain. -/
structure PowD (V : DV) (L : LV) (rs : List (List UInt8)) (G : DV) (m0 : Nat) : Prop where
  laid : LaidL L G rs
  ga : G.armed = false
  may : ∀ j, j < L.many → ∀ l, V.may ((L.frm + j : Nat) : Int) l → (j < L.used ∧ l = G.now ((L.frm + j : Nat) : Int)) ∨ low L.ep l
  safe : ∃ U0 s0, U0 ≤ L.used ∧ scanTo L.ep (fun j => G.now ((L.frm + j : Nat) : Int)) U0 = some s0 ∧ m0 = s0.out.length ∧ ∀ j, j < U0 → ∀ l, V.may ((L.frm + j : Nat) : Int) l → l = G.now ((L.frm + j : Nat) : Int)
  lows : ∀ x l, V.may x l → low (L.ep + 1) l
/-- .. and what is read is just that. -/
structure Pow (V : DV) (L : LV) (rs : List (List UInt8)) (G : DV) (m0 : Nat) : Prop where
  d : PowD V L rs G m0
  now : ∀ j, j < L.used → V.now ((L.frm + j : Nat) : Int) = G.now ((L.frm + j : Nat) : Int)
  sound : V.sound
theorem PowD.append {V V' G : DV} {L : LV} {rs : List (List UInt8)} {m0 : Nat} (h : PowD V L rs G m0) (b : List UInt8) (ht : takes L b) (hep : L.ep < 2 ^ 48) (hm : L.many ≤ 1073741824)
    (hV : ∀ x l, V'.may x l → V.may x l ∨ ∃ j, j < secs b.length ∧ x = ((L.frm + L.used + j : Nat) : Int) ∧ l = sect L b j) : ∃ G', Steps L b G (secs b.length) G' ∧ PowD V' (L.add (secs b.length)) (rs ++ [b]) G' m0 := by
  obtain ⟨G', hst⟩ := steps_free (L := L) (b := b) h.ga (secs b.length)
  obtain ⟨a1, a2, a3⟩ := steps_now h.ga _ _ hst
  have hcnt : L.cnt < 2 ^ 32 := by have := h.laid.cu; have := h.laid.used; omega
  refine ⟨G', hst, h.laid.add b ht.1 ht.2 hep hm h.ga hst, a1, fun j hj l hl => ?_, ?_, fun x l hl => ?_⟩
  · rcases hV _ l hl with h1 | ⟨i, h1, h2, h3⟩
    · rcases h.may j hj l h1 with ⟨h4, h5⟩ | h4
      · refine .inl ⟨by show j < L.used + _; omega, ?_⟩
        show l = G'.now ((L.frm + j : Nat) : Int)
        rw [a3 _ (.inl (by omega))]
        exact h5
      · exact .inr h4
    · refine .inl ⟨?_, ?_⟩
      · have h2' : ((L.frm + j : Nat) : Int) = ((L.frm + L.used + i : Nat) : Int) := h2
        show j < L.used + _
        omega
      · have h2' : ((L.frm + j : Nat) : Int) = ((L.frm + L.used + i : Nat) : Int) := h2
        show l = G'.now ((L.frm + j : Nat) : Int)
        rw [h2', a2 i h1]
        exact h3
  · obtain ⟨U0, s0, h1, h2, h3, h4⟩ := h.safe
    have hsame : ∀ j, j < U0 → G'.now ((L.frm + j : Nat) : Int) = G.now ((L.frm + j : Nat) : Int) := fun j hj => a3 _ (.inl (by omega))
    refine ⟨U0, s0, by show U0 ≤ L.used + _; omega, ?_, h3, fun j hj l hl => ?_⟩
    · rw [← h2]
      exact scanTo_congr _ fun j hj => hsame j hj
    · show l = G'.now ((L.frm + j : Nat) : Int)
      rw [hsame j hj]
      rcases hV _ l hl with h5 | ⟨i, h5, h6, h7⟩
      · exact h4 j hj l h5
      · have h6' : ((L.frm + j : Nat) : Int) = ((L.frm + L.used + i : Nat) : Int) := h6
        omega
  · rcases hV x l hl with h1 | ⟨i, h1, h2, h3⟩
    · exact h.lows x l h1
    · have h4 : low (L.ep + 1) (sect L b i) := low_sect (L := L) (b := b) (j := i) ht.1 h1 hep hcnt
      rw [h3]
      exact h4
theorem Pow.append {V V' G : DV} {L : LV} {rs : List (List UInt8)} {m0 : Nat} (h : Pow V L rs G m0) (b : List UInt8) (ht : takes L b) (hep : L.ep < 2 ^ 48) (hm : L.many ≤ 1073741824) (hs : Steps L b V (secs b.length) V') : ∃ G', Pow V' (L.add (secs b.length)) (rs ++ [b]) G' m0 := by
  obtain ⟨s1, s2, s3, s4⟩ := steps_may _ _ hs
  obtain ⟨G', hst, hd⟩ := h.d.append b ht hep hm s2
  obtain ⟨a1, a2, a3⟩ := steps_now h.d.ga _ _ hst
  refine ⟨G', hd, fun j hj => ?_, s1 h.sound⟩
  have hj' : j < L.used + secs b.length := hj
  show V'.now ((L.frm + j : Nat) : Int) = G'.now ((L.frm + j : Nat) : Int)
  by_cases h1 : j < L.used
  · rw [s4 _ (.inl (by omega)), a3 _ (.inl (by omega))]
    exact h.now j h1
  · obtain ⟨i, rfl⟩ : ∃ i, j = L.used + i := ⟨j - L.used, by omega⟩
    have e : ((L.frm + (L.used + i) : Nat) : Int) = ((L.frm + L.used + i : Nat) : Int) := by omega
    rw [e, s3 i (by omega), a2 i (by omega)]
/-- The power goes within a record. -/
theorem Pow.broke {V V1 G : DV} {L : LV} {rs : List (List UInt8)} {m0 : Nat} (h : Pow V L rs G m0) (b : List UInt8) (ht : takes L b) (hep : L.ep < 2 ^ 48) (hm : L.many ≤ 1073741824) {k : Nat} (hk : k < secs b.length) (hs : Steps L b V k V1) : ∃ G', PowD (wr1 L b k V1).2 (L.add (secs b.length)) (rs ++ [b]) G' m0 := by
  obtain ⟨s1, s2, s3, s4⟩ := steps_may _ _ hs
  obtain ⟨b1, b2, b3, b4, b5⟩ := act_put _ (rfl : V1.act (fun X => X.put ((L.frm + L.used + k : Nat) : Int) (sect L b k)) = _)
  obtain ⟨G', _, hd⟩ := h.d.append (V' := (wr1 L b k V1).2) b ht hep hm fun x l hl => by
    rcases b3 x l hl with h1 | ⟨h1, h2⟩
    · exact (s2 x l h1).imp id fun ⟨j, h1, h2, h3⟩ => ⟨j, by omega, h2, h3⟩
    · exact .inr ⟨k, hk, h1, h2⟩
  exact ⟨G', hd⟩
/-- Synced: all are certain. -/
theorem Pow.synced {V V' G : DV} {L : LV} {rs : List (List UInt8)} {m0 : Nat} (h : Pow V L rs G m0) (hs : V.act DV.sync = (false, V')) : Pow V' L rs G rs.length := by
  obtain ⟨a1, a2, a3, a4, a5⟩ := act_sync _ hs h.sound
  obtain ⟨b1, b2, b3⟩ := a5 rfl
  obtain ⟨ps, hps⟩ := h.d.laid.scan
  refine ⟨⟨h.d.laid, h.d.ga, fun j hj l hl => h.d.may j hj l (a3 _ _ hl), ⟨L.used, _, Nat.le_refl _, hps, rfl, fun j hj l hl => ?_⟩, fun x l hl => h.d.lows x l (a3 _ _ hl)⟩, fun j hj => ?_, a2⟩
  · rw [b3 _ _ hl]
    exact h.now j hj
  · show V'.now _ = _
    rw [show V'.now = _ from b2]
    exact h.now j hj
theorem Pow.unsynced {V G : DV} {L : LV} {rs : List (List UInt8)} {m0 : Nat} (h : Pow V L rs G m0) : PowD (V.act DV.sync).2 L rs G m0 := by
  obtain ⟨a1, a2, a3, a4, a5⟩ := act_sync _ (rfl : V.act DV.sync = _) h.sound
  obtain ⟨U0, s0, h1, h2, h3, h4⟩ := h.d.safe
  exact ⟨h.d.laid, h.d.ga, fun j hj l hl => h.d.may j hj l (a3 _ _ hl), ⟨U0, s0, h1, h2, h3, fun j hj l hl => h4 j hj l (a3 _ _ hl)⟩, fun x l hl => h.d.lows x l (a3 _ _ hl)⟩
/-- Behind a loss of power: a beginning is found, with all that are certain. -/
theorem PowD.found {V G : DV} {L : LV} {rs : List (List UInt8)} {m0 : Nat} (h : PowD V L rs G m0) (keep : List Bool) :
    (found L.ep (fun j => (V.crash keep).now ((L.frm + j : Nat) : Int)) L.many).out <+: rs ∧ m0 ≤ (Go.Proofs.YteediemhcocgdaaDoor.found L.ep (fun j => (V.crash keep).now ((L.frm + j : Nat) : Int)) L.many).out.length := by
  obtain ⟨ps, hps⟩ := h.laid.scan
  obtain ⟨f1, f2⟩ := found_power (g := fun j => (V.crash keep).now ((L.frm + j : Nat) : Int)) hps h.laid.used fun j hj => h.may j hj _ may_crash
  refine ⟨f1, ?_⟩
  obtain ⟨U0, s0, h1, h2, h3, h4⟩ := h.safe
  rw [h3]
  exact (f2 U0 s0 h1 h2 fun j hj => h4 j hj _ may_crash).length_le
/-- A new log on a disk on which all is older. -/
theorem Pow.start {V : DV} {db frm many ep : Nat} (hl : ∀ x l, V.may x l → low ep l) (hs : V.sound) (ha : V.armed = false) (V' : DV) (h1 : V'.now = V.now) (h2 : V'.safe = V.safe) (h3 : V'.wait = V.wait) : Pow V' ⟨db, frm, many, ep, 0, 0, false⟩ [] V 0 := by
  have hmay : ∀ x l, V'.may x l → V.may x l := fun x l h => by
    unfold DV.may at h ⊢
    rw [h2, h3] at h
    exact h
  refine ⟨⟨LaidL.fresh (NoEp.of_low hl hs), ha, fun j _ l h => .inr (hl _ l (hmay _ l h)), ⟨0, .start, Nat.zero_le _, rfl, rfl, fun j hj => by omega⟩, fun x l h => (hl x l (hmay x l h)).more (Nat.le_succ _)⟩, fun j hj => absurd hj (Nat.not_lt_zero _), ?_⟩
  unfold DV.sound at hs ⊢
  rw [h1, h2, h3]
  exact hs
theorem PowD.crashed {V G : DV} {L : LV} {rs : List (List UInt8)} {m0 : Nat} (h : PowD V L rs G m0) (keep : List Bool) : ∀ x l, (V.crash keep).may x l → low (L.ep + 1) l := fun x l hl => by
  rw [may_of_crash hl]
  exact h.lows x _ may_crash
end Go.Proofs.YteediemhcocgdaaDoor
