/-
  pager's Pool: Freeze.
-/
import Derived.Test.YteediemhcocgdaaDoorPoolDisk
import Derived.Test.YteediemhcocgdaaDoorKeys
import Derived.Test.YteediemhcocgdaaDoorMapR
namespace Go.Proofs.YteediemhcocgdaaDoor
open Go.RowKit
open HeapP (at_ IsHeap)

theorem Card.uniq {P : Int → Prop} {n m : Nat} (h : Card P n) (h2 : Card P m) : n = m := by
  obtain ⟨l, a1, a2, rfl⟩ := h
  obtain ⟨k, b1, b2, rfl⟩ := h2
  exact ((List.perm_ext_iff_of_nodup a1 b1).2 fun x => (a2 x).trans (b2 x).symm).length_eq
theorem Card.or_ {P Q R : Int → Prop} {n m : Nat} (h : Card P n) (h2 : Card Q m) (hd : ∀ x, P x → ¬ Q x) (hR : ∀ x, R x ↔ P x ∨ Q x) : Card R (n + m) := by
  obtain ⟨l, a1, a2, rfl⟩ := h
  obtain ⟨k, b1, b2, rfl⟩ := h2
  refine ⟨l ++ k, List.nodup_append.2 ⟨a1, b1, fun x hx y hy e => ?_⟩, fun x => ?_, by simp⟩
  · subst e
    exact hd x ((a2 x).1 hx) ((b2 x).1 hy)
  · rw [List.mem_append, hR, a2, b2]
theorem or_isSome {α : Type} (b : Bool) (o : Option α) : (b || o.isSome) = true ↔ b = true ∨ o ≠ none := by cases o <;> simp
/-- Other pages are frozen. -/
def PoolS.fz (S : PoolS) (g : Int → Bool) (n : Nat) : PoolS := { S with fr := g, fn := n }
theorem PoolAt.fzPut {w w1 : World} {p : Nat} {S : PoolS} {g : Int → Bool} {n m : Nat} {x : Int} (h : PoolAt w p (S.fz g n)) (hm : MapV w1 S.fb (mput (setF g) x (.bool true)) m) (hg : w.grownBy w1 (some S.fb)) : PoolAt w1 p (S.fz (fun y => if y = x then true else g y) m) := by
  have k1 : ∀ b, b < w.heap.size → b ≠ S.fb → w1.heap[b]? = w.heap[b]? := fun b hb hn => hg.block b hb fun e => hn (Option.some.inj e)
  rw [mput_set] at hm
  exact ⟨(k1 p h.blk.lt (blk_map h.fm h.blk)).trans h.blk, h.row.keep fun b hb => k1 b (h.row.lt b hb) fun e => h.row.ne_map h.fm (e ▸ hb), h.heap, h.tm.keep (k1 _ h.tm.lt h.tf), hm, h.lm.keep (k1 _ h.lm.lt fun e => h.fl e.symm),
    fun y b l hy => ⟨(k1 b (h.page y b l hy).1.lt (blk_map h.fm (h.page y b l hy).1)).trans (h.page y b l hy).1, (h.page y b l hy).2⟩, h.inj, h.tf, h.tl, h.fl⟩
/-- All that was taken or left is forgotten. -/
def PoolS.forget (S : PoolS) : PoolS := { S with pg := fun _ => none, tn := 0, lf := fun _ => false, ln := 0 }
theorem PoolAt.forget {w w1 w2 : World} {p : Nat} {S : PoolS} (h : PoolAt w p S) (hm1 : MapV w1 S.tb (fun _ => none) 0) (hg1 : w.grownBy w1 (some S.tb)) (hm2 : MapV w2 S.lb (fun _ => none) 0) (hg2 : w1.grownBy w2 (some S.lb)) : PoolAt w2 p S.forget := by
  have k1 : ∀ b, b < w.heap.size → b ≠ S.tb → b ≠ S.lb → w2.heap[b]? = w.heap[b]? := fun b hb hn hn2 => (hg2.block b (Nat.lt_of_lt_of_le hb hg1.size) fun e => hn2 (Option.some.inj e)).trans (hg1.block b hb fun e => hn (Option.some.inj e))
  have e1 : pageF (fun _ => none) = fun _ => none := rfl
  have e2 : setF (fun _ => false) = fun _ => none := rfl
  refine ⟨(k1 p h.blk.lt (blk_map h.tm h.blk) (blk_map h.lm h.blk)).trans h.blk, h.row.keep fun b hb => k1 b (h.row.lt b hb) (fun e => h.row.ne_map h.tm (e ▸ hb)) (fun e => h.row.ne_map h.lm (e ▸ hb)), h.heap, ?_, h.fm.keep (k1 _ h.fm.lt (fun e => h.tf e.symm) h.fl), ?_, fun x g l hx => (by cases hx), fun x y g l m hx => (by cases hx), h.tf, h.tl, h.fl⟩
  · show MapV w2 S.tb (pageF fun _ => none) 0
    rw [e1]
    exact hm1.keep (hg2.block _ hm1.lt fun e => h.tl (Option.some.inj e))
  · show MapV w2 S.lb (setF fun _ => false) 0
    rw [e2]
    exact hm2
/-- Frozen: what was taken; free: what was left. -/
def PV.frz (V : PV) : PV := { V with pg := fun _ => none, tn := 0, fr := fun x => V.fr x || (V.pg x).isSome, fn := V.fn + V.tn, lf := fun _ => false, ln := 0 }
def frL (S : PoolS) (left : Int → Bool) : Int → Bool := fun x => S.fr x || ((S.pg x).isSome && !left x)
theorem frL_start (S : PoolS) : frL S (fun x => (pageF S.pg x).isSome) = S.fr := by
  funext x
  unfold frL pageF
  cases h : S.pg x <;> simp [h]
theorem frL_step {S : PoolS} {left : Int → Bool} {x : Int} (h : (S.pg x).isSome = true) : (fun y => if y = x then true else frL S left y) = frL S (fun y => left y && !decide (y = x)) := by
  funext y
  unfold frL
  by_cases e : y = x
  · subst e; simp [h]
  · simp [e]
theorem frL_end {S : PoolS} {left : Int → Bool} (h : ∀ x, (S.pg x).isSome = true → left x = false) : frL S left = fun x => S.fr x || (S.pg x).isSome := by
  funext x
  unfold frL
  cases hx : (S.pg x).isSome with
  | false => simp
  | true => rw [h x hx]; simp

set_option maxHeartbeats 4000000 in
set_option maxRecDepth 100000 in
theorem freeze_any (p : Nat) (S : PoolS) (w : World) (h : PoolAt w p S) (hok : PoolOK S) :
    Calls Tryd.prog 50 #[.pointer (some ⟨p, 0, none⟩)] w fun e w' => e = .returned (.tuple #[]) ∧ ∃ S', S'.view = S.view.frz ∧ PoolAt w' p S' ∧ PoolOK S' ∧ (∀ b, S'.fp p b → S.fp p b ∨ w.heap.size ≤ b) ∧ Turn (S.fp p) w w' := by
  obtain ⟨c0, c1, c2, c3, c4, c5, c6, c7⟩ := h.cell
  have htm := h.tm
  have H := Lib.hid h
  have HOK := Lib.hid hok
  clear h hok
  go_enter Tryd.func50, Tryd.ntmps50
  go_wp2_with (at_range; refine wp_map_range rfl (.tmp 8) 88 23 rfl Tryd.underlying88 S.tb S.tn (pageF S.pg) rfl htm ?_; intro w7 hr7 hg7 hs7)
  go_frame
  have ha7 : PoolAt w7 p (S.fz (frL S fun x => (pageF S.pg x).isSome) S.fn) := by
    rw [frL_start]
    exact H.out.keep fun b hb => hg7.block b (H.out.lt hb) (by simp)
  have hc7 : Card (fun x => frL S (fun x => (pageF S.pg x).isSome) x = true) S.fn := by
    rw [frL_start]
    exact HOK.out.fnB
  have ht7 : Turn (S.fp p) w w7 := (Turn.of_grown hg7).mono fun b hb => by cases hb
  have HA7 := Lib.hid (And.intro ha7 (And.intro hc7 ht7))
  have HR7 := Lib.hid hr7
  clear ha7 hc7 ht7 hr7 hg7 hs7 htm c0 c1 c2 c3 c4 c5 c6 c7
  go_loopw [2] (fun _ wx => ∃ (left : Int → Bool) (cnt f1 : Nat), RangeV wx S.tb w.heap.size (pageF S.pg) S.tn left cnt ∧ PoolAt wx p (S.fz (frL S left) f1) ∧ Card (fun x => frL S left x = true) f1 ∧ Turn (S.fp p) w wx) (fun _ wx => wx.rangeLeft S.tb w.heap.size)
  case atStart => exact ⟨_, _, _, HR7.out, HA7.out.1, HA7.out.2.1, HA7.out.2.2⟩
  case round =>
    obtain ⟨left, cnt, f1, hr, h1, h2, h3⟩ := hrel
    have H1 := Lib.hid h1
    have H2 := Lib.hid h2
    have H3 := Lib.hid h3
    clear h1 h2 h3 HA7 HR7
    go_wp2_with (at_next; refine wp_map_next rfl (.tmp 9) rfl S.tb w.heap.size S.tn (pageF S.pg) left cnt rfl hr ?_ ?_)
    · intro _ hdone
      have hall : frL S left = fun x => S.fr x || (S.pg x).isSome := frL_end fun x hx => by
        have hb := HOK.out.pgB x (by intro e; rw [e] at hx; cases hx)
        have hm := HOK.out.nextM
        have hM := HOK.out.manyM
        exact hdone x (i64_of (by omega) (by omega))
      have hf1 : f1 = S.fn + S.tn := by
        have h2 := H2.out
        rw [hall] at h2
        refine h2.uniq (HOK.out.fnB.or_ HOK.out.tnB (fun x hx hp => ?_) fun x => ?_)
        · have := (HOK.out.pgB x hp).2.2.1
          rw [hx] at this; cases this
        · exact or_isSome _ _
      have ha1 := H1.out
      rw [hall, hf1] at ha1
      clear hdone hall hf1 H1 H2 hr
      obtain ⟨S1, hS1⟩ : ∃ S1, S1 = S.fz (fun x => S.fr x || (S.pg x).isSome) (S.fn + S.tn) := ⟨_, rfl⟩
      rw [← hS1] at ha1
      have c7 := ha1.cell.2.2.2.2.2.2.2
      have hsz : S1.ln ≤ 1000000000 := by
        rw [hS1]
        have := HOK.out.lnLe (by have := HOK.out.nextM; have := HOK.out.manyM; omega)
        show S.ln ≤ _
        omega
      have HS := Lib.hid (sortedB_any wr S1.lb S1.ln (setF S1.lf) ha1.lm hsz)
      have HA1 := Lib.hid ha1
      have HS1 := Lib.hid hS1
      have hzw := H3.out.size
      clear ha1 hS1
      go_wp2_with fail
      refine (keysB_any (some S1.lb) wr).mono ?_
      rintro e w2 ⟨rfl, rfl⟩
      go_wp2_with fail
      refine HS.out.mono ?_
      rintro e w2 ⟨A, c, ks, rfl, hks, hkc, hcell, hb2⟩
      have hlf : ∀ x, x ∈ ks ↔ S.lf x = true := fun x => by
        rw [hks.2]
        have e : S1.lf = S.lf := by rw [HS1.out]; rfl
        rw [e]
        unfold setF
        constructor
        · rintro ⟨_, h2⟩
          cases hx : S.lf x with
          | true => rfl
          | false => rw [hx] at h2; cases h2
        · intro hx
          have hb := HOK.out.lfB x hx
          have := HOK.out.nextM; have := HOK.out.manyM
          exact ⟨i64_of (by omega) (by omega), by rw [hx]; rfl⟩
      have hnd : ks.Nodup := hks.1.imp fun h => by omega
      have HLF := Lib.hid (And.intro hlf hnd)
      have HCELL := Lib.hid hcell
      have HB2 := Lib.hid hb2
      have hs2 := hb2.size
      have HA2 := Lib.hid (HA1.out.keep fun b hb => hb2.block b (HA1.out.lt hb))
      clear hks hlf hnd hcell hb2 HS c7
      go_wp2_with fail
      obtain ⟨wo, rfl⟩ : ∃ wo : World, wo = wr := ⟨_, rfl⟩
      go_loopw [26] (fun s26 wx => ∃ (k : Nat) (A' : Option Addr) (c' : Nat) (gl' : List Int), k ≤ ks.length ∧ s26 = .int .i64 k ∧ PoolR p S1 w2 (S1.row A' c' gl') wx ∧ gl'.Perm (ks.take k ++ S.gl)) (fun s26 _ => ks.length - (intOf s26).toNat)
      case atStart =>
        refine ⟨0, S1.A, S1.c, S1.gl, Nat.zero_le _, rfl, PoolR.refl HA2.out, ?_⟩
        rw [HS1.out]
        exact List.Perm.refl _
      case round =>
        obtain ⟨k, A', c', gl', hk, rfl, hR, hperm⟩ := hrel
        have HR := Lib.hid hR
        have HPM := Lib.hid hperm
        clear hR hperm
        have hgd : (ks.take k ++ S.gl).Nodup ∧ ∀ x ∈ ks.take k ++ S.gl, 0 ≤ x ∧ x < S.next := by
          refine ⟨List.nodup_append.2 ⟨HLF.out.2.sublist (List.take_sublist k ks), HOK.out.nodup, fun x hx y hy e => ?_⟩, fun x hx => ?_⟩
          · subst e
            have h1 := (HLF.out.1 x).1 (List.mem_of_mem_take hx)
            have h2 := ((HOK.out.given x).1 hy).2.2.2.2
            rw [h1] at h2; cases h2
          · rcases List.mem_append.1 hx with h | h
            · have := HOK.out.lfB x ((HLF.out.1 x).1 (List.mem_of_mem_take h)); exact this
            · have := (HOK.out.given x).1 h; omega
        have hgl : gl'.length ≤ 1048576 := by
          rw [HPM.out.length_eq]
          have := pigeon 1048576 _ hgd.1 fun x hx => by
            have := hgd.2 x hx
            have := HOK.out.nextM; have := HOK.out.manyM
            omega
          exact this
        have HGD := Lib.hid hgd
        clear hgd
        by_cases hlt : k < ks.length
        · obtain ⟨gs, rfl, hgs, hcs⟩ := HCELL.out (by omega)
          have hgs1 : gs < w2.heap.size := cell_lt (hcs 0 (by omega))
          have hcx : wr.cell? ⟨gs, k, none⟩ = some (.int .i64 (ks.getD k 0)) := (World.cell?_of_block (HR.out.turn.block gs hgs1 fun hn => by have := HA1.out.lt hn; omega)).trans (hcs k hlt)
          have hmem : ks.getD k 0 ∈ ks := by rw [List.getD_eq_getElem?_getD, List.getElem?_eq_getElem hlt]; exact List.getElem_mem hlt
          have htk : ks.take (k + 1) = ks.take k ++ [ks.getD k 0] := by rw [List.take_succ_eq_append_getElem hlt, List.getD_eq_getElem?_getD, List.getElem?_eq_getElem hlt]; rfl
          have hxn : ks.getD k 0 < S1.next := by
            have := HOK.out.lfB _ ((HLF.out.1 _).1 hmem)
            rw [HS1.out]
            exact this.2
          have hkl : ks.length ≤ 1048576 := pigeon 1048576 _ HLF.out.2 fun y hy => by
            have := HOK.out.lfB y ((HLF.out.1 y).1 hy)
            have := HOK.out.nextM; have := HOK.out.manyM
            omega
          have hwkk : IntKind.i64.wrap ((k : Int) + 1) = (k : Int) + 1 := IntWalk.i64_in _ (by omega)
          have HTK := Lib.hid htk
          have hgive := give_any p (S1.row A' c' gl') (ks.getD k 0) wr HR.out.at_ hxn hgl
          have HG := Lib.hid hgive
          clear hcs hmem htk hxn hgive
          generalize ks.getD k 0 = x at *
          go_wp2_with fail
          refine HG.out.mono ?_
          rintro e w3 ⟨rfl, A3, c3, gl3, hp3, ha3, ht3, hA3⟩
          have HX := Lib.hid (And.intro (HR.out.give ha3 ht3 hA3) hp3)
          clear hp3 ha3 ht3 hA3 HG
          go_wp2_with fail
          refine ⟨⟨k + 1, A3, c3, gl3, by omega, by go_num, HX.out.1, ?_⟩, by simp [intOf]; omega⟩
          rw [HTK.out]
          refine HX.out.2.trans ((HPM.out.cons x).trans ?_)
          rw [List.append_assoc]
          exact List.perm_middle.symm
        · obtain rfl : k = ks.length := by omega
          rw [List.take_length] at HPM HGD
          have haR : PoolAt wr p (S1.row A' c' gl') := HR.out.at_
          have c5 : wr.cell? ⟨p, 5, none⟩ = some (.map (some S1.tb)) := haR.cell.2.2.2.2.2.1
          have htm : MapV wr S1.tb (pageF S1.pg) S1.tn := haR.tm
          obtain ⟨w3, hrun3, hm3, hg3⟩ := htm.clear Tryd.underlying88
          have hlm : MapV w3 S1.lb (setF S1.lf) S1.ln := haR.lm.keep (hg3.block _ haR.lm.lt fun e => haR.tl (Option.some.inj e).symm)
          have c7 : w3.cell? ⟨p, 7, none⟩ = some (.map (some S1.lb)) := (World.cell?_of_block (hg3.block p haR.blk.lt fun e => blk_map haR.tm haR.blk (Option.some.inj e))).trans haR.cell.2.2.2.2.2.2.2
          obtain ⟨w4, hrun4, hm4, hg4⟩ := hlm.clear Tryd.underlying94
          have hfin : PoolAt w4 p (S1.row A' c' gl').forget := haR.forget hm3 hg3 hm4 hg4
          have ht4 : Turn (S.fp p) w w4 := by
            have hfp : ∀ b, S1.fp p b → S.fp p b := fun b hb => by rw [HS1.out] at hb; exact hb
            have e1 : Turn (S.fp p) w wo := H3.out
            have e2 : Turn (S.fp p) w w2 := e1.trans (Turn.of_below HB2.out) (fun b hb => .inr (by omega))
            have e3 : Turn (S.fp p) w wr := e2.trans HR.out.turn (fun b hb => .inl (hfp b hb))
            have e4 : Turn (S.fp p) w w3 := e3.trans (fq := fun b => some S1.tb = some b) (Turn.of_grown hg3) (fun b hb => .inl (hfp b (.inr (.inl (Option.some.inj hb).symm))))
            exact e4.trans (fq := fun b => some S1.lb = some b) (Turn.of_grown hg4) (fun b hb => .inl (hfp b (.inr (.inr (.inr (.inl (Option.some.inj hb).symm))))))
          have HFIN := Lib.hid (And.intro hfin ht4)
          clear haR htm hm3 hg3 hlm hm4 hg4 hfin ht4
          go_wp2_with fail
          go_end0
          refine ⟨rfl, (S1.row A' c' gl').forget, ?_, HFIN.out.1, ?_, fun b hb => ?_, HFIN.out.2⟩
          · rw [HS1.out]; rfl
          · rw [HS1.out]
            refine ⟨HOK.out.next0, HOK.out.nextM, HOK.out.manyM, fun x => ?_, HPM.out.nodup_iff.2 HGD.out.1, fun x hx => absurd rfl hx, fun x hx => ?_, fun x hx => (by cases hx), ⟨[], List.nodup_nil, fun x => by simp [PoolS.forget], rfl⟩, ?_, ⟨[], List.nodup_nil, fun x => by simp [PoolS.forget], rfl⟩⟩
            · show x ∈ gl' ↔ 0 ≤ x ∧ x < S.next ∧ (none : Option (Nat × List UInt8)) = none ∧ (S.fr x || (S.pg x).isSome) = false ∧ false = false
              rw [HPM.out.mem_iff, List.mem_append, HLF.out.1, HOK.out.given]
              constructor
              · rintro (hx | hx)
                · have hb := HOK.out.lfB x hx
                  refine ⟨hb.1, hb.2, rfl, ?_, rfl⟩
                  have hfr : S.fr x = false := by
                    cases h : S.fr x with
                    | false => rfl
                    | true => have := (HOK.out.frB x h).2.2; rw [hx] at this; cases this
                  have hpg : S.pg x = none := by
                    cases h : S.pg x with
                    | none => rfl
                    | some q => have := (HOK.out.pgB x (by rw [h]; simp)).2.2.2; rw [hx] at this; cases this
                  rw [hfr, hpg]; rfl
                · refine ⟨hx.1, hx.2.1, rfl, ?_, rfl⟩
                  rw [hx.2.2.1, hx.2.2.2.1]; rfl
              · rintro ⟨h1, h2, _, h3, _⟩
                have h4 := Bool.or_eq_false_iff.1 h3
                cases hl : S.lf x with
                | true => exact .inl rfl
                | false =>
                  refine .inr ⟨h1, h2, ?_, h4.1, rfl⟩
                  cases hp : S.pg x with
                  | none => rfl
                  | some q => rw [hp] at h4; cases h4.2
            · have hx' : (S.fr x || (S.pg x).isSome) = true := hx
              rcases Bool.or_eq_true_iff.1 hx' with h | h
              · have := HOK.out.frB x h
                exact ⟨this.1, this.2.1, rfl⟩
              · have := HOK.out.pgB x (by intro e; rw [e] at h; cases h)
                have hm := HOK.out.nextM
                exact ⟨this.1, by show x < S.many; omega, rfl⟩
            · show Card (fun x => (S.fr x || (S.pg x).isSome) = true) (S.fn + S.tn)
              refine HOK.out.fnB.or_ HOK.out.tnB (fun x hx hp => ?_) fun x => ?_
              · have := (HOK.out.pgB x hp).2.2.1
                rw [hx] at this; cases this
              · exact or_isSome _ _
          · have hfp : ∀ b, S1.fp p b → S.fp p b := fun b hb => by rw [HS1.out] at hb; exact hb
            have hb' : (S1.row A' c' gl').fp p b := by
              rcases hb with h | h | h | h | h | ⟨x, l, h⟩
              · exact .inl h
              · exact .inr (.inl h)
              · exact .inr (.inr (.inl h))
              · exact .inr (.inr (.inr (.inl h)))
              · exact .inr (.inr (.inr (.inr (.inl h))))
              · cases h
            rcases HR.out.fp b hb' with h | h
            · exact .inl (hfp b h)
            · exact .inr (by omega)
    · intro x v w8 cnt8 hI hleft hf hr8 hlt8 hg8 hs8 hen
      have hsome : (S.pg x).isSome = true := by
        unfold pageF at hf
        cases hx : S.pg x with
        | none => rw [hx] at hf; cases hf
        | some q => rfl
      have hfr : S.fr x = false := (HOK.out.pgB x (by intro e; rw [e] at hsome; cases hsome)).2.2.1
      have hno : frL S left x = false := by unfold frL; rw [hfr, hleft]; simp
      have h18 : PoolAt w8 p (S.fz (frL S left) f1) := H1.out.keep fun b hb => hg8.block b (H1.out.lt hb) fun e => by
        have h9 : S.fp p b := hb
        have := H.out.lt h9
        have := Option.some.inj e
        omega
      have e6 : w8.cell? ⟨p, 6, none⟩ = some (.map (some S.fb)) := h18.cell.2.2.2.2.2.2.1
      have hm8 : MapV w8 S.fb (setF (frL S left)) f1 := h18.fm
      have hf1 : f1 < maxLen := by
        have := H2.out.le (N := 1048576) fun y hy => by
          unfold frL at hy
          rcases Bool.or_eq_true_iff.1 hy with h | h
          · have := HOK.out.frB y h; have := HOK.out.manyM; omega
          · have h9 := (Bool.and_eq_true_iff.1 h).1
            have := HOK.out.pgB y (by intro e; rw [e] at h9; cases h9)
            have := HOK.out.nextM; have := HOK.out.manyM
            omega
        unfold maxLen
        omega
      have H18 := Lib.hid h18
      have HQ := Lib.hid (And.intro hsome hno)
      have HG8 := Lib.hid hg8
      have HR8 := Lib.hid hr8
      clear h18 hsome hfr hno hg8 hr8 hf hs8
      go_wp2_with (at_mapUpdate; refine wp_map_put rfl (.tmp 17) (.tmp 18) (.const (.bool true)) 94 4 rfl Tryd.underlying94 S.fb f1 (setF (frL S left)) x (.bool true) rfl rfl rfl hm8 hf1 hI ?_; intro w9 hm9 hg9; go_frame)
      have hput := H18.out.fzPut hm9 hg9
      have hn9 : (if (setF (frL S left) x).isSome = true then f1 else f1 + 1) = f1 + 1 := by
        unfold setF
        rw [HQ.out.2]
        rfl
      rw [hn9, frL_step HQ.out.1] at hput
      have hr9 := HR8.out.kept hg9 (fun e => (H.out.tf (Option.some.inj e))) (fun e => by have := Option.some.inj e; have := H.out.fm.lt; omega)
      have hcard : Card (fun y => frL S (fun y => left y && !decide (y = x)) y = true) (f1 + 1) := H2.out.add (x := x) (by rw [HQ.out.2]; simp) fun y => by
        have := congrFun (frL_step (left := left) HQ.out.1) y
        rw [← this]
        by_cases e : y = x <;> simp [e]
      have ht9 : Turn (S.fp p) w w9 := (H3.out.trans (Turn.of_grown HG8.out) (fun b hb => .inr (by have := Option.some.inj hb; omega))).trans (fq := fun b => some S.fb = some b) (Turn.of_grown hg9) (fun b hb => .inl (.inr (.inr (.inl (Option.some.inj hb).symm))))
      exact ⟨⟨_, cnt8, _, hr9, hput, hcard, ht9⟩, by rw [hr9.left_eq, hr.left_eq]; exact hlt8⟩
/-- Freeze. -/
theorem freeze_v {K : Nat → Prop} {w : World} {p : Nat} {V : PV} (h : Pl K w p V) : Calls Tryd.prog 50 #[.pointer (some ⟨p, 0, none⟩)] w fun e w' => e = .returned (.tuple #[]) ∧ Kept K w w' ∧ Pl K w' p V.frz := by
  obtain ⟨⟨S, rfl, ha, hok, hf⟩, hl⟩ := h
  refine (freeze_any p S w ha hok).mono ?_
  rintro e w' ⟨rfl, S', hv, h1, h2, h3, h4⟩
  refine ⟨rfl, kept_of hf h4, ?_⟩
  rw [← hv]
  exact Pl.of hf hl h4.size h1 h2 h3
end Go.Proofs.YteediemhcocgdaaDoor
