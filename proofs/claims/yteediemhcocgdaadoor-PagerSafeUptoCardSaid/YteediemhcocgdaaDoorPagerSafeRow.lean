/- blotterlaw13.PagerSafe answers true for every input, and leaves all that was there as it was. Its conditions: the row's own (the listed package-level variables read as their initialisers lay them, which the card ties to the program's text). -/
import Derived.Test.YteediemhcocgdaaDoorRowKit
import Derived.Test.YteediemhcocgdaaDoorRowBoth
import Derived.Test.YteediemhcocgdaaDoorRowsArg
import Derived.Test.YteediemhcocgdaaDoorOpsArg
import Derived.Test.YteediemhcocgdaaDoorBoolsArg
import Derived.Test.YteediemhcocgdaaDoorBulk
import Derived.Test.YteediemhcocgdaaDoorSafe
namespace Go.Proofs.YteediemhcocgdaaDoor.pagerSafe
open Go.ChangeShapes Go.WideShapes Go.ChangeAt Go.RowKit

theorem toArray_eq {α : Type} {a : Array α} {v0 v1 v2 v3 v4 : α} (h : a.toList = [v0, v1, v2, v3, v4]) : a = #[v0, v1, v2, v3, v4] := by
  cases a; simp_all
theorem readable : ∀ t ∈ Tryd.f13.params.toList, Tryd.prog.readableRec t = true ∧ t < Tryd.prog.types.size := by
  rw [Tryd.params13]
  intro t ht
  have h : t = 36 ∨ t = 75 ∨ t = 3 ∨ t = 4 ∨ t = 65 := by simpa using ht
  rcases h with rfl | rfl | rfl | rfl | rfl
  · exact ⟨by kernel_rfl, of_decide_eq_true (by kernel_rfl)⟩
  · exact ⟨by kernel_rfl, of_decide_eq_true (by kernel_rfl)⟩
  · exact ⟨by kernel_rfl, of_decide_eq_true (by kernel_rfl)⟩
  · exact ⟨by kernel_rfl, of_decide_eq_true (by kernel_rfl)⟩
  · exact ⟨by kernel_rfl, of_decide_eq_true (by kernel_rfl)⟩

set_option maxRecDepth 100000 in
theorem contract (H : Type) (enc : TypeId × Value → H) (W : World) (base : Nat) (args : Array Value) (ds gs : List (DataW H)) (before : List MemPlace)
    (hval : ∀ (j : Nat) t v, Tryd.f13.params[j]? = some t → args[j]? = some v → Value.okWide Tryd.prog W .any base t v)
    (hW : DataW.Whole enc Tryd.prog Tryd.f13.params.toList Rows.pagerSafeSpec.vars false W args.toList ds gs before)
    (hsz : (DataW.weightsEach Tryd.prog (Tryd.f13.params.toList ++ (OpenSpec.ofChange Rows.pagerSafeSpec).bare.plain.varTypes Tryd.prog) (ds ++ gs)).all (· ≤ reachBytes) = true)
    (hk : Rows.uptoSmall H (ds ++ gs) = true)
    (hL : laidMetH Tryd.prog Rows.pagerSafeRow.laid W) :
    Calls Tryd.prog 13 args W fun e W' => ∃ v, e = .returned v ∧ Rows.pagerSafeSpec.post enc Tryd.prog Tryd.f13 false true false false W args v W' := by
  have hW' := hW
  obtain ⟨p, q, hA0, hV, rfl, hfz, hnd⟩ := hW
  have hA : DataW.TrodAll enc Tryd.prog W 0 (fun _ => true) true Tryd.f13.params.toList args.toList ds p := hA0
  rw [Tryd.params13] at hA hval hsz
  obtain ⟨v0, vs0, d0, ds0, p0, q0, hargs, rfl, rfl, h0, r0⟩ := trodAll_cons hA
  obtain ⟨v1, vs1, d1, ds1, p1, q1, rfl, rfl, rfl, h1, r1⟩ := trodAll_cons r0
  obtain ⟨v2, vs2, d2, ds2, p2, q2, rfl, rfl, rfl, h2, r2⟩ := trodAll_cons r1
  obtain ⟨v3, vs3, d3, ds3, p3, q3, rfl, rfl, rfl, h3, r3⟩ := trodAll_cons r2
  obtain ⟨v4, vs4, d4, ds4, p4, q4, rfl, rfl, rfl, h4, r4⟩ := trodAll_cons r3
  obtain ⟨rfl, rfl, rfl⟩ := trodAll_nil r4
  have hargs' := toArray_eq hargs
  subst hargs'
  obtain ⟨rfl, rfl⟩ := trodVars_none hV
  obtain ⟨A0, c0, l0, rfl, k0, m0, y0, s0⟩ := open_rows (j := 0) (hval 0 36 v0 rfl rfl) h0 hsz rfl rfl
  obtain ⟨A1, c1, l1, rfl, k1, y1, s1, e1⟩ := open_ops (j := 1) (hval 1 75 v1 rfl rfl) h1 hsz rfl rfl
  have u1 := bulk_row hk (d := d1) (by simp) e1
  obtain ⟨n2, rfl, rfl, rfl, w2⟩ := open_int Tryd.underlying3 (hval 2 3 v2 rfl rfl) h2
  have b2 := bounds_i64 w2
  obtain ⟨x3, rfl, rfl, rfl⟩ := open_bool Tryd.underlying4 (hval 3 4 v3 rfl rfl) h3
  obtain ⟨A4, c4, l4, rfl, k4, y4, s4⟩ := open_bargs (j := 4) (hval 4 65 v4 rfl rfl) h4 hsz rfl rfl
  obtain ⟨hn, hg⟩ := both_of_laid hL
  refine (safe_any A0 A1 A4 c0 c1 c4 l0 l1 n2 x3 l4 W y0 y1 y4 hn hg (err_pos hg) s0 u1 (by omega) b2.2).mono fun e W' ⟨he, hg⟩ => ?_
  subst he
  exact ⟨_, rfl, law_post hW' rfl rfl (by rfl) readable hg⟩

theorem laid_met (os : Os) : laidMetH Tryd.prog Rows.pagerSafeRow.laid ((laidWorld2 os).forCall (fun _ _ => 0) ⟨#[], #[.slice none 0 0, .slice none 0 0, .int .i64 0, .bool false, .slice none 0 0], []⟩).memory := laid_met2 os _
theorem reads (os : Os) {H : Type} (enc : TypeId × Value → H) : ∃ places, DataW.whole enc Tryd.prog ((laidWorld2 os).forCall (fun _ _ => 0) ⟨#[], #[.slice none 0 0, .slice none 0 0, .int .i64 0, .bool false, .slice none 0 0], []⟩).memory Tryd.f13.params.toList Rows.pagerSafeSpec.vars false #[Value.slice none 0 0, .slice none 0 0, .int .i64 0, .bool false, .slice none 0 0].toList 8 = some ([.nil, .nil, .lit (.int .i64 0), .lit (.bool false), .nil], [], places) :=
  ⟨[], by kernel_rfl⟩

set_option maxRecDepth 100000 in
theorem lifted (os : Os) (started : os.Started) (H : Type) (enc : TypeId × Value → H) (F : Stop.Interp) :
    ReturnsInHanded {} Tryd.checked os 13 .any ((Rows.OpenSpec.upto Rows.pagerSafeSpec).preRow enc Tryd.prog Tryd.f13 Rows.pagerSafeUptoRow.domain false Rows.pagerSafeUptoRow.laid) (((Rows.OpenSpec.upto Rows.pagerSafeSpec).at F).post enc Tryd.prog Tryd.f13 false true false false) := by
  obtain ⟨places, hx⟩ := reads os enc
  refine returnsInHanded_of_row (C := Tryd.checked) (s := Rows.OpenSpec.upto Rows.pagerSafeSpec) own started (by kernel_rfl) Tryd.func13
    (witness_row_at (enc := enc) (C := Tryd.checked) false (laidWorld2 os) #[.slice none 0 0, .slice none 0 0, .int .i64 0, .bool false, .slice none 0 0] rfl (by kernel_rfl) (by kernel_rfl) (by kernel_rfl)
      (OpenSpec.preRow_of_cond 8 hx (by kernel_rfl) (fun k hk => by cases hk; kernel_rfl) (by kernel_rfl) (laid_met os))) ?_
  intro W base args ds gs before hval hW _ hcond hsz hL _ _
  exact contract H enc W base args ds gs before hval hW hsz (hcond _ rfl) hL

theorem said : Rows.PagerSafeUptoSaid :=
  OpenClaim.holds_of_cond 13 Tryd.f13 rfl rfl rfl rfl rfl rfl rfl ⟨rfl, rfl, rfl, rfl, rfl⟩ rfl rfl rfl rfl rfl (by kernel_rfl) Tryd.func13 (by kernel_rfl)
    (of_decide_eq_true (by kernel_rfl)) (by unfold Func.isWrapper; first | (rw [if_pos (by decide +kernel)]; kernel_rfl) | (rw [if_neg (by decide +kernel)]; exact ⟨rfl, rfl⟩))
    (fun os started H enc _ F => by rw [OpenClaim.pre_eq_preRow]; exact lifted os started H enc F)

/-- No parameter wants a stand-in; the program's own looks: what the card asks. -/
theorem plain (f : FuncId) (fn : Func) (hf : Tryd.pinned.checked.prog.funcNamed "blotter/blotterlaw13.PagerSafe" = some f) (hfn : Tryd.pinned.checked.prog.funcs[f]? = some fn) :
    true = Tryd.pinned.checked.prog.looks [] ∧ ∀ (j : Nat) t, fn.params[j]? = some t → Tryd.pinned.checked.prog.wantsStandIn t = false := by
  obtain rfl : f = 13 := Option.some.inj ((show Tryd.prog.funcNamed "blotter/blotterlaw13.PagerSafe" = some 13 by kernel_rfl).symm.trans hf) |>.symm
  obtain rfl : fn = Tryd.f13 := (Option.some.inj (Tryd.func13.symm.trans hfn)).symm
  refine ⟨by kernel_rfl, fun j t ht => ?_⟩
  rw [Tryd.params13] at ht
  have h : t = 36 ∨ t = 75 ∨ t = 3 ∨ t = 4 ∨ t = 65 := by simpa using Array.mem_of_getElem? ht
  rcases h with rfl | rfl | rfl | rfl | rfl
  · exact (show Tryd.prog.wantsStandIn 36 = false by kernel_rfl)
  · exact (show Tryd.prog.wantsStandIn 75 = false by kernel_rfl)
  · exact (show Tryd.prog.wantsStandIn 3 = false by kernel_rfl)
  · exact (show Tryd.prog.wantsStandIn 4 = false by kernel_rfl)
  · exact (show Tryd.prog.wantsStandIn 65 = false by kernel_rfl)

/-- ████ THE CARD ████ -/
theorem card : Rows.PagerSafeUptoCardSaid :=
  Claim7.holds_tied_plain_at .later [] _ _ _ _ said (fun _ h => by cases h) (by kernel_rfl) (fun _ h => by cases h) pagerSafeUpto_row_tie rfl ⟨rfl, rfl⟩ (by kernel_rfl) rfl plain (by kernel_rfl)
end Go.Proofs.YteediemhcocgdaaDoor.pagerSafe
