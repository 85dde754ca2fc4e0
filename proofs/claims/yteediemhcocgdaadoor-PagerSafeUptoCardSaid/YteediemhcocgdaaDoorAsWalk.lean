/-
  errors.As at a target of type *api.Errno, over nil and over an api.Errno; api.Number. The manner is that of the kit's worked example 'toyas' (its As text), at this program's types.
-/
import Derived.Test.YteediemhcocgdaaDoorMapV
import Derived.LaidEql
import Derived.Stop.Asserts
import Derived.RowKitTokens
namespace Go.Proofs.YteediemhcocgdaaDoor
open Go.RowKit Go.Extern.Stop Go.Stop Go.Extern

/-- The handle of package errors. -/
def ErrH (w : World) : Prop := w.cell? ⟨1, 0, none⟩ = some (.iface 153 (.agg #[.pointer (some ⟨2, 46, none⟩)]))

theorem rv_valueOf (t : Addr) (w : World) : (ReflectliteValue.unpack (.iface 127 (.pointer (some t)))).run Tryd.prog w
    = .ok (.agg #[.pointer (some ⟨2, 127, none⟩), .pointer (some ⟨w.heap.size, 0, none⟩), .int .u64 150]) (w.alloc (.cells #[.pointer (some t)] 127)) := by kernel_rfl
theorem rv_type (a : Addr) (w : World) : (ReflectliteValue.methodAny (ReflectliteValue.valueError "reflectlite.Value.Type" 0) (fun t _ _ _ => ReflectliteType.toType t) #[.agg #[.pointer (some ⟨2, 127, none⟩), .pointer (some a), .int .u64 150]]).run Tryd.prog w
    = .ok (.iface 153 (.agg #[.pointer (some ⟨2, 127, none⟩)])) w := by kernel_rfl
theorem rv_mKind (n : Nat) (h : Value) (w : World) : (Go.method (n + 1) 153 (.agg #[h]) "Kind").run Tryd.prog w = .ok (131, h) w := by kernel_rfl
theorem rv_kindP (w : World) : ((ReflectliteType.abiMethod fun t => (fun a : Nat => Value.int IntKind.u8 (a : Int)) <$> Rtype.kind t) #[.pointer (some ⟨2, 127, none⟩)]).run Tryd.prog w = .ok (.int .u8 22) w := by kernel_rfl
theorem rv_kindE (w : World) : ((ReflectliteType.abiMethod fun t => (fun a : Nat => Value.int IntKind.u8 (a : Int)) <$> Rtype.kind t) #[.pointer (some ⟨2, 24, none⟩)]).run Tryd.prog w = .ok (.int .u8 2) w := by kernel_rfl
theorem rv_m (z : Sem Value) (f : TypeId → Addr → Nat → Nat → Sem Value) (v : Value) :
    ReflectliteValue.method z f #[v] = (do match ← ReflectliteValue.parts v with | none => z | some (t, a, fl) => f t a fl (fl % 32)) := rfl
theorem rv_partsP (a : Addr) (w : World) : (ReflectliteValue.parts (.agg #[.pointer (some ⟨2, 127, none⟩), .pointer (some a), .int .u64 150])).run Tryd.prog w = .ok (some (127, a, 150)) w := by kernel_rfl
theorem rv_isNil (a p : Addr) (W : World) (ha : W.cell? a = some (.pointer (some p))) :
    (ReflectliteValue.method (ReflectliteValue.valueError "reflectlite.Value.IsNil" 0) ReflectliteValue.isNil #[.agg #[.pointer (some ⟨2, 127, none⟩), .pointer (some a), .int .u64 150]]).run Tryd.prog W = .ok (.bool false) W := by
  rw [rv_m]
  simp only [Sem.run_bind, rv_partsP, Result.andThen]
  simp [ReflectliteValue.isNil, loadVar, isAgg, underlying, Tryd.underlying127, ha, Result.andThen]
theorem rv_mElem (n : Nat) (h : Value) (w : World) : (Go.method (n + 1) 153 (.agg #[h]) "Elem").run Tryd.prog w = .ok (142, .agg #[h]) w := by kernel_rfl
theorem rv_mImpl (n : Nat) (h : Value) (w : World) : (Go.method (n + 1) 153 (.agg #[h]) "Implements").run Tryd.prog w = .ok (143, .agg #[h]) w := by kernel_rfl
theorem rv_mAss (n : Nat) (h : Value) (w : World) : (Go.method (n + 1) 153 (.agg #[h]) "AssignableTo").run Tryd.prog w = .ok (140, .agg #[h]) w := by kernel_rfl
theorem rv_elemT (w : World) : (ReflectliteType.method ReflectliteType.elem #[.agg #[.pointer (some ⟨2, 127, none⟩)]]).run Tryd.prog w = .ok (.iface 153 (.agg #[.pointer (some ⟨2, 24, none⟩)])) w := by kernel_rfl
theorem rv_impl (w : World) : (ReflectliteType.relation "Implements" ReflectliteType.implements_ #[.agg #[.pointer (some ⟨2, 24, none⟩)], .iface 153 (.agg #[.pointer (some ⟨2, 46, none⟩)])]).run Tryd.prog w = .ok (.bool true) w := by kernel_rfl
theorem rv_typeOf (v : Value) (w : World) : (ReflectliteType.typeOf #[.iface 24 v]).run Tryd.prog w = .ok (.iface 153 (.agg #[.pointer (some ⟨2, 24, none⟩)])) w := by kernel_rfl
theorem rv_ass (w : World) : (ReflectliteType.relation "AssignableTo" ReflectliteType.assignableTo #[.agg #[.pointer (some ⟨2, 24, none⟩)], .iface 153 (.agg #[.pointer (some ⟨2, 24, none⟩)])]).run Tryd.prog w = .ok (.bool true) w := by kernel_rfl
theorem rv_valueE (n : Int) (w : World) : (ReflectliteValue.unpack (.iface 24 (.int .i64 n))).run Tryd.prog w
    = .ok (.agg #[.pointer (some ⟨2, 24, none⟩), .pointer (some ⟨w.heap.size, 0, none⟩), .int .u64 130]) (w.alloc (.cells #[.int .i64 n] 24)) := by kernel_rfl
theorem rv_elemOf (w : World) : (Rtype.elem? 127).run Tryd.prog w = .ok (some 24) w := by kernel_rfl
theorem rv_mk (p : Addr) (w : World) : (ReflectliteValue.mk 24 p ReflectliteValue.flagAddr).run Tryd.prog w = .ok (.agg #[.pointer (some ⟨2, 24, none⟩), .pointer (some p), .int .u64 386]) w := by kernel_rfl
theorem rv_elem (a p : Addr) (W : World) (ha : W.cell? a = some (.pointer (some p))) :
    (ReflectliteValue.method (ReflectliteValue.valueError "reflectlite.Value.Elem" 0) ReflectliteValue.elem #[.agg #[.pointer (some ⟨2, 127, none⟩), .pointer (some a), .int .u64 150]]).run Tryd.prog W
      = .ok (.agg #[.pointer (some ⟨2, 24, none⟩), .pointer (some p), .int .u64 386]) W := by
  rw [rv_m]
  simp only [Sem.run_bind, rv_partsP, Result.andThen]
  simp [ReflectliteValue.elem, loadVar, isAgg, underlying, Tryd.underlying127, ha, Result.andThen, rv_elemOf, rv_mk]
theorem rv_s (v x : Value) : ReflectliteValue.set #[v, x] = (do
    let (some (dst, a, fl), some (src, b, _)) := (← ReflectliteValue.parts v, ← ReflectliteValue.parts x)
      | unsupported (.noEntry "extern/(internal/reflectlite.Value).Set.zeroValue")
    if fl / ReflectliteValue.flagAddr % 2 == 0 then unsupported (.noEntry "extern/(internal/reflectlite.Value).Set.unaddressable")
    let val ← loadVar src b
    if ← Rtype.directlyAssignable dst src then storeVar dst a val
    else if ← Rtype.implements dst src then
      if (← Rtype.kind src) == 20 then
        match val with
        | .nilIface => unsupported (.noEntry "extern/reflectlite: a nil value of one interface type handed on as a value of another")
        | _ => storeVar dst a val
      else storeVar dst a (.iface src val)
    else panicString ("reflectlite.Set: value of type " ++ (← Rtype.spelt src) ++ " is not assignable to type " ++ (← Rtype.spelt dst))
    pure (.tuple #[])) := rfl
theorem rv_partsEa (a : Addr) (w : World) : (ReflectliteValue.parts (.agg #[.pointer (some ⟨2, 24, none⟩), .pointer (some a), .int .u64 386])).run Tryd.prog w = .ok (some (24, a, 386)) w := by kernel_rfl
theorem rv_partsE (a : Addr) (w : World) : (ReflectliteValue.parts (.agg #[.pointer (some ⟨2, 24, none⟩), .pointer (some a), .int .u64 130])).run Tryd.prog w = .ok (some (24, a, 130)) w := by kernel_rfl
theorem rv_direct (w : World) : (Rtype.directlyAssignable 24 24).run Tryd.prog w = .ok true w := by kernel_rfl
theorem rv_set (ta b : Addr) (n : Int) (old : Value) (W : World) (hb : W.cell? b = some (.int .i64 n)) (ht : W.cell? ta = some old) (hf : W.frozen? ta = false) :
    (ReflectliteValue.set #[.agg #[.pointer (some ⟨2, 24, none⟩), .pointer (some ta), .int .u64 386], .agg #[.pointer (some ⟨2, 24, none⟩), .pointer (some b), .int .u64 130]]).run Tryd.prog W
      = .ok (.tuple #[]) (W.setCell ta (.int .i64 n)) := by
  rw [rv_s]
  simp only [Sem.run_bind, rv_partsEa, rv_partsE, Result.andThen]
  simp [ReflectliteValue.flagAddr, loadVar, isAgg, underlying, Tryd.underlying24, hb, Result.andThen, rv_direct, storeVar, Value.cells, storeCells, Addr.add]
  rw [run_store Tryd.prog W ta _ _ (by rfl)]
  simp [ht, hf]

set_option maxHeartbeats 4000000 in
theorem as_hit (n : Int) (t : Addr) (old : Value) (w : World) (hg : ErrH w) (ht0 : w.cell? t = some old) (hf0 : w.frozen? t = false) :
    Calls Tryd.prog 78 #[.iface 24 (.int .i64 n), .iface 127 (.pointer (some t))] w fun ev w' => ev = .returned (.bool true) ∧ w' = ((((w.alloc (.cells #[.pointer (some t)] 127)).alloc (.cells #[.pointer (some ⟨2, 127, none⟩), .pointer (some ⟨w.heap.size, 0, none⟩), .int .u64 150] 137)).alloc (.cells #[.pointer (some ⟨2, 127, none⟩), .pointer (some ⟨w.heap.size, 0, none⟩), .int .u64 150] 137)).alloc (.cells #[.int .i64 n] 24)).setCell t (.int .i64 n) := by
  have h6 := @run_callFunc_extern Tryd.prog 88 _ (fun args => ReflectliteValue.unpack (args.getD 0 (.tuple #[]))) Tryd.func88 (by kernel_rfl) (by kernel_rfl) (by kernel_rfl) (by kernel_rfl)
  have h7 := @run_callFunc_extern Tryd.prog 89 _ (ReflectliteValue.methodAny (ReflectliteValue.valueError "reflectlite.Value.Type" 0) (fun t _ _ _ => ReflectliteType.toType t)) Tryd.func89 (by kernel_rfl) (by kernel_rfl) (by kernel_rfl) (by kernel_rfl)
  have h8 := @run_callFunc_extern Tryd.prog 90 _ (ReflectliteValue.method (ReflectliteValue.valueError "reflectlite.Value.IsNil" 0) ReflectliteValue.isNil) Tryd.func90 (by kernel_rfl) (by kernel_rfl) (by kernel_rfl) (by kernel_rfl)
  have h27 := @run_callFunc_extern Tryd.prog 131 _ (ReflectliteType.abiMethod fun t => do pure (.int .u8 (← Rtype.kind t))) Tryd.func131 (by kernel_rfl) (by kernel_rfl) (by kernel_rfl) (by kernel_rfl)
  have h37 := @run_callFunc_extern Tryd.prog 142 _ (ReflectliteType.method ReflectliteType.elem) Tryd.func142 (by kernel_rfl) (by kernel_rfl) (by kernel_rfl) (by kernel_rfl)
  have h38 := @run_callFunc_extern Tryd.prog 143 _ (ReflectliteType.relation "Implements" ReflectliteType.implements_) Tryd.func143 (by kernel_rfl) (by kernel_rfl) (by kernel_rfl) (by kernel_rfl)
  have h10 := @run_callFunc_extern Tryd.prog 92 _ ReflectliteType.typeOf Tryd.func92 (by kernel_rfl) (by kernel_rfl) (by kernel_rfl) (by kernel_rfl)
  have h35 := @run_callFunc_extern Tryd.prog 140 _ (ReflectliteType.relation "AssignableTo" ReflectliteType.assignableTo) Tryd.func140 (by kernel_rfl) (by kernel_rfl) (by kernel_rfl) (by kernel_rfl)
  have h11 := @run_callFunc_extern Tryd.prog 97 _ (ReflectliteValue.method (ReflectliteValue.valueError "reflectlite.Value.Elem" 0) ReflectliteValue.elem) Tryd.func97 (by kernel_rfl) (by kernel_rfl) (by kernel_rfl) (by kernel_rfl)
  have h12 := @run_callFunc_extern Tryd.prog 98 _ ReflectliteValue.set Tryd.func98 (by kernel_rfl) (by kernel_rfl) (by kernel_rfl) (by kernel_rfl)
  have tO := rv_typeOf
  have mA := rv_mAss
  have a25 := rv_ass
  have v25 := rv_valueE
  have f6 := rv_valueOf
  have f7 := rv_type
  have mK := rv_mKind
  have mE := rv_mElem
  have mI := rv_mImpl
  have k27 := rv_kindP
  have k25 := rv_kindE
  have e27 := rv_elemT
  have i25 := rv_impl
  have n8 := rv_isNil ⟨w.heap.size, 0, none⟩ t ((w.alloc (.cells #[.pointer (some t)] 127)).alloc (.cells #[.pointer (some ⟨2, 127, none⟩), .pointer (some ⟨w.heap.size, 0, none⟩), .int .u64 150] 137)) (by simp)
  unfold ErrH at hg
  have hlt : 1 < w.heap.size := by
    rcases Nat.lt_or_ge 1 w.heap.size with h | h
    · exact h
    · simp [World.cell?, Array.getElem?_eq_none h] at hg
  have hg2 : ((w.alloc (.cells #[.pointer (some t)] 127)).alloc (.cells #[.pointer (some ⟨2, 127, none⟩), .pointer (some ⟨w.heap.size, 0, none⟩), .int .u64 150] 137)).cell? ⟨1, 0, none⟩ = some (.iface 153 (.agg #[.pointer (some ⟨2, 46, none⟩)])) := by
    rw [World.cell?_alloc_lt _ _ ⟨1, 0, none⟩ (by simp; omega), World.cell?_alloc_lt _ _ ⟨1, 0, none⟩ hlt]; exact hg
  have htl : t.block < w.heap.size := by
    rcases Nat.lt_or_ge t.block w.heap.size with h | h
    · exact h
    · simp [World.cell?, Array.getElem?_eq_none h] at ht0
  have el := rv_elem ⟨w.heap.size, 0, none⟩ t (((w.alloc (.cells #[.pointer (some t)] 127)).alloc (.cells #[.pointer (some ⟨2, 127, none⟩), .pointer (some ⟨w.heap.size, 0, none⟩), .int .u64 150] 137)).alloc (.cells #[.pointer (some ⟨2, 127, none⟩), .pointer (some ⟨w.heap.size, 0, none⟩), .int .u64 150] 137)) (by rw [World.cell?_alloc_lt _ _ ⟨w.heap.size, 0, none⟩ (by simp; omega)]; simp)
  have st := rv_set t ⟨w.heap.size + 1 + 1 + 1, 0, none⟩ n old ((((w.alloc (.cells #[.pointer (some t)] 127)).alloc (.cells #[.pointer (some ⟨2, 127, none⟩), .pointer (some ⟨w.heap.size, 0, none⟩), .int .u64 150] 137)).alloc (.cells #[.pointer (some ⟨2, 127, none⟩), .pointer (some ⟨w.heap.size, 0, none⟩), .int .u64 150] 137)).alloc (.cells #[.int .i64 n] 24))
    (by rw [World.cell?_alloc_at _ _ _ _ (by simp)]; rfl)
    (by rw [World.cell?_alloc_lt _ _ t (by simp; omega), World.cell?_alloc_lt _ _ t (by simp; omega), World.cell?_alloc_lt _ _ t (by simp; omega), World.cell?_alloc_lt _ _ t htl]; exact ht0)
    (by rw [World.frozen?_alloc_old _ _ t (by simp; omega), World.frozen?_alloc_old _ _ t (by simp; omega), World.frozen?_alloc_old _ _ t (by simp; omega), World.frozen?_alloc_old _ _ t (Nat.ne_of_lt htl)]; exact hf0)
  go_enter Tryd.func78, Tryd.ntmps78
  go_wp2
  refine wp_loop_rounds 1 ?_
  rw [rounds_succ]
  go_wp2
  go_ret
  exact ⟨rfl, rfl⟩
theorem ErrH.below {w w' : World} {B : Nat} (h : ErrH w) (hb : Below B w w') (hB : 1 < B) : ErrH w' := (hb.cell (p := ⟨1, 0, none⟩) hB).trans h

set_option maxRecDepth 100000 in
theorem number_nil (w : World) : Calls Tryd.prog 57 #[.nilIface] w fun e w' => e = .returned (.int .i64 0) ∧ Below w.heap.size w w' := by
  go_enter Tryd.func57, Tryd.ntmps57
  go_wp2_with fail
  go_ret
  exact ⟨rfl, (Below.refl _ _).alloc (Nat.le_refl _) _⟩

set_option maxRecDepth 100000 in
theorem number_err (n : Int) (w : World) (hg : ErrH w) (h1 : 1 < w.heap.size) : Calls Tryd.prog 57 #[.iface 24 (.int .i64 n)] w fun e w' => e = .returned (.int .i64 n) ∧ Below w.heap.size w w' := by
  have hb0 : Below w.heap.size w (w.alloc (.cells #[.int .i64 0] 24)) := (Below.refl _ _).alloc (Nat.le_refl _) _
  have hg1 := hg.below hb0 h1
  have hc : (w.alloc (.cells #[.int .i64 0] 24)).cell? ⟨w.heap.size, 0, none⟩ = some (.int .i64 0) := by simp
  have hf : (w.alloc (.cells #[.int .i64 0] 24)).frozen? ⟨w.heap.size, 0, none⟩ = false := by simp
  have HA := Lib.hid (as_hit n ⟨w.heap.size, 0, none⟩ (.int .i64 0) _ hg1 hc hf)
  have HB := Lib.hid hb0
  clear hb0 hg1 hc hf
  go_enter Tryd.func57, Tryd.ntmps57
  go_wp2_with fail
  refine HA.out.mono ?_
  rintro e w1 ⟨rfl, hw⟩
  have hcell : w1.cell? ⟨w.heap.size, 0, none⟩ = some (.int .i64 n) := by
    rw [hw]
    have hblk : Blk (w.alloc (.cells #[.int .i64 0] 24)) w.heap.size 24 [.int .i64 0] := Blk.new _ _ _
    exact (((((hblk.alloc _).alloc _).alloc _).alloc _).set_ 0 (.int .i64 n)).cell 0
  have hbl : Below w.heap.size w w1 := by
    rw [hw]
    exact ((((HB.out.alloc (by simp) _).alloc (by simp; omega) _).alloc (by simp; omega) _).alloc (by simp; omega) _).setCell (p := ⟨w.heap.size, 0, none⟩) (Nat.le_refl _) _
  have HBL := Lib.hid hbl
  clear hw hbl
  go_wp2_with fail
  go_ret
  exact ⟨rfl, HBL.out⟩

end Go.Proofs.YteediemhcocgdaaDoor
