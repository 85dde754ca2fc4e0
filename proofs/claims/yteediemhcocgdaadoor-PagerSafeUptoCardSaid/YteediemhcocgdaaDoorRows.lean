/-
  NARROWER THAN 'FOR EVERY INPUT', by the rows' own cells (each row's printed sentence says how): SumOrder: laid · SumWorks: laid · SumBack: laid · SumTells: laid · PagerTakes: laid · WalBack: laid · WalApart: laid · WalRooms: laid · WalPower: laid · PagerWrites: laid · PagerSafe: laid.
  DERIVED. THE GIVEN ROWS OF THIS SEAT. 11 by the template 'for every input the law returns true; each argument reads behind the call as it read before'; 0 by the template 'total and deterministic' (their statements: YteediemhcocgdaaDoorTotals.lean).
  GIVEN WITH THE SEED: the statements are not yours to turn. If you find one false, say at which input.
  Laid BY PROGRAM, IN A SANDBOX (cutbox-rows.mjs): the forced cells as the released guide's own fill.sh prints them over the translation 00f04568514aaec0… (all of the seat's roots in one cut). By AI agents, Wed Nov 11 2026. No macro, syntax, notation, axiom, sorry.
-/
import Derived.Test.YteediemhcocgdaaDoorChecked
import GoSem.Claim
import GoSem.ClaimJoined
import GoSem.ClaimMapViews
import Derived.JoinedTies
import Derived.KernelRfl
namespace Go.Proofs.YteediemhcocgdaaDoor
/- THE CELL 'sum', in the pinned program and in every row, IS THE sha256 OF THE DUMP (.gsa) THAT YteediemhcocgdaaDoorProg.lean LOADS. Nothing in Lean hashes anything: it is a label: what it is worth is what the hold of that sum in a sandbox is worth. -/
noncomputable def Tryd.pinned : Pinned := { name := "yteediemhcocgdaadoor", sum := "00f04568514aaec0a253e94351ebef1a51cd92b0cfa8537d5d4e4b04d3d15871", checked := Tryd.checked }
namespace Rows
def none {H : Type} : Left H := { results := [], args := [] }

/- WHAT THE LISTED PACKAGE-LEVEL VARIABLES READ AS WHEN THE CALL BEGINS. Each datum BY PROGRAM (the guide's laid-datum.mjs) off the statement by which the dump's own 'gosem.cut.vars' lays the variable. In a bare row this is a premise. The card (YteediemhcocgdaaDoorCards.lean) ties it to the program's text. -/
def laid_blotter_sum_nibbles {H : Type} : DataW H := .agg [.lit (.int .u32 0), .lit (.int .u32 498536548), .lit (.int .u32 997073096), .lit (.int .u32 651767980), .lit (.int .u32 1994146192), .lit (.int .u32 1802195444), .lit (.int .u32 1303535960), .lit (.int .u32 1342533948), .lit (.int .u32 3988292384), .lit (.int .u32 4027552580), .lit (.int .u32 3604390888), .lit (.int .u32 3412177804), .lit (.int .u32 2607071920), .lit (.int .u32 2262029012), .lit (.int .u32 2685067896), .lit (.int .u32 3183342108)]
def laid_errors_errorType {H : Type} : DataW H := .iface "internal/reflectlite.rtype" (.agg [.ptr (.lit (.string [101, 114, 114, 111, 114]))])

/-- 'blotterlaw09.SumOrder': WHATEVER THE INPUT: true; the input reads as it did. -/
def sumOrderSpec : ChangeSpec := { name := "sumOrder", fn := fun _ => fun
  | [d1, d2, d3] => { results := [.lit (.bool true)], args := [d1, d2, d3] }
  | _ => none }
def sumOrderRow : OpenClaim := { program := "yteediemhcocgdaadoor", sum := "00f04568514aaec0a253e94351ebef1a51cd92b0cfa8537d5d4e4b04d3d15871", func := "blotter/blotterlaw09.SumOrder", spec := "sumOrder", named := ["blotter/sum.nibbles"], apart := false, laid := [("blotter/sum.nibbles", laid_blotter_sum_nibbles)] }
def SumOrderSaid : Prop := sumOrderRow.holds Tryd.pinned (OpenSpec.ofChange sumOrderSpec)

/-- ITS FALSE NEIGHBOUR: 'it returns false'. Refute it at one input. -/
def sumOrderWrong : ChangeSpec := { name := "sumOrder", fn := fun _ => fun
  | [d1, d2, d3] => { results := [.lit (.bool false)], args := [d1, d2, d3] }
  | _ => none }
def SumOrderWrongFalsely : Prop := sumOrderRow.holds Tryd.pinned (OpenSpec.ofChange sumOrderWrong)

/-- 'blotterlaw09.SumWorks': WHATEVER THE INPUT: true; the input reads as it did. -/
def sumWorksSpec : ChangeSpec := { name := "sumWorks", fn := fun _ => fun
  | [d1, d2, d3, d4] => { results := [.lit (.bool true)], args := [d1, d2, d3, d4] }
  | _ => none }
def sumWorksRow : OpenClaim := { program := "yteediemhcocgdaadoor", sum := "00f04568514aaec0a253e94351ebef1a51cd92b0cfa8537d5d4e4b04d3d15871", func := "blotter/blotterlaw09.SumWorks", spec := "sumWorks", named := ["blotter/sum.nibbles"], apart := false, laid := [("blotter/sum.nibbles", laid_blotter_sum_nibbles)] }
def SumWorksSaid : Prop := sumWorksRow.holds Tryd.pinned (OpenSpec.ofChange sumWorksSpec)

/-- ITS FALSE NEIGHBOUR: 'it returns false'. Refute it at one input. -/
def sumWorksWrong : ChangeSpec := { name := "sumWorks", fn := fun _ => fun
  | [d1, d2, d3, d4] => { results := [.lit (.bool false)], args := [d1, d2, d3, d4] }
  | _ => none }
def SumWorksWrongFalsely : Prop := sumWorksRow.holds Tryd.pinned (OpenSpec.ofChange sumWorksWrong)

/-- 'blotterlaw09.SumBack': WHATEVER THE INPUT: true; the input reads as it did. -/
def sumBackSpec : ChangeSpec := { name := "sumBack", fn := fun _ => fun
  | [d1, d2, d3, d4] => { results := [.lit (.bool true)], args := [d1, d2, d3, d4] }
  | _ => none }
def sumBackRow : OpenClaim := { program := "yteediemhcocgdaadoor", sum := "00f04568514aaec0a253e94351ebef1a51cd92b0cfa8537d5d4e4b04d3d15871", func := "blotter/blotterlaw09.SumBack", spec := "sumBack", named := ["blotter/sum.nibbles"], apart := false, laid := [("blotter/sum.nibbles", laid_blotter_sum_nibbles)] }
def SumBackSaid : Prop := sumBackRow.holds Tryd.pinned (OpenSpec.ofChange sumBackSpec)

/-- ITS FALSE NEIGHBOUR: 'it returns false'. Refute it at one input. -/
def sumBackWrong : ChangeSpec := { name := "sumBack", fn := fun _ => fun
  | [d1, d2, d3, d4] => { results := [.lit (.bool false)], args := [d1, d2, d3, d4] }
  | _ => none }
def SumBackWrongFalsely : Prop := sumBackRow.holds Tryd.pinned (OpenSpec.ofChange sumBackWrong)

/-- 'blotterlaw09.SumTells': WHATEVER THE INPUT: true; the input reads as it did. -/
def sumTellsSpec : ChangeSpec := { name := "sumTells", fn := fun _ => fun
  | [d1, d2, d3] => { results := [.lit (.bool true)], args := [d1, d2, d3] }
  | _ => none }
def sumTellsRow : OpenClaim := { program := "yteediemhcocgdaadoor", sum := "00f04568514aaec0a253e94351ebef1a51cd92b0cfa8537d5d4e4b04d3d15871", func := "blotter/blotterlaw09.SumTells", spec := "sumTells", named := ["blotter/sum.nibbles"], apart := false, laid := [("blotter/sum.nibbles", laid_blotter_sum_nibbles)] }
def SumTellsSaid : Prop := sumTellsRow.holds Tryd.pinned (OpenSpec.ofChange sumTellsSpec)

/-- ITS FALSE NEIGHBOUR: 'it returns false'. Refute it at one input. -/
def sumTellsWrong : ChangeSpec := { name := "sumTells", fn := fun _ => fun
  | [d1, d2, d3] => { results := [.lit (.bool false)], args := [d1, d2, d3] }
  | _ => none }
def SumTellsWrongFalsely : Prop := sumTellsRow.holds Tryd.pinned (OpenSpec.ofChange sumTellsWrong)

/-- 'blotterlaw13.PagerTakes': WHATEVER THE INPUT: true; the input reads as it did. -/
def pagerTakesSpec : ChangeSpec := { name := "pagerTakes", fn := fun _ => fun
  | [d1, d2] => { results := [.lit (.bool true)], args := [d1, d2] }
  | _ => none }
def pagerTakesRow : OpenClaim := { program := "yteediemhcocgdaadoor", sum := "00f04568514aaec0a253e94351ebef1a51cd92b0cfa8537d5d4e4b04d3d15871", func := "blotter/blotterlaw13.PagerTakes", spec := "pagerTakes", inPlace := ["internal/reflectlite.ValueOf", "(internal/reflectlite.Value).Type", "(internal/reflectlite.Value).IsNil", "internal/reflectlite.TypeOf", "(internal/reflectlite.Value).Elem", "(internal/reflectlite.Value).Set"], unfollowed := true, recurses := true, named := ["blotter/sum.nibbles", "errors.errorType"], apart := false, laid := [("errors.errorType", laid_errors_errorType), ("blotter/sum.nibbles", laid_blotter_sum_nibbles)] }
def PagerTakesSaid : Prop := pagerTakesRow.holds Tryd.pinned (OpenSpec.ofChange pagerTakesSpec)

/-- ITS FALSE NEIGHBOUR: 'it returns false'. Refute it at one input. -/
def pagerTakesWrong : ChangeSpec := { name := "pagerTakes", fn := fun _ => fun
  | [d1, d2] => { results := [.lit (.bool false)], args := [d1, d2] }
  | _ => none }
def PagerTakesWrongFalsely : Prop := pagerTakesRow.holds Tryd.pinned (OpenSpec.ofChange pagerTakesWrong)

/-- 'blotterlaw12.WalBack': WHATEVER THE INPUT: true; the input reads as it did. -/
def walBackSpec : ChangeSpec := { name := "walBack", fn := fun _ => fun
  | [d1, d2, d3] => { results := [.lit (.bool true)], args := [d1, d2, d3] }
  | _ => none }
def walBackRow : OpenClaim := { program := "yteediemhcocgdaadoor", sum := "00f04568514aaec0a253e94351ebef1a51cd92b0cfa8537d5d4e4b04d3d15871", func := "blotter/blotterlaw12.WalBack", spec := "walBack", inPlace := ["internal/reflectlite.TypeOf", "internal/reflectlite.ValueOf", "(internal/reflectlite.Value).Type", "(internal/reflectlite.Value).IsNil", "(internal/reflectlite.Value).Elem", "(internal/reflectlite.Value).Set"], unfollowed := true, recurses := true, named := ["blotter/sum.nibbles", "errors.errorType"], apart := false, laid := [("errors.errorType", laid_errors_errorType), ("blotter/sum.nibbles", laid_blotter_sum_nibbles)] }
def WalBackSaid : Prop := walBackRow.holds Tryd.pinned (OpenSpec.ofChange walBackSpec)

/-- ITS FALSE NEIGHBOUR: 'it returns false'. Refute it at one input. -/
def walBackWrong : ChangeSpec := { name := "walBack", fn := fun _ => fun
  | [d1, d2, d3] => { results := [.lit (.bool false)], args := [d1, d2, d3] }
  | _ => none }
def WalBackWrongFalsely : Prop := walBackRow.holds Tryd.pinned (OpenSpec.ofChange walBackWrong)

/-- 'blotterlaw12.WalApart': WHATEVER THE INPUT: true; the input reads as it did. -/
def walApartSpec : ChangeSpec := { name := "walApart", fn := fun _ => fun
  | [d1, d2] => { results := [.lit (.bool true)], args := [d1, d2] }
  | _ => none }
def walApartRow : OpenClaim := { program := "yteediemhcocgdaadoor", sum := "00f04568514aaec0a253e94351ebef1a51cd92b0cfa8537d5d4e4b04d3d15871", func := "blotter/blotterlaw12.WalApart", spec := "walApart", inPlace := ["internal/reflectlite.TypeOf", "internal/reflectlite.ValueOf", "(internal/reflectlite.Value).Type", "(internal/reflectlite.Value).IsNil", "(internal/reflectlite.Value).Elem", "(internal/reflectlite.Value).Set"], unfollowed := true, recurses := true, named := ["blotter/sum.nibbles", "errors.errorType"], apart := false, laid := [("errors.errorType", laid_errors_errorType), ("blotter/sum.nibbles", laid_blotter_sum_nibbles)] }
def WalApartSaid : Prop := walApartRow.holds Tryd.pinned (OpenSpec.ofChange walApartSpec)

/-- ITS FALSE NEIGHBOUR: 'it returns false'. Refute it at one input. -/
def walApartWrong : ChangeSpec := { name := "walApart", fn := fun _ => fun
  | [d1, d2] => { results := [.lit (.bool false)], args := [d1, d2] }
  | _ => none }
def WalApartWrongFalsely : Prop := walApartRow.holds Tryd.pinned (OpenSpec.ofChange walApartWrong)

/-- 'blotterlaw12.WalRooms': WHATEVER THE INPUT: true; the input reads as it did. -/
def walRoomsSpec : ChangeSpec := { name := "walRooms", fn := fun _ => fun
  | [d1, d2] => { results := [.lit (.bool true)], args := [d1, d2] }
  | _ => none }
def walRoomsRow : OpenClaim := { program := "yteediemhcocgdaadoor", sum := "00f04568514aaec0a253e94351ebef1a51cd92b0cfa8537d5d4e4b04d3d15871", func := "blotter/blotterlaw12.WalRooms", spec := "walRooms", inPlace := ["internal/reflectlite.TypeOf", "internal/reflectlite.ValueOf", "(internal/reflectlite.Value).Type", "(internal/reflectlite.Value).IsNil", "(internal/reflectlite.Value).Elem", "(internal/reflectlite.Value).Set"], unfollowed := true, recurses := true, named := ["blotter/sum.nibbles", "errors.errorType"], apart := false, laid := [("errors.errorType", laid_errors_errorType), ("blotter/sum.nibbles", laid_blotter_sum_nibbles)] }
def WalRoomsSaid : Prop := walRoomsRow.holds Tryd.pinned (OpenSpec.ofChange walRoomsSpec)

/-- ITS FALSE NEIGHBOUR: 'it returns false'. Refute it at one input. -/
def walRoomsWrong : ChangeSpec := { name := "walRooms", fn := fun _ => fun
  | [d1, d2] => { results := [.lit (.bool false)], args := [d1, d2] }
  | _ => none }
def WalRoomsWrongFalsely : Prop := walRoomsRow.holds Tryd.pinned (OpenSpec.ofChange walRoomsWrong)

/-- 'blotterlaw12.WalPower': WHATEVER THE INPUT: true; the input reads as it did. -/
def walPowerSpec : ChangeSpec := { name := "walPower", fn := fun _ => fun
  | [d1, d2, d3, d4, d5, d6, d7, d8] => { results := [.lit (.bool true)], args := [d1, d2, d3, d4, d5, d6, d7, d8] }
  | _ => none }
def walPowerRow : OpenClaim := { program := "yteediemhcocgdaadoor", sum := "00f04568514aaec0a253e94351ebef1a51cd92b0cfa8537d5d4e4b04d3d15871", func := "blotter/blotterlaw12.WalPower", spec := "walPower", inPlace := ["internal/reflectlite.TypeOf", "internal/reflectlite.ValueOf", "(internal/reflectlite.Value).Type", "(internal/reflectlite.Value).IsNil", "(internal/reflectlite.Value).Elem", "(internal/reflectlite.Value).Set"], unfollowed := true, recurses := true, named := ["blotter/sum.nibbles", "errors.errorType"], apart := false, laid := [("errors.errorType", laid_errors_errorType), ("blotter/sum.nibbles", laid_blotter_sum_nibbles)] }
def WalPowerSaid : Prop := walPowerRow.holds Tryd.pinned (OpenSpec.ofChange walPowerSpec)

/-- ITS FALSE NEIGHBOUR: 'it returns false'. Refute it at one input. -/
def walPowerWrong : ChangeSpec := { name := "walPower", fn := fun _ => fun
  | [d1, d2, d3, d4, d5, d6, d7, d8] => { results := [.lit (.bool false)], args := [d1, d2, d3, d4, d5, d6, d7, d8] }
  | _ => none }
def WalPowerWrongFalsely : Prop := walPowerRow.holds Tryd.pinned (OpenSpec.ofChange walPowerWrong)

/-- 'blotterlaw13.PagerWrites': WHATEVER THE INPUT: true; the input reads as it did. -/
def pagerWritesSpec : ChangeSpec := { name := "pagerWrites", fn := fun _ => fun
  | [d1, d2] => { results := [.lit (.bool true)], args := [d1, d2] }
  | _ => none }
def pagerWritesRow : OpenClaim := { program := "yteediemhcocgdaadoor", sum := "00f04568514aaec0a253e94351ebef1a51cd92b0cfa8537d5d4e4b04d3d15871", func := "blotter/blotterlaw13.PagerWrites", spec := "pagerWrites", inPlace := ["internal/reflectlite.ValueOf", "(internal/reflectlite.Value).Type", "(internal/reflectlite.Value).IsNil", "internal/reflectlite.TypeOf", "(internal/reflectlite.Value).Elem", "(internal/reflectlite.Value).Set"], unfollowed := true, recurses := true, named := ["blotter/sum.nibbles", "errors.errorType"], apart := false, laid := [("errors.errorType", laid_errors_errorType), ("blotter/sum.nibbles", laid_blotter_sum_nibbles)] }
def PagerWritesSaid : Prop := pagerWritesRow.holds Tryd.pinned (OpenSpec.ofChange pagerWritesSpec)

/-- ITS FALSE NEIGHBOUR: 'it returns false'. Refute it at one input. -/
def pagerWritesWrong : ChangeSpec := { name := "pagerWrites", fn := fun _ => fun
  | [d1, d2] => { results := [.lit (.bool false)], args := [d1, d2] }
  | _ => none }
def PagerWritesWrongFalsely : Prop := pagerWritesRow.holds Tryd.pinned (OpenSpec.ofChange pagerWritesWrong)

/-- 'blotterlaw13.PagerSafe': WHATEVER THE INPUT: true; the input reads as it did. -/
def pagerSafeSpec : ChangeSpec := { name := "pagerSafe", fn := fun _ => fun
  | [d1, d2, d3, d4, d5] => { results := [.lit (.bool true)], args := [d1, d2, d3, d4, d5] }
  | _ => none }
def pagerSafeRow : OpenClaim := { program := "yteediemhcocgdaadoor", sum := "00f04568514aaec0a253e94351ebef1a51cd92b0cfa8537d5d4e4b04d3d15871", func := "blotter/blotterlaw13.PagerSafe", spec := "pagerSafe", inPlace := ["internal/reflectlite.ValueOf", "(internal/reflectlite.Value).Type", "(internal/reflectlite.Value).IsNil", "internal/reflectlite.TypeOf", "(internal/reflectlite.Value).Elem", "(internal/reflectlite.Value).Set"], unfollowed := true, recurses := true, named := ["blotter/sum.nibbles", "errors.errorType"], apart := false, laid := [("errors.errorType", laid_errors_errorType), ("blotter/sum.nibbles", laid_blotter_sum_nibbles)] }
def PagerSafeSaid : Prop := pagerSafeRow.holds Tryd.pinned (OpenSpec.ofChange pagerSafeSpec)

/-- ITS FALSE NEIGHBOUR: 'it returns false'. Refute it at one input. -/
def pagerSafeWrong : ChangeSpec := { name := "pagerSafe", fn := fun _ => fun
  | [d1, d2, d3, d4, d5] => { results := [.lit (.bool false)], args := [d1, d2, d3, d4, d5] }
  | _ => none }
def PagerSafeWrongFalsely : Prop := pagerSafeRow.holds Tryd.pinned (OpenSpec.ofChange pagerSafeWrong)

/- THE SECOND FORM. 'bulk': how many values and letters a reading holds, each counted each time it is reached (what is shared counts as often as it is met; a slice's spare places count too). A statement '..UptoSaid' is the law's where the arguments, and the package variables that the reading takes, are together of bulk at most 1048576: NARROWER than '..Said'. Prove '..Said' where nothing that the law and all that it calls make is longer than what came in: it says more and counts as full. Else prove '..UptoSaid'. A law counts once. -/
mutual
def uptoBulk {H : Type} : DataW H → Nat
  | .lit (.string bytes) => bytes.length + 1
  | .lit _ => 1
  | .nil => 1
  | .ptr d => uptoBulk d + 1
  | .slice elems spare => uptoBulkAll elems + uptoBulkAll spare + 1
  | .agg parts => uptoBulkAll parts + 1
  | .iface _ d => uptoBulk d + 1
  | .map entries => uptoBulkEntries entries + 1
  | .held _ => 1
def uptoBulkAll {H : Type} : List (DataW H) → Nat
  | [] => 0
  | d :: r => uptoBulk d + uptoBulkAll r
def uptoBulkEntries {H : Type} : List (Lit × DataW H) → Nat
  | [] => 0
  | x :: r => uptoBulkEntry x + uptoBulkEntries r
def uptoBulkEntry {H : Type} : Lit × DataW H → Nat
  | (.string bytes, d) => bytes.length + uptoBulk d + 1
  | (_, d) => uptoBulk d + 1
 end
def uptoSmall : (H : Type) → List (DataW H) → Bool := fun _ ds => decide (uptoBulkAll ds ≤ 1048576)
def OpenSpec.upto (s : _root_.Go.ChangeSpec) : _root_.Go.OpenSpec := { _root_.Go.OpenSpec.ofChange s with cond := some uptoSmall }

/-- 'blotterlaw09.SumOrder', WHERE WHAT IT READS IS OF BULK AT MOST 1048576: true; the input reads as it did. -/
def sumOrderUptoRow : OpenClaim := { program := "yteediemhcocgdaadoor", sum := "00f04568514aaec0a253e94351ebef1a51cd92b0cfa8537d5d4e4b04d3d15871", func := "blotter/blotterlaw09.SumOrder", spec := "sumOrder", named := ["blotter/sum.nibbles"], apart := false, laid := [("blotter/sum.nibbles", laid_blotter_sum_nibbles)], narrowed := true }
def SumOrderUptoSaid : Prop := sumOrderUptoRow.holds Tryd.pinned (OpenSpec.upto sumOrderSpec)

/-- 'blotterlaw09.SumWorks', WHERE WHAT IT READS IS OF BULK AT MOST 1048576: true; the input reads as it did. -/
def sumWorksUptoRow : OpenClaim := { program := "yteediemhcocgdaadoor", sum := "00f04568514aaec0a253e94351ebef1a51cd92b0cfa8537d5d4e4b04d3d15871", func := "blotter/blotterlaw09.SumWorks", spec := "sumWorks", named := ["blotter/sum.nibbles"], apart := false, laid := [("blotter/sum.nibbles", laid_blotter_sum_nibbles)], narrowed := true }
def SumWorksUptoSaid : Prop := sumWorksUptoRow.holds Tryd.pinned (OpenSpec.upto sumWorksSpec)

/-- 'blotterlaw09.SumBack', WHERE WHAT IT READS IS OF BULK AT MOST 1048576: true; the input reads as it did. -/
def sumBackUptoRow : OpenClaim := { program := "yteediemhcocgdaadoor", sum := "00f04568514aaec0a253e94351ebef1a51cd92b0cfa8537d5d4e4b04d3d15871", func := "blotter/blotterlaw09.SumBack", spec := "sumBack", named := ["blotter/sum.nibbles"], apart := false, laid := [("blotter/sum.nibbles", laid_blotter_sum_nibbles)], narrowed := true }
def SumBackUptoSaid : Prop := sumBackUptoRow.holds Tryd.pinned (OpenSpec.upto sumBackSpec)

/-- 'blotterlaw09.SumTells', WHERE WHAT IT READS IS OF BULK AT MOST 1048576: true; the input reads as it did. -/
def sumTellsUptoRow : OpenClaim := { program := "yteediemhcocgdaadoor", sum := "00f04568514aaec0a253e94351ebef1a51cd92b0cfa8537d5d4e4b04d3d15871", func := "blotter/blotterlaw09.SumTells", spec := "sumTells", named := ["blotter/sum.nibbles"], apart := false, laid := [("blotter/sum.nibbles", laid_blotter_sum_nibbles)], narrowed := true }
def SumTellsUptoSaid : Prop := sumTellsUptoRow.holds Tryd.pinned (OpenSpec.upto sumTellsSpec)

/-- 'blotterlaw13.PagerTakes', WHERE WHAT IT READS IS OF BULK AT MOST 1048576: true; the input reads as it did. -/
def pagerTakesUptoRow : OpenClaim := { program := "yteediemhcocgdaadoor", sum := "00f04568514aaec0a253e94351ebef1a51cd92b0cfa8537d5d4e4b04d3d15871", func := "blotter/blotterlaw13.PagerTakes", spec := "pagerTakes", inPlace := ["internal/reflectlite.ValueOf", "(internal/reflectlite.Value).Type", "(internal/reflectlite.Value).IsNil", "internal/reflectlite.TypeOf", "(internal/reflectlite.Value).Elem", "(internal/reflectlite.Value).Set"], unfollowed := true, recurses := true, named := ["blotter/sum.nibbles", "errors.errorType"], apart := false, laid := [("errors.errorType", laid_errors_errorType), ("blotter/sum.nibbles", laid_blotter_sum_nibbles)], narrowed := true }
def PagerTakesUptoSaid : Prop := pagerTakesUptoRow.holds Tryd.pinned (OpenSpec.upto pagerTakesSpec)

/-- 'blotterlaw12.WalBack', WHERE WHAT IT READS IS OF BULK AT MOST 1048576: true; the input reads as it did. -/
def walBackUptoRow : OpenClaim := { program := "yteediemhcocgdaadoor", sum := "00f04568514aaec0a253e94351ebef1a51cd92b0cfa8537d5d4e4b04d3d15871", func := "blotter/blotterlaw12.WalBack", spec := "walBack", inPlace := ["internal/reflectlite.TypeOf", "internal/reflectlite.ValueOf", "(internal/reflectlite.Value).Type", "(internal/reflectlite.Value).IsNil", "(internal/reflectlite.Value).Elem", "(internal/reflectlite.Value).Set"], unfollowed := true, recurses := true, named := ["blotter/sum.nibbles", "errors.errorType"], apart := false, laid := [("errors.errorType", laid_errors_errorType), ("blotter/sum.nibbles", laid_blotter_sum_nibbles)], narrowed := true }
def WalBackUptoSaid : Prop := walBackUptoRow.holds Tryd.pinned (OpenSpec.upto walBackSpec)

/-- 'blotterlaw12.WalApart', WHERE WHAT IT READS IS OF BULK AT MOST 1048576: true; the input reads as it did. -/
def walApartUptoRow : OpenClaim := { program := "yteediemhcocgdaadoor", sum := "00f04568514aaec0a253e94351ebef1a51cd92b0cfa8537d5d4e4b04d3d15871", func := "blotter/blotterlaw12.WalApart", spec := "walApart", inPlace := ["internal/reflectlite.TypeOf", "internal/reflectlite.ValueOf", "(internal/reflectlite.Value).Type", "(internal/reflectlite.Value).IsNil", "(internal/reflectlite.Value).Elem", "(internal/reflectlite.Value).Set"], unfollowed := true, recurses := true, named := ["blotter/sum.nibbles", "errors.errorType"], apart := false, laid := [("errors.errorType", laid_errors_errorType), ("blotter/sum.nibbles", laid_blotter_sum_nibbles)], narrowed := true }
def WalApartUptoSaid : Prop := walApartUptoRow.holds Tryd.pinned (OpenSpec.upto walApartSpec)

/-- 'blotterlaw12.WalRooms', WHERE WHAT IT READS IS OF BULK AT MOST 1048576: true; the input reads as it did. -/
def walRoomsUptoRow : OpenClaim := { program := "yteediemhcocgdaadoor", sum := "00f04568514aaec0a253e94351ebef1a51cd92b0cfa8537d5d4e4b04d3d15871", func := "blotter/blotterlaw12.WalRooms", spec := "walRooms", inPlace := ["internal/reflectlite.TypeOf", "internal/reflectlite.ValueOf", "(internal/reflectlite.Value).Type", "(internal/reflectlite.Value).IsNil", "(internal/reflectlite.Value).Elem", "(internal/reflectlite.Value).Set"], unfollowed := true, recurses := true, named := ["blotter/sum.nibbles", "errors.errorType"], apart := false, laid := [("errors.errorType", laid_errors_errorType), ("blotter/sum.nibbles", laid_blotter_sum_nibbles)], narrowed := true }
def WalRoomsUptoSaid : Prop := walRoomsUptoRow.holds Tryd.pinned (OpenSpec.upto walRoomsSpec)

/-- 'blotterlaw12.WalPower', WHERE WHAT IT READS IS OF BULK AT MOST 1048576: true; the input reads as it did. -/
def walPowerUptoRow : OpenClaim := { program := "yteediemhcocgdaadoor", sum := "00f04568514aaec0a253e94351ebef1a51cd92b0cfa8537d5d4e4b04d3d15871", func := "blotter/blotterlaw12.WalPower", spec := "walPower", inPlace := ["internal/reflectlite.TypeOf", "internal/reflectlite.ValueOf", "(internal/reflectlite.Value).Type", "(internal/reflectlite.Value).IsNil", "(internal/reflectlite.Value).Elem", "(internal/reflectlite.Value).Set"], unfollowed := true, recurses := true, named := ["blotter/sum.nibbles", "errors.errorType"], apart := false, laid := [("errors.errorType", laid_errors_errorType), ("blotter/sum.nibbles", laid_blotter_sum_nibbles)], narrowed := true }
def WalPowerUptoSaid : Prop := walPowerUptoRow.holds Tryd.pinned (OpenSpec.upto walPowerSpec)

/-- 'blotterlaw13.PagerWrites', WHERE WHAT IT READS IS OF BULK AT MOST 1048576: true; the input reads as it did. -/
def pagerWritesUptoRow : OpenClaim := { program := "yteediemhcocgdaadoor", sum := "00f04568514aaec0a253e94351ebef1a51cd92b0cfa8537d5d4e4b04d3d15871", func := "blotter/blotterlaw13.PagerWrites", spec := "pagerWrites", inPlace := ["internal/reflectlite.ValueOf", "(internal/reflectlite.Value).Type", "(internal/reflectlite.Value).IsNil", "internal/reflectlite.TypeOf", "(internal/reflectlite.Value).Elem", "(internal/reflectlite.Value).Set"], unfollowed := true, recurses := true, named := ["blotter/sum.nibbles", "errors.errorType"], apart := false, laid := [("errors.errorType", laid_errors_errorType), ("blotter/sum.nibbles", laid_blotter_sum_nibbles)], narrowed := true }
def PagerWritesUptoSaid : Prop := pagerWritesUptoRow.holds Tryd.pinned (OpenSpec.upto pagerWritesSpec)

/-- 'blotterlaw13.PagerSafe', WHERE WHAT IT READS IS OF BULK AT MOST 1048576: true; the input reads as it did. -/
def pagerSafeUptoRow : OpenClaim := { program := "yteediemhcocgdaadoor", sum := "00f04568514aaec0a253e94351ebef1a51cd92b0cfa8537d5d4e4b04d3d15871", func := "blotter/blotterlaw13.PagerSafe", spec := "pagerSafe", inPlace := ["internal/reflectlite.ValueOf", "(internal/reflectlite.Value).Type", "(internal/reflectlite.Value).IsNil", "internal/reflectlite.TypeOf", "(internal/reflectlite.Value).Elem", "(internal/reflectlite.Value).Set"], unfollowed := true, recurses := true, named := ["blotter/sum.nibbles", "errors.errorType"], apart := false, laid := [("errors.errorType", laid_errors_errorType), ("blotter/sum.nibbles", laid_blotter_sum_nibbles)], narrowed := true }
def PagerSafeUptoSaid : Prop := pagerSafeUptoRow.holds Tryd.pinned (OpenSpec.upto pagerSafeSpec)

end Rows
end Go.Proofs.YteediemhcocgdaaDoor
