/-
  The builtin append kept whole in a walk: under a name of its own, so that a fact on its run is met.
-/
import Derived.Test.YteediemhcocgdaaDoorWords
namespace Go.Proofs.YteediemhcocgdaaDoor
open Go.RowKit

def appSem (ts : Array TypeId) (ty : TypeId) (vs : Array Value) : Sem Value := Builtin.append_ ts ty vs
theorem appSem_eq (ts : Array TypeId) (ty : TypeId) (vs : Array Value) : Builtin.append_ ts ty vs = appSem ts ty vs := rfl
end Go.Proofs.YteediemhcocgdaaDoor
