/-
  The law RuntimepmClosure of the given program answers true for every input and leaves its arguments as they were. No condition.
-/
import Derived.Test.YtcfcffbjdjacfaaZRuntimepmClosure7
namespace Go.Proofs.Ytcfcffbjdjacfaa

theorem runtimepmClosure_holds : Rows.RuntimepmClosureSaid := Sim.RowRuntimepmClosure.over Sim.runtimepmClosure

#print axioms runtimepmClosure_holds

end Go.Proofs.Ytcfcffbjdjacfaa
