/-
  The law RuntimepmOperationsOrdered of the given program answers true for every input and leaves its arguments as they were. No condition.
-/
import Derived.Test.YtcfcffbjdjacfaaZRuntimepmOperationsOrdered7
namespace Go.Proofs.Ytcfcffbjdjacfaa

theorem runtimepmOperationsOrdered_holds : Rows.RuntimepmOperationsOrderedSaid := Sim.RowRuntimepmOperationsOrdered.over Sim.runtimepmOperationsOrdered

#print axioms runtimepmOperationsOrdered_holds

end Go.Proofs.Ytcfcffbjdjacfaa
