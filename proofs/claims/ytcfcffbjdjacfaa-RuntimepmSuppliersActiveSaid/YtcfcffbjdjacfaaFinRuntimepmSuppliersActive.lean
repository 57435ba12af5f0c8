/-
  The law RuntimepmSuppliersActive of the given program answers true for every input and leaves its arguments as they were. No condition.
-/
import Derived.Test.YtcfcffbjdjacfaaZRuntimepmSuppliersActive6
namespace Go.Proofs.Ytcfcffbjdjacfaa

theorem runtimepmSuppliersActive_holds : Rows.RuntimepmSuppliersActiveSaid := Sim.RowRuntimepmSuppliersActive.over Sim.runtimepmSuppliersActive

#print axioms runtimepmSuppliersActive_holds

end Go.Proofs.Ytcfcffbjdjacfaa
