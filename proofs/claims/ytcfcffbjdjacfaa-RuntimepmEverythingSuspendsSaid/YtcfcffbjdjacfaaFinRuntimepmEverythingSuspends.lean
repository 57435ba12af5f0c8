/-
  The law RuntimepmEverythingSuspends of the given program answers true for every input and leaves its arguments as they were. No condition.
-/
import Derived.Test.YtcfcffbjdjacfaaZRuntimepmEverythingSuspends6
namespace Go.Proofs.Ytcfcffbjdjacfaa

theorem runtimepmEverythingSuspends_holds : Rows.RuntimepmEverythingSuspendsSaid := Sim.RowRuntimepmEverythingSuspends.over Sim.runtimepmEverythingSuspends

#print axioms runtimepmEverythingSuspends_holds

end Go.Proofs.Ytcfcffbjdjacfaa
