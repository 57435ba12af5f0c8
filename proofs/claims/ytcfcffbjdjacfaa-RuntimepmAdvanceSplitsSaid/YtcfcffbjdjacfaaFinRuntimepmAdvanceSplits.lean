/-
  The law RuntimepmAdvanceSplits of the given program answers true for every input and leaves its arguments as they were. No condition.
-/
import Derived.Test.YtcfcffbjdjacfaaZRuntimepmAdvanceSplits6
namespace Go.Proofs.Ytcfcffbjdjacfaa

theorem runtimepmAdvanceSplits_holds : Rows.RuntimepmAdvanceSplitsSaid := Sim.RowRuntimepmAdvanceSplits.over Sim.runtimepmAdvanceSplits

#print axioms runtimepmAdvanceSplits_holds

end Go.Proofs.Ytcfcffbjdjacfaa
