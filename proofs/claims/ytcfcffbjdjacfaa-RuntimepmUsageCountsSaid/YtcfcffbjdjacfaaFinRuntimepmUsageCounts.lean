/-
  The law RuntimepmUsageCounts of the given program answers true for every input and leaves its arguments as they were. No condition.
-/
import Derived.Test.YtcfcffbjdjacfaaZRuntimepmUsageCounts6
namespace Go.Proofs.Ytcfcffbjdjacfaa

theorem runtimepmUsageCounts_holds : Rows.RuntimepmUsageCountsSaid := Sim.RowRuntimepmUsageCounts.over Sim.runtimepmUsageCounts

#print axioms runtimepmUsageCounts_holds

end Go.Proofs.Ytcfcffbjdjacfaa
