/-
  The law DepgraphCycleAgrees of the given program answers true for every input and leaves its arguments as they were. No condition.
-/
import Derived.Test.YtphgandhncmaoaaRowDepgraphCycleAgrees
import Derived.Test.YtphgandhncmaoaaPuCycle
namespace Go.Proofs.Ytphgandhncmaoaa

theorem depgraphCycleAgrees_holds : Rows.DepgraphCycleAgreesSaid := Sim.RowDepgraphCycleAgrees.over Sim.cycleAgrees

#print axioms depgraphCycleAgrees_holds

end Go.Proofs.Ytphgandhncmaoaa
