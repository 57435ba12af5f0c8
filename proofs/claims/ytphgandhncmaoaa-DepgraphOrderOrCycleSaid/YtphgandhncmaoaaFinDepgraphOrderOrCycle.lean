/-
  The law DepgraphOrderOrCycle of the given program answers true for every input and leaves its arguments as they were. No condition.
-/
import Derived.Test.YtphgandhncmaoaaRowDepgraphOrderOrCycle
import Derived.Test.YtphgandhncmaoaaPuCycle
namespace Go.Proofs.Ytphgandhncmaoaa

theorem depgraphOrderOrCycle_holds : Rows.DepgraphOrderOrCycleSaid := Sim.RowDepgraphOrderOrCycle.over Sim.orderOrCycle

#print axioms depgraphOrderOrCycle_holds

end Go.Proofs.Ytphgandhncmaoaa
