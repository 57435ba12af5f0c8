/-
  The law DepgraphOrderIsTopological of the given program answers true for every input and leaves its arguments as they were. No condition.
-/
import Derived.Test.YtphgandhncmaoaaRowDepgraphOrderIsTopological
import Derived.Test.YtphgandhncmaoaaPuOrder
namespace Go.Proofs.Ytphgandhncmaoaa

theorem depgraphOrderIsTopological_holds : Rows.DepgraphOrderIsTopologicalSaid := Sim.RowDepgraphOrderIsTopological.over Sim.orderIsTopological

#print axioms depgraphOrderIsTopological_holds

end Go.Proofs.Ytphgandhncmaoaa
