/-
  The law DepgraphOrderAgrees of the given program answers true for every input and leaves its arguments as they were. No condition.
-/
import Derived.Test.YtphgandhncmaoaaRowDepgraphOrderAgrees
import Derived.Test.YtphgandhncmaoaaPuOrder
namespace Go.Proofs.Ytphgandhncmaoaa

theorem depgraphOrderAgrees_holds : Rows.DepgraphOrderAgreesSaid := Sim.RowDepgraphOrderAgrees.over Sim.orderAgrees

#print axioms depgraphOrderAgrees_holds

end Go.Proofs.Ytphgandhncmaoaa
