/-
  The law DepgraphCheckAgrees of the given program answers true for every input and leaves its arguments as they were. No condition.
-/
import Derived.Test.YtphgandhncmaoaaRowDepgraphCheckAgrees
import Derived.Test.YtphgandhncmaoaaPuOrder
namespace Go.Proofs.Ytphgandhncmaoaa

theorem depgraphCheckAgrees_holds : Rows.DepgraphCheckAgreesSaid := Sim.RowDepgraphCheckAgrees.over Sim.checkAgrees

#print axioms depgraphCheckAgrees_holds

end Go.Proofs.Ytphgandhncmaoaa
