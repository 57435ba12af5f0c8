/-
  The law DepgraphCheckLimits of the given program answers true for every input and leaves its arguments as they were. No condition.
-/
import Derived.Test.YtphgandhncmaoaaRowDepgraphCheckLimits
import Derived.Test.YtphgandhncmaoaaPuLimits
namespace Go.Proofs.Ytphgandhncmaoaa

theorem depgraphCheckLimits_holds : Rows.DepgraphCheckLimitsSaid := Sim.RowDepgraphCheckLimits.over Sim.checkLimits

#print axioms depgraphCheckLimits_holds

end Go.Proofs.Ytphgandhncmaoaa
