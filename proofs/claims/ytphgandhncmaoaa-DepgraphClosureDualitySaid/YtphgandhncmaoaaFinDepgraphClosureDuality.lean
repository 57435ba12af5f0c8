/-
  The law DepgraphClosureDuality of the given program answers true for every input and leaves its arguments as they were. No condition.
-/
import Derived.Test.YtphgandhncmaoaaRowDepgraphClosureDuality
import Derived.Test.YtphgandhncmaoaaPuClosure
namespace Go.Proofs.Ytphgandhncmaoaa

theorem depgraphClosureDuality_holds : Rows.DepgraphClosureDualitySaid := Sim.RowDepgraphClosureDuality.over Sim.closureDuality

#print axioms depgraphClosureDuality_holds

end Go.Proofs.Ytphgandhncmaoaa
