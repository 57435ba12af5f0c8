/-
  The law DepgraphClosuresAgree of the given program answers true for every input and leaves its arguments as they were. No condition.
-/
import Derived.Test.YtphgandhncmaoaaRowDepgraphClosuresAgree
import Derived.Test.YtphgandhncmaoaaPuClosure
namespace Go.Proofs.Ytphgandhncmaoaa

theorem depgraphClosuresAgree_holds : Rows.DepgraphClosuresAgreeSaid := Sim.RowDepgraphClosuresAgree.over Sim.closuresAgree

#print axioms depgraphClosuresAgree_holds

end Go.Proofs.Ytphgandhncmaoaa
