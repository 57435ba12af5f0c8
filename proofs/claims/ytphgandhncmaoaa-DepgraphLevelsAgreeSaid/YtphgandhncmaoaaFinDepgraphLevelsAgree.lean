/-
  The law DepgraphLevelsAgree of the given program answers true for every input and leaves its arguments as they were. No condition.
-/
import Derived.Test.YtphgandhncmaoaaRowDepgraphLevelsAgree
import Derived.Test.YtphgandhncmaoaaPuLevels
namespace Go.Proofs.Ytphgandhncmaoaa

theorem depgraphLevelsAgree_holds : Rows.DepgraphLevelsAgreeSaid := Sim.RowDepgraphLevelsAgree.over Sim.levelsAgree

#print axioms depgraphLevelsAgree_holds

end Go.Proofs.Ytphgandhncmaoaa
