/-
  The law RailsCallsAgree of the given program answers true for every input and leaves its arguments as they were. No condition.
-/
import Derived.Test.YtfiodhdldleocaaRowRailsCallsAgree
import Derived.Test.YtfiodhdldleocaaP1
namespace Go.Proofs.Ytfiodhdldleocaa

theorem railsCallsAgree_holds : Rows.RailsCallsAgreeSaid := Sim.RowRailsCallsAgree.over Sim.pureCalls

#print axioms railsCallsAgree_holds

end Go.Proofs.Ytfiodhdldleocaa
