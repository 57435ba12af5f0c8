/-
  The law RailsNewAgrees of the given program answers true for every input and leaves its arguments as they were. No condition.
-/
import Derived.Test.YtfiodhdldleocaaRowRailsNewAgrees
import Derived.Test.YtfiodhdldleocaaP1
namespace Go.Proofs.Ytfiodhdldleocaa

theorem railsNewAgrees_holds : Rows.RailsNewAgreesSaid := Sim.RowRailsNewAgrees.over Sim.pureNew

#print axioms railsNewAgrees_holds

end Go.Proofs.Ytfiodhdldleocaa
