/-
  The law RailsSupplyIsOn of the given program answers true for every input and leaves its arguments as they were. No condition.
-/
import Derived.Test.YtfiodhdldleocaaRowRailsSupplyIsOn
import Derived.Test.YtfiodhdldleocaaPSup
namespace Go.Proofs.Ytfiodhdldleocaa

theorem railsSupplyIsOn_holds : Rows.RailsSupplyIsOnSaid := Sim.RowRailsSupplyIsOn.over Sim.pureSup

#print axioms railsSupplyIsOn_holds

end Go.Proofs.Ytfiodhdldleocaa
