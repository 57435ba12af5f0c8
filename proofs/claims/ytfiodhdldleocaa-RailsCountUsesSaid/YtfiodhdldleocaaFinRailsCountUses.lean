/-
  The law RailsCountUses of the given program answers true for every input and leaves its arguments as they were. No condition.
-/
import Derived.Test.YtfiodhdldleocaaRowRailsCountUses
import Derived.Test.YtfiodhdldleocaaPUses
namespace Go.Proofs.Ytfiodhdldleocaa

theorem railsCountUses_holds : Rows.RailsCountUsesSaid := Sim.RowRailsCountUses.over Sim.pureUses

#print axioms railsCountUses_holds

end Go.Proofs.Ytfiodhdldleocaa
