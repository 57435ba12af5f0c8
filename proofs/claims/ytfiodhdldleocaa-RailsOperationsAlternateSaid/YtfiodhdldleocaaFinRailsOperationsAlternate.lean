/-
  The law RailsOperationsAlternate of the given program answers true for every input and leaves its arguments as they were. No condition.
-/
import Derived.Test.YtfiodhdldleocaaRowRailsOperationsAlternate
import Derived.Test.YtfiodhdldleocaaPAlt
namespace Go.Proofs.Ytfiodhdldleocaa

theorem railsOperationsAlternate_holds : Rows.RailsOperationsAlternateSaid := Sim.RowRailsOperationsAlternate.over Sim.pureAlt

#print axioms railsOperationsAlternate_holds

end Go.Proofs.Ytfiodhdldleocaa
