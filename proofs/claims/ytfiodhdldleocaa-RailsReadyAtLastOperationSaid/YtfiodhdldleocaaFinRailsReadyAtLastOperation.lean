/-
  The law RailsReadyAtLastOperation of the given program answers true for every input and leaves its arguments as they were. No condition.
-/
import Derived.Test.YtfiodhdldleocaaRowRailsReadyAtLastOperation
import Derived.Test.YtfiodhdldleocaaPReady
namespace Go.Proofs.Ytfiodhdldleocaa

theorem railsReadyAtLastOperation_holds : Rows.RailsReadyAtLastOperationSaid := Sim.RowRailsReadyAtLastOperation.over Sim.pureReady

#print axioms railsReadyAtLastOperation_holds

end Go.Proofs.Ytfiodhdldleocaa
