/-
  The law RailsReleaseUndoesAcquire of the given program answers true for every input and leaves its arguments as they were. No condition.
-/
import Derived.Test.YtfiodhdldleocaaRowRailsReleaseUndoesAcquire
import Derived.Test.YtfiodhdldleocaaPUndo
namespace Go.Proofs.Ytfiodhdldleocaa

theorem railsReleaseUndoesAcquire_holds : Rows.RailsReleaseUndoesAcquireSaid := Sim.RowRailsReleaseUndoesAcquire.over Sim.pureUndo

#print axioms railsReleaseUndoesAcquire_holds

end Go.Proofs.Ytfiodhdldleocaa
