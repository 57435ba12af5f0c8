/-
  The law RailsCopiesAreIndependent of the given program answers true for every input and leaves its arguments as they were. No condition.
-/
import Derived.Test.YtfiodhdldleocaaRowRailsCopiesAreIndependent
import Derived.Test.YtfiodhdldleocaaP1
namespace Go.Proofs.Ytfiodhdldleocaa

theorem railsCopiesAreIndependent_holds : Rows.RailsCopiesAreIndependentSaid := Sim.RowRailsCopiesAreIndependent.over Sim.pureCopies

#print axioms railsCopiesAreIndependent_holds

end Go.Proofs.Ytfiodhdldleocaa
