/-
  The law DeviceChangeIsReversible of the given program answers true for every input and leaves its arguments as they were. No condition.
-/
import Derived.Test.YtfhhklkmbcnhnaaRowDeviceChangeIsReversible
import Derived.Test.YtfhhklkmbcnhnaaPuChange
namespace Go.Proofs.Ytfhhklkmbcnhnaa

theorem deviceChangeIsReversible_holds : Rows.DeviceChangeIsReversibleSaid := Sim.RowDeviceChangeIsReversible.over Sim.changeIsReversible

#print axioms deviceChangeIsReversible_holds

end Go.Proofs.Ytfhhklkmbcnhnaa
