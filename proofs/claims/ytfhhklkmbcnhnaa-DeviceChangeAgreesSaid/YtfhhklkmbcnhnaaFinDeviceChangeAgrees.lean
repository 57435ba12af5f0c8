/-
  The law DeviceChangeAgrees of the given program answers true for every input and leaves its arguments as they were. No condition.
-/
import Derived.Test.YtfhhklkmbcnhnaaRowDeviceChangeAgrees
import Derived.Test.YtfhhklkmbcnhnaaPuChange
namespace Go.Proofs.Ytfhhklkmbcnhnaa

theorem deviceChangeAgrees_holds : Rows.DeviceChangeAgreesSaid := Sim.RowDeviceChangeAgrees.over Sim.changeAgrees

#print axioms deviceChangeAgrees_holds

end Go.Proofs.Ytfhhklkmbcnhnaa
