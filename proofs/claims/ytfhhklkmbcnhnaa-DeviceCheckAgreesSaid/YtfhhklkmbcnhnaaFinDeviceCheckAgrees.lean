/-
  The law DeviceCheckAgrees of the given program answers true for every input and leaves its arguments as they were. No condition.
-/
import Derived.Test.YtfhhklkmbcnhnaaRowDeviceCheckAgrees
import Derived.Test.YtfhhklkmbcnhnaaPuCheck
namespace Go.Proofs.Ytfhhklkmbcnhnaa

theorem deviceCheckAgrees_holds : Rows.DeviceCheckAgreesSaid := Sim.RowDeviceCheckAgrees.over Sim.checkAgrees

#print axioms deviceCheckAgrees_holds

end Go.Proofs.Ytfhhklkmbcnhnaa
