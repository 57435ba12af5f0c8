/-
  The law DeviceTargetAgrees of the given program answers true for every input and leaves its arguments as they were. No condition.
-/
import Derived.Test.YtfhhklkmbcnhnaaRowDeviceTargetAgrees
import Derived.Test.YtfhhklkmbcnhnaaPuTarget
namespace Go.Proofs.Ytfhhklkmbcnhnaa

theorem deviceTargetAgrees_holds : Rows.DeviceTargetAgreesSaid := Sim.RowDeviceTargetAgrees.over Sim.targetAgrees

#print axioms deviceTargetAgrees_holds

end Go.Proofs.Ytfhhklkmbcnhnaa
