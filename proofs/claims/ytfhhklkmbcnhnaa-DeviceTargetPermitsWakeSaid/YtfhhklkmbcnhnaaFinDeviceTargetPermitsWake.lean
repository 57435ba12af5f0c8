/-
  The law DeviceTargetPermitsWake of the given program answers true for every input and leaves its arguments as they were. No condition.
-/
import Derived.Test.YtfhhklkmbcnhnaaRowDeviceTargetPermitsWake
import Derived.Test.YtfhhklkmbcnhnaaPuTarget
namespace Go.Proofs.Ytfhhklkmbcnhnaa

theorem deviceTargetPermitsWake_holds : Rows.DeviceTargetPermitsWakeSaid := Sim.RowDeviceTargetPermitsWake.over Sim.targetPermitsWake

#print axioms deviceTargetPermitsWake_holds

end Go.Proofs.Ytfhhklkmbcnhnaa
