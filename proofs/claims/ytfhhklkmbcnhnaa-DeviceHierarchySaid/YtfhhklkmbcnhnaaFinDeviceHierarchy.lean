/-
  The law DeviceHierarchy of the given program answers true for every input and leaves its arguments as they were. No condition.
-/
import Derived.Test.YtfhhklkmbcnhnaaZDeviceHierarchy8
namespace Go.Proofs.Ytfhhklkmbcnhnaa

theorem deviceHierarchy_holds : Rows.DeviceHierarchySaid := Sim.RowDeviceHierarchy.over Sim.deviceHierarchy

#print axioms deviceHierarchy_holds

end Go.Proofs.Ytfhhklkmbcnhnaa
