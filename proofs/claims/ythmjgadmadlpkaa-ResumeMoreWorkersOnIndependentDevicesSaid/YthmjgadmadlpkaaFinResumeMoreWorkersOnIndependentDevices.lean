/-
  The law ResumeMoreWorkersOnIndependentDevices of the given program answers true for every input and leaves its arguments as they were. No condition.
-/
import Derived.Test.YthmjgadmadlpkaaZResumeMoreWorkersOnIndependentDevices6
namespace Go.Proofs.Ythmjgadmadlpkaa

theorem resumeMoreWorkersOnIndependentDevices_holds : Rows.ResumeMoreWorkersOnIndependentDevicesSaid := Sim.RowResumeMoreWorkersOnIndependentDevices.over Sim.resumeMoreWorkersOnIndependentDevices

#print axioms resumeMoreWorkersOnIndependentDevices_holds

end Go.Proofs.Ythmjgadmadlpkaa
