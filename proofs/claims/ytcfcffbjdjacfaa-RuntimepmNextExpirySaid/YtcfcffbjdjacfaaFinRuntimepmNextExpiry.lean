/-
  The law RuntimepmNextExpiry of the given program answers true for every input and leaves its arguments as they were. No condition.
-/
import Derived.Test.YtcfcffbjdjacfaaZRuntimepmNextExpiry6
namespace Go.Proofs.Ytcfcffbjdjacfaa

theorem runtimepmNextExpiry_holds : Rows.RuntimepmNextExpirySaid := Sim.RowRuntimepmNextExpiry.over Sim.runtimepmNextExpiry

#print axioms runtimepmNextExpiry_holds

end Go.Proofs.Ytcfcffbjdjacfaa
