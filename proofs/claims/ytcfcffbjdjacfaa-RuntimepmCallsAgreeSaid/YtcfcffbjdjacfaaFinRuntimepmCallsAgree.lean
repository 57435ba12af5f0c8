/-
  The law RuntimepmCallsAgree of the given program answers true for every input and leaves its arguments as they were. No condition.
-/
import Derived.Test.YtcfcffbjdjacfaaZRuntimepmCallsAgree7
namespace Go.Proofs.Ytcfcffbjdjacfaa

theorem runtimepmCallsAgree_holds : Rows.RuntimepmCallsAgreeSaid := Sim.RowRuntimepmCallsAgree.over Sim.runtimepmCallsAgree

#print axioms runtimepmCallsAgree_holds

end Go.Proofs.Ytcfcffbjdjacfaa
