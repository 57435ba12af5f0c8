/-
  The law RailsPoweredChain of the given program answers true for every input and leaves its arguments as they were. No condition.
-/
import Derived.Test.YtfiodhdldleocaaRowRailsPoweredChain
import Derived.Test.YtfiodhdldleocaaPChain
namespace Go.Proofs.Ytfiodhdldleocaa

theorem railsPoweredChain_holds : Rows.RailsPoweredChainSaid := Sim.RowRailsPoweredChain.over Sim.pureChain

#print axioms railsPoweredChain_holds

end Go.Proofs.Ytfiodhdldleocaa
