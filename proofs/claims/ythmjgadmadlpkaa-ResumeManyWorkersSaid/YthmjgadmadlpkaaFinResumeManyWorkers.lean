/-
  The law ResumeManyWorkers of the given program answers true for every input and leaves its arguments as they were. No condition.
-/
import Derived.Test.YthmjgadmadlpkaaZResumeManyWorkers5
namespace Go.Proofs.Ythmjgadmadlpkaa

theorem resumeManyWorkers_holds : Rows.ResumeManyWorkersSaid := Sim.RowResumeManyWorkers.over Sim.resumeManyWorkers

#print axioms resumeManyWorkers_holds

end Go.Proofs.Ythmjgadmadlpkaa
