/-
  The law ResumeOneWorker of the given program answers true for every input and leaves its arguments as they were. No condition.
-/
import Derived.Test.YthmjgadmadlpkaaZResumeOneWorker5
namespace Go.Proofs.Ythmjgadmadlpkaa

theorem resumeOneWorker_holds : Rows.ResumeOneWorkerSaid := Sim.RowResumeOneWorker.over Sim.resumeOneWorker

#print axioms resumeOneWorker_holds

end Go.Proofs.Ythmjgadmadlpkaa
