/-
  The law ResumeFollowsLevels of the given program answers true for every input and leaves its arguments as they were. No condition.
-/
import Derived.Test.YthmjgadmadlpkaaZResumeFollowsLevels5
namespace Go.Proofs.Ythmjgadmadlpkaa

theorem resumeFollowsLevels_holds : Rows.ResumeFollowsLevelsSaid := Sim.RowResumeFollowsLevels.over Sim.resumeFollowsLevels

#print axioms resumeFollowsLevels_holds

end Go.Proofs.Ythmjgadmadlpkaa
