/-
  The law ResumeScheduleAgrees of the given program answers true for every input and leaves its arguments as they were. No condition.
-/
import Derived.Test.YthmjgadmadlpkaaZResumeScheduleAgrees6
namespace Go.Proofs.Ythmjgadmadlpkaa

theorem resumeScheduleAgrees_holds : Rows.ResumeScheduleAgreesSaid := Sim.RowResumeScheduleAgrees.over Sim.resumeScheduleAgrees

#print axioms resumeScheduleAgrees_holds

end Go.Proofs.Ythmjgadmadlpkaa
