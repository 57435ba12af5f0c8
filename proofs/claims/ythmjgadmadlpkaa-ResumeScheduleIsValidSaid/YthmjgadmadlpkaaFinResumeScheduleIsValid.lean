/-
  The law ResumeScheduleIsValid of the given program answers true for every input and leaves its arguments as they were. No condition.
-/
import Derived.Test.YthmjgadmadlpkaaZResumeScheduleIsValid5
namespace Go.Proofs.Ythmjgadmadlpkaa

theorem resumeScheduleIsValid_holds : Rows.ResumeScheduleIsValidSaid := Sim.RowResumeScheduleIsValid.over Sim.resumeScheduleIsValid

#print axioms resumeScheduleIsValid_holds

end Go.Proofs.Ythmjgadmadlpkaa
