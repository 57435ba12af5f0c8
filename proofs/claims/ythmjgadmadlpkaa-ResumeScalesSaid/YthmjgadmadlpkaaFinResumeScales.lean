/-
  The law ResumeScales of the given program answers true for every input and leaves its arguments as they were. No condition.
-/
import Derived.Test.YthmjgadmadlpkaaZResumeScales5
namespace Go.Proofs.Ythmjgadmadlpkaa

theorem resumeScales_holds : Rows.ResumeScalesSaid := Sim.RowResumeScales.over Sim.resumeScales

#print axioms resumeScales_holds

end Go.Proofs.Ythmjgadmadlpkaa
