/-
  The law ResumeVerifyAgrees of the given program answers true for every input and leaves its arguments as they were. No condition.
-/
import Derived.Test.YthmjgadmadlpkaaZResumeVerifyAgrees6
namespace Go.Proofs.Ythmjgadmadlpkaa

theorem resumeVerifyAgrees_holds : Rows.ResumeVerifyAgreesSaid := Sim.RowResumeVerifyAgrees.over Sim.resumeVerifyAgrees

#print axioms resumeVerifyAgrees_holds

end Go.Proofs.Ythmjgadmadlpkaa
