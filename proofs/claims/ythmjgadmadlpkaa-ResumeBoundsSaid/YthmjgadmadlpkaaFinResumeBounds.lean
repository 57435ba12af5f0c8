/-
  The law ResumeBounds of the given program answers true for every input and leaves its arguments as they were. No condition.
-/
import Derived.Test.YthmjgadmadlpkaaZResumeBounds5
namespace Go.Proofs.Ythmjgadmadlpkaa

theorem resumeBounds_holds : Rows.ResumeBoundsSaid := Sim.RowResumeBounds.over Sim.resumeBounds

#print axioms resumeBounds_holds

end Go.Proofs.Ythmjgadmadlpkaa
