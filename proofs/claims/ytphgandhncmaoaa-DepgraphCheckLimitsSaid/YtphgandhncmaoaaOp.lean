/-
  Printed by a program of this session (wip/tools): plain functions with the same answers as the Go functions, and the proofs of it.
-/
import Derived.Test.YtphgandhncmaoaaProg
import Derived.Test.YtphgandhncmaoaaTy
import Derived.Test.YtphgandhncmaoaaSimF
namespace Go.Proofs.Ytphgandhncmaoaa.Sim
open Go
set_option linter.unusedVariables false
set_option linter.unusedSimpArgs false

def Wf_api_Link (x : api_Link) : Prop := (Lit.int .i64 x.Consumer).wf = true ∧ (Lit.int .i64 x.Supplier).wf = true
theorem opens_api_Link : Opens Try.prog 34 kd_api_Link Wf_api_Link := by
  intro H enc w held fuel cs x h
  have hl : cs.length = 2 := by
    obtain ⟨_, _, _, _, hl, _⟩ := DataW.trod_struct Try.underlying34 h
    rw [hl]; kernel_rfl
  match cs, hl with
  | [c0, c1], _ =>
    obtain ⟨ys0, m0, _, _, _, hlen0, hf0⟩ := DataW.trod_struct Try.underlying34 h
    obtain ⟨y0_0, h0_0⟩ := trod_field hf0 hlen0 0 rfl (n := 1) (by kernel_rfl)
    obtain ⟨n1, r1, w1⟩ := (Opens.int Try.underlying3) enc w held _ _ _ h0_0
    injection (show [c0] = [.int .i64 n1] from r1) with e1; subst e1
    obtain ⟨y0_1, h0_1⟩ := trod_field hf0 hlen0 1 rfl (n := 1) (by kernel_rfl)
    obtain ⟨n2, r2, w2⟩ := (Opens.int Try.underlying3) enc w held _ _ _ h0_1
    injection (show [c1] = [.int .i64 n2] from r2) with e2; subst e2
    exact ⟨(api_Link.mk n1 n2), rfl, ⟨w1, w2⟩⟩


end Go.Proofs.Ytphgandhncmaoaa.Sim
