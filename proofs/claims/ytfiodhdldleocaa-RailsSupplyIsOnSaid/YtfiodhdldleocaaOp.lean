/-
  Printed by a program of this session (wip/tools): plain functions with the same answers as the Go functions, and the proofs of it.
-/
import Derived.Test.YtfiodhdldleocaaProg
import Derived.Test.YtfiodhdldleocaaTy
import Derived.Test.YtfiodhdldleocaaSimF
namespace Go.Proofs.Ytfiodhdldleocaa.Sim
open Go
set_option linter.unusedVariables false
set_option linter.unusedSimpArgs false

def Wf_api_Rail (x : api_Rail) : Prop := (Lit.int .i64 x.Supply).wf = true ∧ (Lit.int .u64 x.RampUp).wf = true ∧ (Lit.int .u64 x.RampDown).wf = true
theorem opens_api_Rail : Opens Try.prog 35 kd_api_Rail Wf_api_Rail := by
  intro H enc w held fuel cs x h
  have hl : cs.length = 3 := by
    obtain ⟨_, _, _, _, hl, _⟩ := DataW.trod_struct Try.underlying35 h
    rw [hl]; kernel_rfl
  match cs, hl with
  | [c0, c1, c2], _ =>
    obtain ⟨ys0, m0, _, _, _, hlen0, hf0⟩ := DataW.trod_struct Try.underlying35 h
    obtain ⟨y0_0, h0_0⟩ := trod_field hf0 hlen0 0 rfl (n := 1) (by kernel_rfl)
    obtain ⟨n1, r1, w1⟩ := (Opens.int Try.underlying3) enc w held _ _ _ h0_0
    injection (show [c0] = [.int .i64 n1] from r1) with e1; subst e1
    obtain ⟨y0_1, h0_1⟩ := trod_field hf0 hlen0 1 rfl (n := 1) (by kernel_rfl)
    obtain ⟨n2, r2, w2⟩ := (Opens.int Try.underlying33) enc w held _ _ _ h0_1
    injection (show [c1] = [.int .u64 n2] from r2) with e2; subst e2
    obtain ⟨y0_2, h0_2⟩ := trod_field hf0 hlen0 2 rfl (n := 1) (by kernel_rfl)
    obtain ⟨n3, r3, w3⟩ := (Opens.int Try.underlying33) enc w held _ _ _ h0_2
    injection (show [c2] = [.int .u64 n3] from r3) with e3; subst e3
    exact ⟨(api_Rail.mk n1 n2 n3), rfl, ⟨w1, w2, w3⟩⟩

def Wf_law25_Call (x : law25_Call) : Prop := True ∧ (Lit.int .i64 x.Rail).wf = true ∧ (Lit.int .u64 x.Wait).wf = true ∧ True
theorem opens_law25_Call : Opens Try.prog 46 kd_law25_Call Wf_law25_Call := by
  intro H enc w held fuel cs x h
  have hl : cs.length = 4 := by
    obtain ⟨_, _, _, _, hl, _⟩ := DataW.trod_struct Try.underlying46 h
    rw [hl]; kernel_rfl
  match cs, hl with
  | [c0, c1, c2, c3], _ =>
    obtain ⟨ys0, m0, _, _, _, hlen0, hf0⟩ := DataW.trod_struct Try.underlying46 h
    obtain ⟨y0_0, h0_0⟩ := trod_field hf0 hlen0 0 rfl (n := 1) (by kernel_rfl)
    obtain ⟨n1, r1, w1⟩ := (Opens.bool Try.underlying4) enc w held _ _ _ h0_0
    injection (show [c0] = [.bool n1] from r1) with e1; subst e1
    obtain ⟨y0_1, h0_1⟩ := trod_field hf0 hlen0 1 rfl (n := 1) (by kernel_rfl)
    obtain ⟨n2, r2, w2⟩ := (Opens.int Try.underlying3) enc w held _ _ _ h0_1
    injection (show [c1] = [.int .i64 n2] from r2) with e2; subst e2
    obtain ⟨y0_2, h0_2⟩ := trod_field hf0 hlen0 2 rfl (n := 1) (by kernel_rfl)
    obtain ⟨n3, r3, w3⟩ := (Opens.int Try.underlying33) enc w held _ _ _ h0_2
    injection (show [c2] = [.int .u64 n3] from r3) with e3; subst e3
    obtain ⟨y0_3, h0_3⟩ := trod_field hf0 hlen0 3 rfl (n := 1) (by kernel_rfl)
    obtain ⟨n4, r4, w4⟩ := (Opens.bool Try.underlying4) enc w held _ _ _ h0_3
    injection (show [c3] = [.bool n4] from r4) with e4; subst e4
    exact ⟨(law25_Call.mk n1 n2 n3 n4), rfl, ⟨w1, w2, w3, w4⟩⟩


end Go.Proofs.Ytfiodhdldleocaa.Sim
