/-
  Printed by a program of this session (wip/tools): plain functions with the same answers as the Go functions, and the proofs of it.
-/
import Derived.Test.YtfhhklkmbcnhnaaProg
import Derived.Test.YtfhhklkmbcnhnaaTy
import Derived.Test.YtfhhklkmbcnhnaaSimF
namespace Go.Proofs.Ytfhhklkmbcnhnaa.Sim
open Go
set_option linter.unusedVariables false
set_option linter.unusedSimpArgs false

def Wf_api_PowerDevice (x : api_PowerDevice) : Prop := (Lit.int .i64 x.Parent).wf = true ∧ (x.Rails.a0.length ≤ maxLen ∧ ∀ x' ∈ x.Rails.a0, (Lit.int .i64 x').wf = true) ∧ (x.Rails.a1.length ≤ maxLen ∧ ∀ x' ∈ x.Rails.a1, (Lit.int .i64 x').wf = true) ∧ (x.Rails.a2.length ≤ maxLen ∧ ∀ x' ∈ x.Rails.a2, (Lit.int .i64 x').wf = true) ∧ (x.Rails.a3.length ≤ maxLen ∧ ∀ x' ∈ x.Rails.a3, (Lit.int .i64 x').wf = true) ∧ (Lit.int .i64 x.Deepest.a0).wf = true ∧ (Lit.int .i64 x.Deepest.a1).wf = true ∧ (Lit.int .i64 x.Deepest.a2).wf = true ∧ (Lit.int .i64 x.Deepest.a3).wf = true ∧ (Lit.int .i64 x.Deepest.a4).wf = true ∧ (Lit.int .i64 x.Deepest.a5).wf = true ∧ (Lit.int .i64 x.WakeDevice).wf = true ∧ (Lit.int .i64 x.WakeSystem).wf = true
theorem opens_api_PowerDevice : Opens Try.prog 33 kd_api_PowerDevice Wf_api_PowerDevice := by
  intro H enc w held fuel cs x h
  have hl : cs.length = 13 := by
    obtain ⟨_, _, _, _, hl, _⟩ := DataW.trod_struct Try.underlying33 h
    rw [hl]; kernel_rfl
  match cs, hl with
  | [c0, c1, c2, c3, c4, c5, c6, c7, c8, c9, c10, c11, c12], _ =>
    obtain ⟨ys0, m0, _, _, _, hlen0, hf0⟩ := DataW.trod_struct Try.underlying33 h
    obtain ⟨y0_0, h0_0⟩ := trod_field hf0 hlen0 0 rfl (n := 1) (by kernel_rfl)
    obtain ⟨n1, r1, w1⟩ := (Opens.int Try.underlying3) enc w held _ _ _ h0_0
    injection (show [c0] = [.int .i64 n1] from r1) with e1; subst e1
    obtain ⟨y0_1, h0_1⟩ := trod_field hf0 hlen0 1 rfl (n := 4) (by kernel_rfl)
    obtain ⟨ys2, m2, _, _, _, hlen2, hf2⟩ := DataW.trod_array Try.underlying30 h0_1
    obtain ⟨y2_0, h2_0⟩ := trod_elem hf2 hlen2 0 (by decide) (sz := 1) (by kernel_rfl)
    obtain ⟨n3, r3, w3⟩ := (Opens.slice Try.underlying29 (by decide) (by kernel_rfl) (Opens.int Try.underlying3)) enc w held _ _ _ h2_0
    obtain ⟨A3, cap3, e3, s3⟩ := r3
    injection (show [c1] = [.slice A3 n3.length cap3] from e3) with e3; subst e3
    obtain ⟨y2_1, h2_1⟩ := trod_elem hf2 hlen2 1 (by decide) (sz := 1) (by kernel_rfl)
    obtain ⟨n4, r4, w4⟩ := (Opens.slice Try.underlying29 (by decide) (by kernel_rfl) (Opens.int Try.underlying3)) enc w held _ _ _ h2_1
    obtain ⟨A4, cap4, e4, s4⟩ := r4
    injection (show [c2] = [.slice A4 n4.length cap4] from e4) with e4; subst e4
    obtain ⟨y2_2, h2_2⟩ := trod_elem hf2 hlen2 2 (by decide) (sz := 1) (by kernel_rfl)
    obtain ⟨n5, r5, w5⟩ := (Opens.slice Try.underlying29 (by decide) (by kernel_rfl) (Opens.int Try.underlying3)) enc w held _ _ _ h2_2
    obtain ⟨A5, cap5, e5, s5⟩ := r5
    injection (show [c3] = [.slice A5 n5.length cap5] from e5) with e5; subst e5
    obtain ⟨y2_3, h2_3⟩ := trod_elem hf2 hlen2 3 (by decide) (sz := 1) (by kernel_rfl)
    obtain ⟨n6, r6, w6⟩ := (Opens.slice Try.underlying29 (by decide) (by kernel_rfl) (Opens.int Try.underlying3)) enc w held _ _ _ h2_3
    obtain ⟨A6, cap6, e6, s6⟩ := r6
    injection (show [c4] = [.slice A6 n6.length cap6] from e6) with e6; subst e6
    obtain ⟨y0_2, h0_2⟩ := trod_field hf0 hlen0 2 rfl (n := 6) (by kernel_rfl)
    obtain ⟨ys7, m7, _, _, _, hlen7, hf7⟩ := DataW.trod_array Try.underlying31 h0_2
    obtain ⟨y7_0, h7_0⟩ := trod_elem hf7 hlen7 0 (by decide) (sz := 1) (by kernel_rfl)
    obtain ⟨n8, r8, w8⟩ := (Opens.int Try.underlying3) enc w held _ _ _ h7_0
    injection (show [c5] = [.int .i64 n8] from r8) with e8; subst e8
    obtain ⟨y7_1, h7_1⟩ := trod_elem hf7 hlen7 1 (by decide) (sz := 1) (by kernel_rfl)
    obtain ⟨n9, r9, w9⟩ := (Opens.int Try.underlying3) enc w held _ _ _ h7_1
    injection (show [c6] = [.int .i64 n9] from r9) with e9; subst e9
    obtain ⟨y7_2, h7_2⟩ := trod_elem hf7 hlen7 2 (by decide) (sz := 1) (by kernel_rfl)
    obtain ⟨n10, r10, w10⟩ := (Opens.int Try.underlying3) enc w held _ _ _ h7_2
    injection (show [c7] = [.int .i64 n10] from r10) with e10; subst e10
    obtain ⟨y7_3, h7_3⟩ := trod_elem hf7 hlen7 3 (by decide) (sz := 1) (by kernel_rfl)
    obtain ⟨n11, r11, w11⟩ := (Opens.int Try.underlying3) enc w held _ _ _ h7_3
    injection (show [c8] = [.int .i64 n11] from r11) with e11; subst e11
    obtain ⟨y7_4, h7_4⟩ := trod_elem hf7 hlen7 4 (by decide) (sz := 1) (by kernel_rfl)
    obtain ⟨n12, r12, w12⟩ := (Opens.int Try.underlying3) enc w held _ _ _ h7_4
    injection (show [c9] = [.int .i64 n12] from r12) with e12; subst e12
    obtain ⟨y7_5, h7_5⟩ := trod_elem hf7 hlen7 5 (by decide) (sz := 1) (by kernel_rfl)
    obtain ⟨n13, r13, w13⟩ := (Opens.int Try.underlying3) enc w held _ _ _ h7_5
    injection (show [c10] = [.int .i64 n13] from r13) with e13; subst e13
    obtain ⟨y0_3, h0_3⟩ := trod_field hf0 hlen0 3 rfl (n := 1) (by kernel_rfl)
    obtain ⟨n14, r14, w14⟩ := (Opens.int Try.underlying3) enc w held _ _ _ h0_3
    injection (show [c11] = [.int .i64 n14] from r14) with e14; subst e14
    obtain ⟨y0_4, h0_4⟩ := trod_field hf0 hlen0 4 rfl (n := 1) (by kernel_rfl)
    obtain ⟨n15, r15, w15⟩ := (Opens.int Try.underlying3) enc w held _ _ _ h0_4
    injection (show [c12] = [.int .i64 n15] from r15) with e15; subst e15
    exact ⟨(api_PowerDevice.mk n1 (Ar4.mk n3 n4 n5 n6) (Ar6.mk n8 n9 n10 n11 n12 n13) n14 n15), ⟨A3, cap3, A4, cap4, A5, cap5, A6, cap6, rfl, s3, s4, s5, s6⟩, ⟨w1, w3, w4, w5, w6, w8, w9, w10, w11, w12, w13, w14, w15⟩⟩


end Go.Proofs.Ytfhhklkmbcnhnaa.Sim
