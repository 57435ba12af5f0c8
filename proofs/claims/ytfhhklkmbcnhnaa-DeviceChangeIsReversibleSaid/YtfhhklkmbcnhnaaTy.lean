/-
  Printed by a program of this session (wip/tools): plain functions with the same answers as the Go functions, and the proofs of it.
-/
import Derived.Test.YtfhhklkmbcnhnaaSimE
namespace Go.Proofs.Ytfhhklkmbcnhnaa.Sim
open Go
set_option linter.unusedVariables false
set_option linter.unusedSimpArgs false

structure api_PowerDevice where
  Parent : Int
  Rails : Ar4 (List Int)
  Deepest : Ar6 Int
  WakeDevice : Int
  WakeSystem : Int
def kd_api_PowerDevice : Kd api_PowerDevice where
  sz := 13
  R := fun w g C x cs => ∃ (A0 : Option Addr) (cap0 : Nat) (A1 : Option Addr) (cap1 : Nat) (A2 : Option Addr) (cap2 : Nat) (A3 : Option Addr) (cap3 : Nat), cs = [.int .i64 x.Parent, .slice A0 x.Rails.a0.length cap0, .slice A1 x.Rails.a1.length cap1, .slice A2 x.Rails.a2.length cap2, .slice A3 x.Rails.a3.length cap3, .int .i64 x.Deepest.a0, .int .i64 x.Deepest.a1, .int .i64 x.Deepest.a2, .int .i64 x.Deepest.a3, .int .i64 x.Deepest.a4, .int .i64 x.Deepest.a5, .int .i64 x.WakeDevice, .int .i64 x.WakeSystem] ∧ RdS (kint .i64) w g C A0 cap0 x.Rails.a0 ∧ RdS (kint .i64) w g C A1 cap1 x.Rails.a1 ∧ RdS (kint .i64) w g C A2 cap2 x.Rails.a2 ∧ RdS (kint .i64) w g C A3 cap3 x.Rails.a3
  len := by rintro w g C x cs ⟨A0, cap0, A1, cap1, A2, cap2, A3, cap3, rfl, h0, h1, h2, h3⟩; rfl
  one := by
    rintro w g C x cs ⟨A0, cap0, A1, cap1, A2, cap2, A3, cap3, rfl, h0, h1, h2, h3⟩ v hv
    simp only [List.mem_cons, List.not_mem_nil, or_false] at hv
    rcases hv with rfl | rfl | rfl | rfl | rfl | rfl | rfl | rfl | rfl | rfl | rfl | rfl | rfl <;> rfl
  fr := by rintro M w g w' g' C x cs F hC ⟨A0, cap0, A1, cap1, A2, cap2, A3, cap3, rfl, h0, h1, h2, h3⟩; exact ⟨A0, cap0, A1, cap1, A2, cap2, A3, cap3, rfl, RdS.fr h0 F (by decide) hC, RdS.fr h1 F (by decide) hC, RdS.fr h2 F (by decide) hC, RdS.fr h3 F (by decide) hC⟩
  re := by rintro w g g' C C' x cs h ⟨A0, cap0, A1, cap1, A2, cap2, A3, cap3, rfl, h0, h1, h2, h3⟩; exact ⟨A0, cap0, A1, cap1, A2, cap2, A3, cap3, rfl, RdX.re h0 (by decide) h h, RdX.re h1 (by decide) h h, RdX.re h2 (by decide) h h, RdX.re h3 (by decide) h h⟩


end Go.Proofs.Ytfhhklkmbcnhnaa.Sim
