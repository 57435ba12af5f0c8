/-
  Printed by a program of this session (wip/tools): plain functions with the same answers as the Go functions, and the proofs of it.
-/
import Derived.Test.YtfhhklkmbcnhnaaR4
import Derived.Test.YtfhhklkmbcnhnaaOp
namespace Go.Proofs.Ytfhhklkmbcnhnaa.Sim
open Go
set_option linter.unusedVariables false
set_option linter.unusedSimpArgs false

/-- What is left of law27_DeviceCheckAgrees: about plain values alone. -/
def law27_DeviceCheckAgrees.Pure : Prop := ∀ (p0 : List api_PowerDevice) (p1 : Int) (p2 : Int) (p3 : Int) (p4 : Int), (p0.length ≤ maxLen ∧ ∀ p0' ∈ p0, Wf_api_PowerDevice p0') → (Lit.int .i64 p1).wf = true → (Lit.int .i64 p2).wf = true → (Lit.int .i64 p3).wf = true → (Lit.int .u8 p4).wf = true → law27_DeviceCheckAgrees.f p0 p1 p2 p3 p4 = some true
/-- What is left of law27_DeviceTargetAgrees: about plain values alone. -/
def law27_DeviceTargetAgrees.Pure : Prop := ∀ (p0 : api_PowerDevice) (p1 : Int) (p2 : Bool), Wf_api_PowerDevice p0 → (Lit.int .i64 p1).wf = true → law27_DeviceTargetAgrees.f p0 p1 p2 = some true
/-- What is left of law27_DeviceTargetPermitsWake: about plain values alone. -/
def law27_DeviceTargetPermitsWake.Pure : Prop := ∀ (p0 : api_PowerDevice) (p1 : Int), Wf_api_PowerDevice p0 → (Lit.int .i64 p1).wf = true → law27_DeviceTargetPermitsWake.f p0 p1 = some true
/-- What is left of law27_DeviceChangeAgrees: about plain values alone. -/
def law27_DeviceChangeAgrees.Pure : Prop := ∀ (p0 : api_PowerDevice) (p1 : Int) (p2 : Int), Wf_api_PowerDevice p0 → (Lit.int .i64 p1).wf = true → (Lit.int .i64 p2).wf = true → law27_DeviceChangeAgrees.f p0 p1 p2 = some true
/-- What is left of law27_DeviceChangeIsReversible: about plain values alone. -/
def law27_DeviceChangeIsReversible.Pure : Prop := ∀ (p0 : api_PowerDevice) (p1 : Int) (p2 : Int), Wf_api_PowerDevice p0 → (Lit.int .i64 p1).wf = true → (Lit.int .i64 p2).wf = true → law27_DeviceChangeIsReversible.f p0 p1 p2 = some true

end Go.Proofs.Ytfhhklkmbcnhnaa.Sim
